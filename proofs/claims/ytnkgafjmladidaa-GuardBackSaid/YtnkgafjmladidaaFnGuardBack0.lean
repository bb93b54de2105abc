/- What the functions that GuardBack reaches come to, and that they do. On no condition. -/
import Derived.Test.YtnkgafjmladidaaSlDraw
import Derived.Test.YtnkgafjmladidaaProg
set_option linter.all false
namespace Go.Proofs
open Go.Sl Go.RowKit
theorem inf3 : Try.prog.info? 3 = some Try.t3 := by kernel_rfl
theorem inf48 : Try.prog.info? 48 = some Try.t48 := by kernel_rfl
structure api_Call where
  Op : Int
  Cap : Int
  A : Int
  B : Int
  C : Int
  D : Int
  deriving DecidableEq, Inhabited
def ek_api_Call : EK api_Call := ⟨6, fun x => [.int .i64 x.Op, .int .i64 x.Cap, .int .i64 x.A, .int .i64 x.B, .int .i64 x.C, .int .i64 x.D], fun _ => rfl, fun x v hv => by
  simp only [List.mem_cons, List.not_mem_nil, or_false] at hv
  rcases hv with rfl | rfl | rfl | rfl | rfl | rfl <;> rfl, by decide⟩
theorem eqI_api_Call (x y : api_Call) : eqI [x.Op, x.Cap, x.A, x.B, x.C, x.D] [y.Op, y.Cap, y.A, y.B, y.C, y.D] = decide (x = y) := by
  cases x; cases y
  rw [Bool.eq_iff_iff]
  simp [eqI]
theorem fi_api_Call : ∀ fs, Try.prog.underlying 42 = some (.struct fs) → FI Try.prog fs.toList 0 [.i64, .i64, .i64, .i64, .i64, .i64] := by
  intro fs h
  rw [Try.underlying42] at h
  injection h with h
  injection h with h
  subst h
  exact ⟨by decide, Try.underlying3, rfl, ⟨by decide, Try.underlying3, rfl, ⟨by decide, Try.underlying3, rfl, ⟨by decide, Try.underlying3, rfl, ⟨by decide, Try.underlying3, rfl, ⟨by decide, Try.underlying3, rfl, trivial⟩⟩⟩⟩⟩⟩
theorem eq_eql_api_Call {ρ : Env} {t2 : TypeId} {x y : api_Call} {a b : Operand} (ha : ev ρ a = some (.agg (encI [.i64, .i64, .i64, .i64, .i64, .i64] [x.Op, x.Cap, x.A, x.B, x.C, x.D]).toArray)) (hb : ev ρ b = some (.agg (encI [.i64, .i64, .i64, .i64, .i64, .i64] [y.Op, y.Cap, y.A, y.B, y.C, y.D]).toArray)) : OpV Try.prog ρ (.binOp .eql 42 a b t2) (.bool (decide (x = y))) :=
  opv_eqlS Try.underlying42 Try.stoodInHeld42 Try.eqGuardType42 (fi_api_Call _ Try.underlying42) rfl rfl ha hb (by rw [eqI_api_Call])
theorem eq_neq_api_Call {ρ : Env} {t2 : TypeId} {x y : api_Call} {a b : Operand} (ha : ev ρ a = some (.agg (encI [.i64, .i64, .i64, .i64, .i64, .i64] [x.Op, x.Cap, x.A, x.B, x.C, x.D]).toArray)) (hb : ev ρ b = some (.agg (encI [.i64, .i64, .i64, .i64, .i64, .i64] [y.Op, y.Cap, y.A, y.B, y.C, y.D]).toArray)) : OpV Try.prog ρ (.binOp .neq 42 a b t2) (.bool (!decide (x = y))) :=
  opv_neqS Try.underlying42 Try.stoodInHeld42 Try.eqGuardType42 (fi_api_Call _ Try.underlying42) rfl rfl ha hb (by rw [eqI_api_Call])
structure api_Reply where
  Code : Int
  Word : Int
  Badge : Int
  deriving DecidableEq, Inhabited
def ek_api_Reply : EK api_Reply := ⟨3, fun x => [.int .i64 x.Code, .int .i64 x.Word, .int .i64 x.Badge], fun _ => rfl, fun x v hv => by
  simp only [List.mem_cons, List.not_mem_nil, or_false] at hv
  rcases hv with rfl | rfl | rfl <;> rfl, by decide⟩
theorem eqI_api_Reply (x y : api_Reply) : eqI [x.Code, x.Word, x.Badge] [y.Code, y.Word, y.Badge] = decide (x = y) := by
  cases x; cases y
  rw [Bool.eq_iff_iff]
  simp [eqI]
theorem fi_api_Reply : ∀ fs, Try.prog.underlying 82 = some (.struct fs) → FI Try.prog fs.toList 0 [.i64, .i64, .i64] := by
  intro fs h
  rw [Try.underlying82] at h
  injection h with h
  injection h with h
  subst h
  exact ⟨by decide, Try.underlying3, rfl, ⟨by decide, Try.underlying3, rfl, ⟨by decide, Try.underlying3, rfl, trivial⟩⟩⟩
theorem eq_eql_api_Reply {ρ : Env} {t2 : TypeId} {x y : api_Reply} {a b : Operand} (ha : ev ρ a = some (.agg (encI [.i64, .i64, .i64] [x.Code, x.Word, x.Badge]).toArray)) (hb : ev ρ b = some (.agg (encI [.i64, .i64, .i64] [y.Code, y.Word, y.Badge]).toArray)) : OpV Try.prog ρ (.binOp .eql 82 a b t2) (.bool (decide (x = y))) :=
  opv_eqlS Try.underlying82 Try.stoodInHeld82 Try.eqGuardType82 (fi_api_Reply _ Try.underlying82) rfl rfl ha hb (by rw [eqI_api_Reply])
theorem eq_neq_api_Reply {ρ : Env} {t2 : TypeId} {x y : api_Reply} {a b : Operand} (ha : ev ρ a = some (.agg (encI [.i64, .i64, .i64] [x.Code, x.Word, x.Badge]).toArray)) (hb : ev ρ b = some (.agg (encI [.i64, .i64, .i64] [y.Code, y.Word, y.Badge]).toArray)) : OpV Try.prog ρ (.binOp .neq 82 a b t2) (.bool (!decide (x = y))) :=
  opv_neqS Try.underlying82 Try.stoodInHeld82 Try.eqGuardType82 (fi_api_Reply _ Try.underlying82) rfl rfl ha hb (by rw [eqI_api_Reply])
structure api_Cap where
  Kind : Int
  Rights : Int
  Obj : Int
  Badge : Int
  Guard : Int
  Bits : Int
  deriving DecidableEq, Inhabited
def ek_api_Cap : EK api_Cap := ⟨6, fun x => [.int .i64 x.Kind, .int .i64 x.Rights, .int .i64 x.Obj, .int .i64 x.Badge, .int .i64 x.Guard, .int .i64 x.Bits], fun _ => rfl, fun x v hv => by
  simp only [List.mem_cons, List.not_mem_nil, or_false] at hv
  rcases hv with rfl | rfl | rfl | rfl | rfl | rfl <;> rfl, by decide⟩
theorem eqI_api_Cap (x y : api_Cap) : eqI [x.Kind, x.Rights, x.Obj, x.Badge, x.Guard, x.Bits] [y.Kind, y.Rights, y.Obj, y.Badge, y.Guard, y.Bits] = decide (x = y) := by
  cases x; cases y
  rw [Bool.eq_iff_iff]
  simp [eqI]
theorem fi_api_Cap : ∀ fs, Try.prog.underlying 53 = some (.struct fs) → FI Try.prog fs.toList 0 [.i64, .i64, .i64, .i64, .i64, .i64] := by
  intro fs h
  rw [Try.underlying53] at h
  injection h with h
  injection h with h
  subst h
  exact ⟨by decide, Try.underlying3, rfl, ⟨by decide, Try.underlying3, rfl, ⟨by decide, Try.underlying3, rfl, ⟨by decide, Try.underlying3, rfl, ⟨by decide, Try.underlying3, rfl, ⟨by decide, Try.underlying3, rfl, trivial⟩⟩⟩⟩⟩⟩
theorem eq_eql_api_Cap {ρ : Env} {t2 : TypeId} {x y : api_Cap} {a b : Operand} (ha : ev ρ a = some (.agg (encI [.i64, .i64, .i64, .i64, .i64, .i64] [x.Kind, x.Rights, x.Obj, x.Badge, x.Guard, x.Bits]).toArray)) (hb : ev ρ b = some (.agg (encI [.i64, .i64, .i64, .i64, .i64, .i64] [y.Kind, y.Rights, y.Obj, y.Badge, y.Guard, y.Bits]).toArray)) : OpV Try.prog ρ (.binOp .eql 53 a b t2) (.bool (decide (x = y))) :=
  opv_eqlS Try.underlying53 Try.stoodInHeld53 Try.eqGuardType53 (fi_api_Cap _ Try.underlying53) rfl rfl ha hb (by rw [eqI_api_Cap])
theorem eq_neq_api_Cap {ρ : Env} {t2 : TypeId} {x y : api_Cap} {a b : Operand} (ha : ev ρ a = some (.agg (encI [.i64, .i64, .i64, .i64, .i64, .i64] [x.Kind, x.Rights, x.Obj, x.Badge, x.Guard, x.Bits]).toArray)) (hb : ev ρ b = some (.agg (encI [.i64, .i64, .i64, .i64, .i64, .i64] [y.Kind, y.Rights, y.Obj, y.Badge, y.Guard, y.Bits]).toArray)) : OpV Try.prog ρ (.binOp .neq 53 a b t2) (.bool (!decide (x = y))) :=
  opv_neqS Try.underlying53 Try.stoodInHeld53 Try.eqGuardType53 (fi_api_Cap _ Try.underlying53) rfl rfl ha hb (by rw [eqI_api_Cap])
end Go.Proofs
namespace Go.Proofs
open Go.Sl Go.RowKit
/-! 43 padstone/guard.Join -/
def guard_Join.l1 (a0 : List Int) (a1 : List Int) : Nat → (Int × Int × Int) → Option (Brk (Int × (Option Int)) Int)
  | 0, _ => none
  | k + 1, (x18_1, x7_1, x6_1) => bif decide (x18_1 < (a1.length : Int)) then ((at_ a1 x18_1).bind fun x3 => (bif decide (x3 < 0) then (some (true, true, true, true, true)) else (bif decide (x7_1 < x3) then (some (decide (x7_1 < x3), decide (x7_1 < x3), true, true, true)) else ((at_ a0 x18_1).bind fun x7 => bif decide (x7 < 0) then (some (decide (x7_1 < x3), decide (x7_1 < x3), decide (x7 < 0), decide (x7 < 0), true)) else ((at_ a0 x18_1).bind fun x10 => (chk (decide (0 ≤ x3))).bind fun _ => some (decide (x7_1 < x3), decide (x7_1 < x3), decide (x7 < 0), decide (x7 < 0), decide ((bshl .i64 1 x3) ≤ x10)))))).bind fun (j29_2, j30_2, j36_2, j37_2, j45_2) => bif j45_2 then (some (Brk.ret (0, (some 1)))) else ((at_ a0 x18_1).bind fun x14 => (chk (decide (0 ≤ w64 (x7_1 - x3)))).bind fun _ => guard_Join.l1 a0 a1 k (w64 (x18_1 + 1), w64 (x7_1 - x3), bor .i64 x6_1 (bshl .i64 x14 (w64 (x7_1 - x3)))))) else (some (Brk.nx x6_1))
def guard_Join.f (k : Nat) (a0 : List Int) (a1 : List Int) : Option (Int × (Option Int)) :=
  bif (a0.length : Int) != (a1.length : Int) then (some (0, (some 1))) else ((guard_Join.l1 a0 a1 k (0, 16, 0)).bind fun o1 => Brk.go o1 (fun r => some r) (fun j6_e1 => some (j6_e1, none)))
set_option maxHeartbeats 8000000 in
set_option maxRecDepth 100000 in
theorem guard_Join.ct (k : Nat) (v0 : Value) (v1 : Value) (a0 : List Int) (a1 : List Int) (r0 : Int) (r1 : Option Int) (h : guard_Join.f k a0 a1 = some (r0, r1)) :
    Ct Try.prog 43 [v0, v1] (fun F => Rd (ekI .i64) v0 a0 F ∧ Rd (ekI .i64) v1 a1 F) [] (fun u H' => u = .tuple #[.int .i64 r0, errV 48 r1] ∧ H' = []) := by
  unfold guard_Join.f at h
  refine Ct.intro (n := 60) Try.func43 rfl rfl rfl ?_
  intro R w0 F hF hR
  obtain ⟨hF0, hF1⟩ := hF
  refine S.seq ?_
  refine S.region ?_
  refine SO.v rfl (opv_assign rfl) ?_
  refine SO.v rfl (opv_assign rfl) ?_
  refine SO.nil ?_
  refine S.seq ?_
  refine S.seq ?_
  refine S.region ?_
  refine SO.v rfl (opv_move rfl) ?_
  refine SO.v rfl (opv_lenR rfl Try.underlying73 hF0 rfl) ?_
  refine SO.v rfl (opv_move rfl) ?_
  refine SO.v rfl (opv_lenR rfl Try.underlying73 hF1 rfl) ?_
  refine SO.v rfl (opv_neq rfl rfl) ?_
  refine SO.nil ?_
  rcases bool_or ((a0.length : Int) != (a1.length : Int)) with b1 | b1
  · replace h := cond_t b1 h
    refine S.condT rfl b1 ?_
    refine S.seq ?_
    refine S.region ?_
    refine SO.v rfl (opv_iface Try.underlying48 rfl rfl) ?_
    refine SO.v rfl (opv_assign rfl) ?_
    refine SO.v rfl (opv_assign rfl) ?_
    refine SO.nil ?_
    cases h
    exact S.ret2 Try.func43 rfl rfl rfl (fun w hs hk => hR w _ _ ⟨rfl, rfl⟩ hs hk)
  · replace h := cond_f b1 h
    refine S.condF rfl b1 ?_
    refine S.skip ?_
    refine S.seq ?_
    refine S.region ?_
    refine SO.v rfl (opv_assign rfl) ?_
    refine SO.v rfl (opv_assign rfl) ?_
    refine SO.nil ?_
    refine S.seq ?_
    refine S.seq ?_
    refine S.region ?_
    refine SO.v rfl (opv_move rfl) ?_
    refine SO.v rfl (opv_lenR rfl Try.underlying73 hF1 rfl) ?_
    refine SO.v rfl (opv_move rfl) ?_
    refine SO.nil ?_
    obtain ⟨o1, hl1, h⟩ := opt_bind h
    refine S.to (ρ' := [(18, .int .i64 0), (17, .int .i64 (a1.length : Int)), (16, v1), (7, .int .i64 16), (6, .int .i64 0), (5, errV 48 none), (4, .int .i64 0), (0, v0)]) ⟨rfl, rfl, rfl, rfl, rfl, rfl, rfl, rfl, trivial⟩ ?_
    refine S.forloop (X := (Int × Int × Int) × Unit) (O := Brk (Int × (Option Int)) Int) (fun m x => guard_Join.l1 a0 a1 m x.1) (fun x => match x with | ((x18_1, x7_1, x6_1), _) => [(18, .int .i64 x18_1), (17, .int .i64 (a1.length : Int)), (16, v1), (7, .int .i64 x7_1), (6, .int .i64 x6_1), (5, errV 48 none), (4, .int .i64 0), (0, v0)]) (fun x => match x with | ((x18_1, x7_1, x6_1), _) => [F]) (fun Sk o' => (∀ r', o' = Brk.ret r' → some r' = some (r0, r1)) ∧ ∀ j6_e1 : Int, ∀ _ : Unit, o' = Brk.nx j6_e1 → Sk [(4, .int .i64 0), (5, errV 48 none), (6, .int .i64 j6_e1)] [F]) (fun _ => rfl) ?_ (m := k) (x := ((0, 16, 0), ())) hl1 ?_
    · clear h hl1
      intro k x o_1 h hK1 ih1
      obtain ⟨⟨x18_1, x7_1, x6_1⟩, _⟩ := x
      replace h : guard_Join.l1 a0 a1 (k + 1) (x18_1, x7_1, x6_1) = some o_1 := h
      rw [guard_Join.l1] at h
      refine S.seq ?_
      refine S.region ?_
      refine SO.v rfl (opv_lss rfl rfl) ?_
      refine SO.nil ?_
      refine S.seq ?_
      rcases bool_or (decide (x18_1 < (a1.length : Int))) with b2 | b2
      · replace h := cond_t b2 h
        refine S.condT rfl b2 ?_
        refine S.skip ?_
        refine S.seq ?_
        refine S.block ?_
        refine S.seq ?_
        refine S.region ?_
        refine SO.v rfl (opv_move rfl) ?_
        obtain ⟨x3, hx4, h⟩ := opt_bind h
        refine SO.v rfl (opv_idx Try.underlying73 Try.sizeOf3 hF1 rfl rfl hx4) ?_
        refine SO.loadI1 (j := 0) rfl Try.isAgg3 (Rd.head hF1) hx4 rfl rfl rfl rfl ?_
        refine SO.v rfl (opv_assign rfl) ?_
        refine SO.v rfl (opv_assign rfl) ?_
        refine SO.nil ?_
        refine S.seq ?_
        refine S.seq ?_
        obtain ⟨⟨j29_2, j30_2, j36_2, j37_2, j45_2⟩, hC2, hJ2⟩ := opt_bind h
        clear h
        refine S.cutP (G := Unit) (fun _ => True) (fun _ => [(0, v0), (4, .int .i64 0), (5, errV 48 none), (6, .int .i64 x6_1), (7, .int .i64 x7_1), (8, .int .i64 x18_1), (9, .int .i64 x3), (16, v1), (17, .int .i64 (a1.length : Int)), (18, .int .i64 x18_1), (19, .bool (decide (x18_1 < (a1.length : Int)))), (20, .int .i64 x18_1), (21, idxp v1 (x18_1.toNat * (ekI .i64).sz)), (22, .int .i64 x3), (23, .int .i64 x3), (24, .bool (decide (x3 < 0))), (25, .bool (decide (x3 < 0))), (29, .bool j29_2), (30, .bool j30_2), (36, .bool j36_2), (37, .bool j37_2), (45, .bool j45_2)]) (fun _ => [F]) (fun hk2 => ?_) ?_
        · replace h := hC2
          rcases bool_or (decide (x3 < 0)) with b5 | b5
          · replace h := cond_t b5 h
            refine S.draw' (Z := fun Q => ∀ (_ : Unit) (_ : Unit) (_ : Unit) (_ : Unit) (_ : Unit) (_ : Unit) (_ : Unit) (_ : Unit) (_ : Unit) (_ : Unit) (_ : Unit) (_ : Unit) (_ : Unit) (_ : Unit) (_ : Unit) (_ : Unit) (_ : Unit) (_ : Unit) (_ : Unit) (_ : Unit) (_ : Unit) (_ : Unit) (_ : Unit) (_ : Unit) (_ : Unit) (_ : Unit) (_ : Unit) (_ : Unit) (_ : Unit), Q [(22, .int .i64 x3), (21, idxp v1 (x18_1.toNat * (ekI .i64).sz)), (20, .int .i64 x18_1), (19, .bool (decide (x18_1 < (a1.length : Int)))), (18, .int .i64 x18_1), (17, .int .i64 (a1.length : Int)), (16, v1), (6, .int .i64 x6_1), (5, errV 48 none), (4, .int .i64 0), (7, .int .i64 x7_1), (0, v0), (8, .int .i64 x18_1), (9, .int .i64 x3), (23, .int .i64 x3), (24, .bool (decide (x3 < 0))), (25, .bool (decide (x3 < 0))), (26, undef), (27, undef), (28, undef), (29, .bool true), (30, .bool true), (31, undef), (32, undef), (33, undef), (34, undef), (35, undef), (36, .bool true), (37, .bool true), (38, undef), (39, undef), (40, undef), (41, undef), (42, undef), (43, undef), (44, undef), (45, .bool true)] [F]) (T := [tS 9 (.int .i64 x3), tS 7 (.int .i64 x7_1), tS 0 (v0), tS 8 (.int .i64 x18_1), tE [(22, .int .i64 x3), (21, idxp v1 (x18_1.toNat * (ekI .i64).sz)), (20, .int .i64 x18_1), (19, .bool (decide (x18_1 < (a1.length : Int)))), (18, .int .i64 x18_1), (17, .int .i64 (a1.length : Int)), (16, v1), (6, .int .i64 x6_1), (5, errV 48 none), (4, .int .i64 0)], tR (F), tS 23 (.int .i64 x3), tS 24 (.bool (decide (x3 < 0))), tS 25 (.bool (decide (x3 < 0))), tS 26 (undef), tS 27 (undef), tS 28 (undef), tS 29 (.bool true), tS 30 (.bool true), tS 31 (undef), tS 32 (undef), tS 33 (undef), tS 34 (undef), tS 35 (undef), tS 36 (.bool true), tS 37 (.bool true), tS 38 (undef), tS 39 (undef), tS 40 (undef), tS 41 (undef), tS 42 (undef), tS 43 (undef), tS 44 (undef), tS 45 (.bool true)]) (D := [⟨[0], [], [6]⟩, ⟨[6], [], [7]⟩, ⟨[7], [], [8]⟩, ⟨[8], [], [9]⟩, ⟨[8], [], [10]⟩, ⟨[8], [], [11]⟩, ⟨[8, 11], [], [12]⟩, ⟨[12], [], [13]⟩, ⟨[13], [], [14]⟩, ⟨[13], [], [15]⟩, ⟨[13], [], [16]⟩, ⟨[13], [], [17]⟩, ⟨[13], [], [18]⟩, ⟨[13, 18], [], [19]⟩, ⟨[19], [], [20]⟩, ⟨[20], [], [21]⟩, ⟨[20], [], [22]⟩, ⟨[20], [], [23]⟩, ⟨[20], [], [24]⟩, ⟨[20], [], [25]⟩, ⟨[20], [], [26]⟩, ⟨[20], [], [27]⟩, ⟨[20, 27], [], [28]⟩]) (ini := [0, 1, 2, 3, 4, 5]) (fin := [4, 1, 2, 3, 0, 6, 7, 8, 9, 10, 11, 12, 13, 14, 15, 16, 17, 18, 19, 20, 21, 22, 23, 24, 25, 26, 27, 28, 5]) (bf := [[], [0], [0, 1], [0, 1, 2], [0, 1, 2], [0, 1, 2, 3, 4], [0, 1, 2, 3, 4, 5], [0, 1, 2, 3, 4, 5, 6], [0, 1, 2, 3, 4, 5, 6, 7], [0, 1, 2, 3, 4, 5, 6, 7], [0, 1, 2, 3, 4, 5, 6, 7, 8, 9], [0, 1, 2, 3, 4, 5, 6, 7, 8, 9, 10], [0, 1, 2, 3, 4, 5, 6, 7, 8, 9, 10, 11], [0, 1, 2, 3, 4, 5, 6, 7, 8, 9, 10, 11, 12], [0, 1, 2, 3, 4, 5, 6, 7, 8, 9, 10, 11, 12, 13], [0, 1, 2, 3, 4, 5, 6, 7, 8, 9, 10, 11, 12, 13, 14], [0, 1, 2, 3, 4, 5, 6, 7, 8, 9, 10, 11, 12, 13, 14], [0, 1, 2, 3, 4, 5, 6, 7, 8, 9, 10, 11, 12, 13, 14, 15, 16], [0, 1, 2, 3, 4, 5, 6, 7, 8, 9, 10, 11, 12, 13, 14, 15, 16, 17], [0, 1, 2, 3, 4, 5, 6, 7, 8, 9, 10, 11, 12, 13, 14], [0, 1, 2, 3, 4, 5, 6, 7, 8, 9, 10, 11, 12, 13, 14, 19], [0, 1, 2, 3, 4, 5, 6, 7, 8, 9, 10, 11, 12, 13, 14, 15, 16, 17, 18, 19, 20], [0, 1, 2, 3, 4, 5, 6, 7, 8, 9, 10, 11, 12, 13, 14, 15, 16, 17, 18, 19, 20, 21]]) (by kernel_rfl) (by kernel_rfl) (fun x w h1 h2 => (.cons () (.cons () (.cons () (.cons () (.cons () (.cons () (.nil ⟨EnvAll.of h1 ⟨rfl, rfl, rfl, rfl, rfl, rfl, rfl, rfl, rfl, rfl, rfl, rfl, rfl, rfl, trivial⟩, h2⟩)))))))) (fun Q => by kernel_rfl) ⟨?_, ?_, ?_, ?_, ?_, ?_, ?_, ?_, ?_, ?_, ?_, ?_, ?_, ?_, ?_, ?_, ?_, ?_, ?_, ?_, ?_, ?_, ?_, trivial⟩ ?_
            · rintro Fr _
              refine SO.v rfl (opv_move rfl) ?_
              exact SO.nilZ fun a w h1 h2 h3 h4 h5 => PZ.of h1 h3 h5 (.cons () (.cons () (.nil ⟨EnvAll.of h2 ⟨rfl, rfl, trivial⟩, h4⟩)))
            · rintro Fr _
              refine SO.v rfl (opv_lss rfl rfl) ?_
              exact SO.nilZ fun a w h1 h2 h3 h4 h5 => PZ.of h1 h3 h5 (.cons () (.cons () (.nil ⟨EnvAll.of h2 ⟨rfl, rfl, trivial⟩, h4⟩)))
            · rintro Fr _
              refine SO.v rfl (opv_move rfl) ?_
              exact SO.nilZ fun a w h1 h2 h3 h4 h5 => PZ.of h1 h3 h5 (.cons () (.cons () (.nil ⟨EnvAll.of h2 ⟨rfl, rfl, trivial⟩, h4⟩)))
            · rintro Fr _
              refine SO.passF rfl rfl rfl b5 rfl rfl ?_
              exact SO.nilZ fun a w h1 h2 h3 h4 h5 => PZ.of h1 h3 h5 (.cons () (.cons () (.nil ⟨EnvAll.of h2 ⟨rfl, rfl, trivial⟩, h4⟩)))
            · rintro Fr _
              refine SO.passF rfl rfl rfl b5 rfl rfl ?_
              exact SO.nilZ fun a w h1 h2 h3 h4 h5 => PZ.of h1 h3 h5 (.cons () (.cons () (.nil ⟨EnvAll.of h2 ⟨rfl, rfl, trivial⟩, h4⟩)))
            · rintro Fr _
              refine SO.passF rfl rfl rfl b5 rfl rfl ?_
              exact SO.nilZ fun a w h1 h2 h3 h4 h5 => PZ.of h1 h3 h5 (.cons () (.cons () (.nil ⟨EnvAll.of h2 ⟨rfl, rfl, trivial⟩, h4⟩)))
            · rintro Fr _ _
              refine SO.v rfl (opv_pick_t' b5 rfl rfl) ?_
              exact SO.nilZ fun a w h1 h2 h3 h4 h5 => PZ.of h1 h3 h5 (.cons () (.cons () (.cons () (.nil ⟨EnvAll.of h2 ⟨rfl, rfl, rfl, trivial⟩, h4⟩))))
            · rintro Fr _
              refine SO.v rfl (opv_move rfl) ?_
              exact SO.nilZ fun a w h1 h2 h3 h4 h5 => PZ.of h1 h3 h5 (.cons () (.cons () (.nil ⟨EnvAll.of h2 ⟨rfl, rfl, trivial⟩, h4⟩)))
            · rintro Fr _
              refine SO.passF rfl rfl rfl rfl rfl rfl ?_
              exact SO.nilZ fun a w h1 h2 h3 h4 h5 => PZ.of h1 h3 h5 (.cons () (.cons () (.nil ⟨EnvAll.of h2 ⟨rfl, rfl, trivial⟩, h4⟩)))
            · rintro Fr _
              refine SO.passF rfl rfl rfl rfl rfl rfl ?_
              exact SO.nilZ fun a w h1 h2 h3 h4 h5 => PZ.of h1 h3 h5 (.cons () (.cons () (.nil ⟨EnvAll.of h2 ⟨rfl, rfl, trivial⟩, h4⟩)))
            · rintro Fr _
              refine SO.passF rfl rfl rfl rfl rfl rfl ?_
              exact SO.nilZ fun a w h1 h2 h3 h4 h5 => PZ.of h1 h3 h5 (.cons () (.cons () (.nil ⟨EnvAll.of h2 ⟨rfl, rfl, trivial⟩, h4⟩)))
            · rintro Fr _
              refine SO.passF rfl rfl rfl rfl rfl rfl ?_
              exact SO.nilZ fun a w h1 h2 h3 h4 h5 => PZ.of h1 h3 h5 (.cons () (.cons () (.nil ⟨EnvAll.of h2 ⟨rfl, rfl, trivial⟩, h4⟩)))
            · rintro Fr _
              refine SO.passF rfl rfl rfl rfl rfl rfl ?_
              exact SO.nilZ fun a w h1 h2 h3 h4 h5 => PZ.of h1 h3 h5 (.cons () (.cons () (.nil ⟨EnvAll.of h2 ⟨rfl, rfl, trivial⟩, h4⟩)))
            · rintro Fr _ _
              refine SO.v rfl (opv_pick_tt rfl rfl) ?_
              exact SO.nilZ fun a w h1 h2 h3 h4 h5 => PZ.of h1 h3 h5 (.cons () (.cons () (.cons () (.nil ⟨EnvAll.of h2 ⟨rfl, rfl, rfl, trivial⟩, h4⟩))))
            · rintro Fr _
              refine SO.v rfl (opv_move rfl) ?_
              exact SO.nilZ fun a w h1 h2 h3 h4 h5 => PZ.of h1 h3 h5 (.cons () (.cons () (.nil ⟨EnvAll.of h2 ⟨rfl, rfl, trivial⟩, h4⟩)))
            · rintro Fr _
              refine SO.passF rfl rfl rfl rfl rfl rfl ?_
              exact SO.nilZ fun a w h1 h2 h3 h4 h5 => PZ.of h1 h3 h5 (.cons () (.cons () (.nil ⟨EnvAll.of h2 ⟨rfl, rfl, trivial⟩, h4⟩)))
            · rintro Fr _
              refine SO.passF rfl rfl rfl rfl rfl rfl ?_
              exact SO.nilZ fun a w h1 h2 h3 h4 h5 => PZ.of h1 h3 h5 (.cons () (.cons () (.nil ⟨EnvAll.of h2 ⟨rfl, rfl, trivial⟩, h4⟩)))
            · rintro Fr _
              refine SO.passF rfl rfl rfl rfl rfl rfl ?_
              exact SO.nilZ fun a w h1 h2 h3 h4 h5 => PZ.of h1 h3 h5 (.cons () (.cons () (.nil ⟨EnvAll.of h2 ⟨rfl, rfl, trivial⟩, h4⟩)))
            · rintro Fr _
              refine SO.passF rfl rfl rfl rfl rfl rfl ?_
              exact SO.nilZ fun a w h1 h2 h3 h4 h5 => PZ.of h1 h3 h5 (.cons () (.cons () (.nil ⟨EnvAll.of h2 ⟨rfl, rfl, trivial⟩, h4⟩)))
            · rintro Fr _
              refine SO.passF rfl rfl rfl rfl rfl rfl ?_
              exact SO.nilZ fun a w h1 h2 h3 h4 h5 => PZ.of h1 h3 h5 (.cons () (.cons () (.nil ⟨EnvAll.of h2 ⟨rfl, rfl, trivial⟩, h4⟩)))
            · rintro Fr _
              refine SO.passF rfl rfl rfl rfl rfl rfl ?_
              exact SO.nilZ fun a w h1 h2 h3 h4 h5 => PZ.of h1 h3 h5 (.cons () (.cons () (.nil ⟨EnvAll.of h2 ⟨rfl, rfl, trivial⟩, h4⟩)))
            · rintro Fr _
              refine SO.passF rfl rfl rfl rfl rfl rfl ?_
              exact SO.nilZ fun a w h1 h2 h3 h4 h5 => PZ.of h1 h3 h5 (.cons () (.cons () (.nil ⟨EnvAll.of h2 ⟨rfl, rfl, trivial⟩, h4⟩)))
            · rintro Fr _ _
              refine SO.v rfl (opv_pick_tt rfl rfl) ?_
              exact SO.nilZ fun a w h1 h2 h3 h4 h5 => PZ.of h1 h3 h5 (.cons () (.cons () (.cons () (.nil ⟨EnvAll.of h2 ⟨rfl, rfl, rfl, trivial⟩, h4⟩))))
            rintro _ _ _ _ _ _ _ _ _ _ _ _ _ _ _ _ _ _ _ _ _ _ _ _ _ _ _ _ _
            refine S.to (ρ' := [(22, .int .i64 x3), (21, idxp v1 (x18_1.toNat * (ekI .i64).sz)), (20, .int .i64 x18_1), (19, .bool (decide (x18_1 < (a1.length : Int)))), (18, .int .i64 x18_1), (17, .int .i64 (a1.length : Int)), (16, v1), (6, .int .i64 x6_1), (5, errV 48 none), (4, .int .i64 0), (7, .int .i64 x7_1), (0, v0), (8, .int .i64 x18_1), (9, .int .i64 x3), (23, .int .i64 x3), (24, .bool (decide (x3 < 0))), (25, .bool (decide (x3 < 0))), (26, undef), (27, undef), (28, undef), (29, .bool true), (30, .bool true), (31, undef), (32, undef), (33, undef), (34, undef), (35, undef), (36, .bool true), (37, .bool true), (38, undef), (39, undef), (40, undef), (41, undef), (42, undef), (43, undef), (44, undef), (45, .bool true)]) ⟨rfl, rfl, rfl, rfl, rfl, rfl, rfl, rfl, rfl, rfl, rfl, rfl, rfl, rfl, rfl, rfl, rfl, rfl, rfl, rfl, rfl, rfl, rfl, rfl, rfl, rfl, rfl, rfl, rfl, rfl, rfl, rfl, rfl, rfl, rfl, rfl, rfl, trivial⟩ ?_
            cases h
            refine S.to ?_ (hk2 () trivial)
            exact ⟨rfl, rfl, rfl, rfl, rfl, rfl, rfl, rfl, rfl, rfl, rfl, rfl, rfl, rfl, rfl, rfl, rfl, rfl, rfl, rfl, rfl, rfl, trivial⟩
          · replace h := cond_f b5 h
            rcases bool_or (decide (x7_1 < x3)) with b6 | b6
            · replace h := cond_t b6 h
              refine S.draw' (Z := fun Q => ∀ (_ : Unit) (_ : Unit) (_ : Unit) (_ : Unit) (_ : Unit) (_ : Unit) (_ : Unit) (_ : Unit) (_ : Unit) (_ : Unit) (_ : Unit) (_ : Unit) (_ : Unit) (_ : Unit) (_ : Unit) (_ : Unit) (_ : Unit) (_ : Unit) (_ : Unit) (_ : Unit) (_ : Unit) (_ : Unit) (_ : Unit) (_ : Unit) (_ : Unit) (_ : Unit) (_ : Unit) (_ : Unit) (_ : Unit), Q [(22, .int .i64 x3), (21, idxp v1 (x18_1.toNat * (ekI .i64).sz)), (20, .int .i64 x18_1), (19, .bool (decide (x18_1 < (a1.length : Int)))), (18, .int .i64 x18_1), (17, .int .i64 (a1.length : Int)), (16, v1), (6, .int .i64 x6_1), (5, errV 48 none), (4, .int .i64 0), (7, .int .i64 x7_1), (0, v0), (8, .int .i64 x18_1), (9, .int .i64 x3), (23, .int .i64 x3), (24, .bool (decide (x3 < 0))), (25, .bool (decide (x3 < 0))), (26, .int .i64 x3), (27, .int .i64 x7_1), (28, .bool (decide (x7_1 < x3))), (29, .bool (decide (x7_1 < x3))), (30, .bool (decide (x7_1 < x3))), (31, undef), (32, undef), (33, undef), (34, undef), (35, undef), (36, .bool true), (37, .bool true), (38, undef), (39, undef), (40, undef), (41, undef), (42, undef), (43, undef), (44, undef), (45, .bool true)] [F]) (T := [tS 9 (.int .i64 x3), tS 7 (.int .i64 x7_1), tS 0 (v0), tS 8 (.int .i64 x18_1), tE [(22, .int .i64 x3), (21, idxp v1 (x18_1.toNat * (ekI .i64).sz)), (20, .int .i64 x18_1), (19, .bool (decide (x18_1 < (a1.length : Int)))), (18, .int .i64 x18_1), (17, .int .i64 (a1.length : Int)), (16, v1), (6, .int .i64 x6_1), (5, errV 48 none), (4, .int .i64 0)], tR (F), tS 23 (.int .i64 x3), tS 24 (.bool (decide (x3 < 0))), tS 25 (.bool (decide (x3 < 0))), tS 26 (.int .i64 x3), tS 27 (.int .i64 x7_1), tS 28 (.bool (decide (x7_1 < x3))), tS 29 (.bool (decide (x7_1 < x3))), tS 30 (.bool (decide (x7_1 < x3))), tS 31 (undef), tS 32 (undef), tS 33 (undef), tS 34 (undef), tS 35 (undef), tS 36 (.bool true), tS 37 (.bool true), tS 38 (undef), tS 39 (undef), tS 40 (undef), tS 41 (undef), tS 42 (undef), tS 43 (undef), tS 44 (undef), tS 45 (.bool true)]) (D := [⟨[0], [], [6]⟩, ⟨[6], [], [7]⟩, ⟨[7], [], [8]⟩, ⟨[0, 8], [], [9]⟩, ⟨[1, 8], [], [10]⟩, ⟨[8, 9, 10], [], [11]⟩, ⟨[8, 11], [], [12]⟩, ⟨[12], [], [13]⟩, ⟨[13], [], [14]⟩, ⟨[13], [], [15]⟩, ⟨[13], [], [16]⟩, ⟨[13], [], [17]⟩, ⟨[13], [], [18]⟩, ⟨[13, 18], [], [19]⟩, ⟨[19], [], [20]⟩, ⟨[20], [], [21]⟩, ⟨[20], [], [22]⟩, ⟨[20], [], [23]⟩, ⟨[20], [], [24]⟩, ⟨[20], [], [25]⟩, ⟨[20], [], [26]⟩, ⟨[20], [], [27]⟩, ⟨[20, 27], [], [28]⟩]) (ini := [0, 1, 2, 3, 4, 5]) (fin := [4, 1, 2, 3, 0, 6, 7, 8, 9, 10, 11, 12, 13, 14, 15, 16, 17, 18, 19, 20, 21, 22, 23, 24, 25, 26, 27, 28, 5]) (bf := [[], [0], [0, 1], [0, 1, 2], [0, 1, 2], [0, 1, 2, 3, 4], [0, 1, 2, 3, 4, 5], [0, 1, 2, 3, 4, 5, 6], [0, 1, 2, 3, 4, 5, 6, 7], [0, 1, 2, 3, 4, 5, 6, 7], [0, 1, 2, 3, 4, 5, 6, 7, 8, 9], [0, 1, 2, 3, 4, 5, 6, 7, 8, 9, 10], [0, 1, 2, 3, 4, 5, 6, 7, 8, 9, 10, 11], [0, 1, 2, 3, 4, 5, 6, 7, 8, 9, 10, 11, 12], [0, 1, 2, 3, 4, 5, 6, 7, 8, 9, 10, 11, 12, 13], [0, 1, 2, 3, 4, 5, 6, 7, 8, 9, 10, 11, 12, 13, 14], [0, 1, 2, 3, 4, 5, 6, 7, 8, 9, 10, 11, 12, 13, 14], [0, 1, 2, 3, 4, 5, 6, 7, 8, 9, 10, 11, 12, 13, 14, 15, 16], [0, 1, 2, 3, 4, 5, 6, 7, 8, 9, 10, 11, 12, 13, 14, 15, 16, 17], [0, 1, 2, 3, 4, 5, 6, 7, 8, 9, 10, 11, 12, 13, 14], [0, 1, 2, 3, 4, 5, 6, 7, 8, 9, 10, 11, 12, 13, 14, 19], [0, 1, 2, 3, 4, 5, 6, 7, 8, 9, 10, 11, 12, 13, 14, 15, 16, 17, 18, 19, 20], [0, 1, 2, 3, 4, 5, 6, 7, 8, 9, 10, 11, 12, 13, 14, 15, 16, 17, 18, 19, 20, 21]]) (by kernel_rfl) (by kernel_rfl) (fun x w h1 h2 => (.cons () (.cons () (.cons () (.cons () (.cons () (.cons () (.nil ⟨EnvAll.of h1 ⟨rfl, rfl, rfl, rfl, rfl, rfl, rfl, rfl, rfl, rfl, rfl, rfl, rfl, rfl, trivial⟩, h2⟩)))))))) (fun Q => by kernel_rfl) ⟨?_, ?_, ?_, ?_, ?_, ?_, ?_, ?_, ?_, ?_, ?_, ?_, ?_, ?_, ?_, ?_, ?_, ?_, ?_, ?_, ?_, ?_, ?_, trivial⟩ ?_
              · rintro Fr _
                refine SO.v rfl (opv_move rfl) ?_
                exact SO.nilZ fun a w h1 h2 h3 h4 h5 => PZ.of h1 h3 h5 (.cons () (.cons () (.nil ⟨EnvAll.of h2 ⟨rfl, rfl, trivial⟩, h4⟩)))
              · rintro Fr _
                refine SO.v rfl (opv_lss rfl rfl) ?_
                exact SO.nilZ fun a w h1 h2 h3 h4 h5 => PZ.of h1 h3 h5 (.cons () (.cons () (.nil ⟨EnvAll.of h2 ⟨rfl, rfl, trivial⟩, h4⟩)))
              · rintro Fr _
                refine SO.v rfl (opv_move rfl) ?_
                exact SO.nilZ fun a w h1 h2 h3 h4 h5 => PZ.of h1 h3 h5 (.cons () (.cons () (.nil ⟨EnvAll.of h2 ⟨rfl, rfl, trivial⟩, h4⟩)))
              · rintro Fr _ _
                refine SO.takeT rfl rfl rfl b5 ?_
                refine SO.v rfl (opv_move rfl) ?_
                exact SO.nilZ fun a w h1 h2 h3 h4 h5 => PZ.of h1 h3 h5 (.cons () (.cons () (.cons () (.nil ⟨EnvAll.of h2 ⟨rfl, rfl, rfl, trivial⟩, h4⟩))))
              · rintro Fr _ _
                refine SO.takeT rfl rfl rfl b5 ?_
                refine SO.v rfl (opv_move rfl) ?_
                exact SO.nilZ fun a w h1 h2 h3 h4 h5 => PZ.of h1 h3 h5 (.cons () (.cons () (.cons () (.nil ⟨EnvAll.of h2 ⟨rfl, rfl, rfl, trivial⟩, h4⟩))))
              · rintro Fr _ _ _
                refine SO.takeT rfl rfl rfl b5 ?_
                refine SO.v rfl (opv_gtr rfl rfl) ?_
                exact SO.nilZ fun a w h1 h2 h3 h4 h5 => PZ.of h1 h3 h5 (.cons () (.cons () (.cons () (.cons () (.nil ⟨EnvAll.of h2 ⟨rfl, rfl, rfl, rfl, trivial⟩, h4⟩)))))
              · rintro Fr _ _
                refine SO.v rfl (opv_pick_f' b5 rfl rfl) ?_
                exact SO.nilZ fun a w h1 h2 h3 h4 h5 => PZ.of h1 h3 h5 (.cons () (.cons () (.cons () (.nil ⟨EnvAll.of h2 ⟨rfl, rfl, rfl, trivial⟩, h4⟩))))
              · rintro Fr _
                refine SO.v rfl (opv_move rfl) ?_
                exact SO.nilZ fun a w h1 h2 h3 h4 h5 => PZ.of h1 h3 h5 (.cons () (.cons () (.nil ⟨EnvAll.of h2 ⟨rfl, rfl, trivial⟩, h4⟩)))
              · rintro Fr _
                refine SO.passF rfl rfl rfl b6 rfl rfl ?_
                exact SO.nilZ fun a w h1 h2 h3 h4 h5 => PZ.of h1 h3 h5 (.cons () (.cons () (.nil ⟨EnvAll.of h2 ⟨rfl, rfl, trivial⟩, h4⟩)))
              · rintro Fr _
                refine SO.passF rfl rfl rfl b6 rfl rfl ?_
                exact SO.nilZ fun a w h1 h2 h3 h4 h5 => PZ.of h1 h3 h5 (.cons () (.cons () (.nil ⟨EnvAll.of h2 ⟨rfl, rfl, trivial⟩, h4⟩)))
              · rintro Fr _
                refine SO.passF rfl rfl rfl b6 rfl rfl ?_
                exact SO.nilZ fun a w h1 h2 h3 h4 h5 => PZ.of h1 h3 h5 (.cons () (.cons () (.nil ⟨EnvAll.of h2 ⟨rfl, rfl, trivial⟩, h4⟩)))
              · rintro Fr _
                refine SO.passF rfl rfl rfl b6 rfl rfl ?_
                exact SO.nilZ fun a w h1 h2 h3 h4 h5 => PZ.of h1 h3 h5 (.cons () (.cons () (.nil ⟨EnvAll.of h2 ⟨rfl, rfl, trivial⟩, h4⟩)))
              · rintro Fr _
                refine SO.passF rfl rfl rfl b6 rfl rfl ?_
                exact SO.nilZ fun a w h1 h2 h3 h4 h5 => PZ.of h1 h3 h5 (.cons () (.cons () (.nil ⟨EnvAll.of h2 ⟨rfl, rfl, trivial⟩, h4⟩)))
              · rintro Fr _ _
                refine SO.v rfl (opv_pick_t' b6 rfl rfl) ?_
                exact SO.nilZ fun a w h1 h2 h3 h4 h5 => PZ.of h1 h3 h5 (.cons () (.cons () (.cons () (.nil ⟨EnvAll.of h2 ⟨rfl, rfl, rfl, trivial⟩, h4⟩))))
              · rintro Fr _
                refine SO.v rfl (opv_move rfl) ?_
                exact SO.nilZ fun a w h1 h2 h3 h4 h5 => PZ.of h1 h3 h5 (.cons () (.cons () (.nil ⟨EnvAll.of h2 ⟨rfl, rfl, trivial⟩, h4⟩)))
              · rintro Fr _
                refine SO.passF rfl rfl rfl rfl rfl rfl ?_
                exact SO.nilZ fun a w h1 h2 h3 h4 h5 => PZ.of h1 h3 h5 (.cons () (.cons () (.nil ⟨EnvAll.of h2 ⟨rfl, rfl, trivial⟩, h4⟩)))
              · rintro Fr _
                refine SO.passF rfl rfl rfl rfl rfl rfl ?_
                exact SO.nilZ fun a w h1 h2 h3 h4 h5 => PZ.of h1 h3 h5 (.cons () (.cons () (.nil ⟨EnvAll.of h2 ⟨rfl, rfl, trivial⟩, h4⟩)))
              · rintro Fr _
                refine SO.passF rfl rfl rfl rfl rfl rfl ?_
                exact SO.nilZ fun a w h1 h2 h3 h4 h5 => PZ.of h1 h3 h5 (.cons () (.cons () (.nil ⟨EnvAll.of h2 ⟨rfl, rfl, trivial⟩, h4⟩)))
              · rintro Fr _
                refine SO.passF rfl rfl rfl rfl rfl rfl ?_
                exact SO.nilZ fun a w h1 h2 h3 h4 h5 => PZ.of h1 h3 h5 (.cons () (.cons () (.nil ⟨EnvAll.of h2 ⟨rfl, rfl, trivial⟩, h4⟩)))
              · rintro Fr _
                refine SO.passF rfl rfl rfl rfl rfl rfl ?_
                exact SO.nilZ fun a w h1 h2 h3 h4 h5 => PZ.of h1 h3 h5 (.cons () (.cons () (.nil ⟨EnvAll.of h2 ⟨rfl, rfl, trivial⟩, h4⟩)))
              · rintro Fr _
                refine SO.passF rfl rfl rfl rfl rfl rfl ?_
                exact SO.nilZ fun a w h1 h2 h3 h4 h5 => PZ.of h1 h3 h5 (.cons () (.cons () (.nil ⟨EnvAll.of h2 ⟨rfl, rfl, trivial⟩, h4⟩)))
              · rintro Fr _
                refine SO.passF rfl rfl rfl rfl rfl rfl ?_
                exact SO.nilZ fun a w h1 h2 h3 h4 h5 => PZ.of h1 h3 h5 (.cons () (.cons () (.nil ⟨EnvAll.of h2 ⟨rfl, rfl, trivial⟩, h4⟩)))
              · rintro Fr _ _
                refine SO.v rfl (opv_pick_tt rfl rfl) ?_
                exact SO.nilZ fun a w h1 h2 h3 h4 h5 => PZ.of h1 h3 h5 (.cons () (.cons () (.cons () (.nil ⟨EnvAll.of h2 ⟨rfl, rfl, rfl, trivial⟩, h4⟩))))
              rintro _ _ _ _ _ _ _ _ _ _ _ _ _ _ _ _ _ _ _ _ _ _ _ _ _ _ _ _ _
              refine S.to (ρ' := [(22, .int .i64 x3), (21, idxp v1 (x18_1.toNat * (ekI .i64).sz)), (20, .int .i64 x18_1), (19, .bool (decide (x18_1 < (a1.length : Int)))), (18, .int .i64 x18_1), (17, .int .i64 (a1.length : Int)), (16, v1), (6, .int .i64 x6_1), (5, errV 48 none), (4, .int .i64 0), (7, .int .i64 x7_1), (0, v0), (8, .int .i64 x18_1), (9, .int .i64 x3), (23, .int .i64 x3), (24, .bool (decide (x3 < 0))), (25, .bool (decide (x3 < 0))), (26, .int .i64 x3), (27, .int .i64 x7_1), (28, .bool (decide (x7_1 < x3))), (29, .bool (decide (x7_1 < x3))), (30, .bool (decide (x7_1 < x3))), (31, undef), (32, undef), (33, undef), (34, undef), (35, undef), (36, .bool true), (37, .bool true), (38, undef), (39, undef), (40, undef), (41, undef), (42, undef), (43, undef), (44, undef), (45, .bool true)]) ⟨rfl, rfl, rfl, rfl, rfl, rfl, rfl, rfl, rfl, rfl, rfl, rfl, rfl, rfl, rfl, rfl, rfl, rfl, rfl, rfl, rfl, rfl, rfl, rfl, rfl, rfl, rfl, rfl, rfl, rfl, rfl, rfl, rfl, rfl, rfl, rfl, rfl, trivial⟩ ?_
              cases h
              refine S.to ?_ (hk2 () trivial)
              exact ⟨rfl, rfl, rfl, rfl, rfl, rfl, rfl, rfl, rfl, rfl, rfl, rfl, rfl, rfl, rfl, rfl, rfl, rfl, rfl, rfl, rfl, rfl, trivial⟩
            · replace h := cond_f b6 h
              obtain ⟨x7, hx8, h⟩ := opt_bind h
              rcases bool_or (decide (x7 < 0)) with b9 | b9
              · replace h := cond_t b9 h
                refine S.draw' (Z := fun Q => ∀ (_ : Unit) (_ : Unit) (_ : Unit) (_ : Unit) (_ : Unit) (_ : Unit) (_ : Unit) (_ : Unit) (_ : Unit) (_ : Unit) (_ : Unit) (_ : Unit) (_ : Unit) (_ : Unit) (_ : Unit) (_ : Unit) (_ : Unit) (_ : Unit) (_ : Unit) (_ : Unit) (_ : Unit) (_ : Unit) (_ : Unit) (_ : Unit) (_ : Unit) (_ : Unit) (_ : Unit) (_ : Unit) (_ : Unit), Q [(22, .int .i64 x3), (21, idxp v1 (x18_1.toNat * (ekI .i64).sz)), (20, .int .i64 x18_1), (19, .bool (decide (x18_1 < (a1.length : Int)))), (18, .int .i64 x18_1), (17, .int .i64 (a1.length : Int)), (16, v1), (6, .int .i64 x6_1), (5, errV 48 none), (4, .int .i64 0), (7, .int .i64 x7_1), (0, v0), (8, .int .i64 x18_1), (9, .int .i64 x3), (23, .int .i64 x3), (24, .bool (decide (x3 < 0))), (25, .bool (decide (x3 < 0))), (26, .int .i64 x3), (27, .int .i64 x7_1), (28, .bool (decide (x7_1 < x3))), (29, .bool (decide (x7_1 < x3))), (30, .bool (decide (x7_1 < x3))), (31, v0), (32, .int .i64 x18_1), (33, idxp v0 (x18_1.toNat * (ekI .i64).sz)), (34, .int .i64 x7), (35, .bool (decide (x7 < 0))), (36, .bool (decide (x7 < 0))), (37, .bool (decide (x7 < 0))), (38, undef), (39, undef), (40, undef), (41, undef), (42, undef), (43, undef), (44, undef), (45, .bool true)] [F]) (T := [tS 9 (.int .i64 x3), tS 7 (.int .i64 x7_1), tS 0 (v0), tS 8 (.int .i64 x18_1), tE [(22, .int .i64 x3), (21, idxp v1 (x18_1.toNat * (ekI .i64).sz)), (20, .int .i64 x18_1), (19, .bool (decide (x18_1 < (a1.length : Int)))), (18, .int .i64 x18_1), (17, .int .i64 (a1.length : Int)), (16, v1), (6, .int .i64 x6_1), (5, errV 48 none), (4, .int .i64 0)], tR (F), tS 23 (.int .i64 x3), tS 24 (.bool (decide (x3 < 0))), tS 25 (.bool (decide (x3 < 0))), tS 26 (.int .i64 x3), tS 27 (.int .i64 x7_1), tS 28 (.bool (decide (x7_1 < x3))), tS 29 (.bool (decide (x7_1 < x3))), tS 30 (.bool (decide (x7_1 < x3))), tS 31 (v0), tS 32 (.int .i64 x18_1), tS 33 (idxp v0 (x18_1.toNat * (ekI .i64).sz)), tS 34 (.int .i64 x7), tS 35 (.bool (decide (x7 < 0))), tS 36 (.bool (decide (x7 < 0))), tS 37 (.bool (decide (x7 < 0))), tS 38 (undef), tS 39 (undef), tS 40 (undef), tS 41 (undef), tS 42 (undef), tS 43 (undef), tS 44 (undef), tS 45 (.bool true)]) (D := [⟨[0], [], [6]⟩, ⟨[6], [], [7]⟩, ⟨[7], [], [8]⟩, ⟨[0, 8], [], [9]⟩, ⟨[1, 8], [], [10]⟩, ⟨[8, 9, 10], [], [11]⟩, ⟨[8, 11], [], [12]⟩, ⟨[12], [], [13]⟩, ⟨[2, 13], [], [14]⟩, ⟨[3, 13], [], [15]⟩, ⟨[13, 14, 15, 5], [], [16]⟩, ⟨[13, 16, 5], [], [17]⟩, ⟨[13, 17], [], [18]⟩, ⟨[13, 18], [], [19]⟩, ⟨[19], [], [20]⟩, ⟨[20], [], [21]⟩, ⟨[20], [], [22]⟩, ⟨[20], [], [23]⟩, ⟨[20], [], [24]⟩, ⟨[20], [], [25]⟩, ⟨[20], [], [26]⟩, ⟨[20], [], [27]⟩, ⟨[20, 27], [], [28]⟩]) (ini := [0, 1, 2, 3, 4, 5]) (fin := [4, 1, 2, 3, 0, 6, 7, 8, 9, 10, 11, 12, 13, 14, 15, 16, 17, 18, 19, 20, 21, 22, 23, 24, 25, 26, 27, 28, 5]) (bf := [[], [0], [0, 1], [0, 1, 2], [0, 1, 2], [0, 1, 2, 3, 4], [0, 1, 2, 3, 4, 5], [0, 1, 2, 3, 4, 5, 6], [0, 1, 2, 3, 4, 5, 6, 7], [0, 1, 2, 3, 4, 5, 6, 7], [0, 1, 2, 3, 4, 5, 6, 7, 8, 9], [0, 1, 2, 3, 4, 5, 6, 7, 8, 9, 10], [0, 1, 2, 3, 4, 5, 6, 7, 8, 9, 10, 11], [0, 1, 2, 3, 4, 5, 6, 7, 8, 9, 10, 11, 12], [0, 1, 2, 3, 4, 5, 6, 7, 8, 9, 10, 11, 12, 13], [0, 1, 2, 3, 4, 5, 6, 7, 8, 9, 10, 11, 12, 13, 14], [0, 1, 2, 3, 4, 5, 6, 7, 8, 9, 10, 11, 12, 13, 14], [0, 1, 2, 3, 4, 5, 6, 7, 8, 9, 10, 11, 12, 13, 14, 15, 16], [0, 1, 2, 3, 4, 5, 6, 7, 8, 9, 10, 11, 12, 13, 14, 15, 16, 17], [0, 1, 2, 3, 4, 5, 6, 7, 8, 9, 10, 11, 12, 13, 14], [0, 1, 2, 3, 4, 5, 6, 7, 8, 9, 10, 11, 12, 13, 14, 19], [0, 1, 2, 3, 4, 5, 6, 7, 8, 9, 10, 11, 12, 13, 14, 15, 16, 17, 18, 19, 20], [0, 1, 2, 3, 4, 5, 6, 7, 8, 9, 10, 11, 12, 13, 14, 15, 16, 17, 18, 19, 20, 21]]) (by kernel_rfl) (by kernel_rfl) (fun x w h1 h2 => (.cons () (.cons () (.cons () (.cons () (.cons () (.cons () (.nil ⟨EnvAll.of h1 ⟨rfl, rfl, rfl, rfl, rfl, rfl, rfl, rfl, rfl, rfl, rfl, rfl, rfl, rfl, trivial⟩, h2⟩)))))))) (fun Q => by kernel_rfl) ⟨?_, ?_, ?_, ?_, ?_, ?_, ?_, ?_, ?_, ?_, ?_, ?_, ?_, ?_, ?_, ?_, ?_, ?_, ?_, ?_, ?_, ?_, ?_, trivial⟩ ?_
                · rintro Fr _
                  refine SO.v rfl (opv_move rfl) ?_
                  exact SO.nilZ fun a w h1 h2 h3 h4 h5 => PZ.of h1 h3 h5 (.cons () (.cons () (.nil ⟨EnvAll.of h2 ⟨rfl, rfl, trivial⟩, h4⟩)))
                · rintro Fr _
                  refine SO.v rfl (opv_lss rfl rfl) ?_
                  exact SO.nilZ fun a w h1 h2 h3 h4 h5 => PZ.of h1 h3 h5 (.cons () (.cons () (.nil ⟨EnvAll.of h2 ⟨rfl, rfl, trivial⟩, h4⟩)))
                · rintro Fr _
                  refine SO.v rfl (opv_move rfl) ?_
                  exact SO.nilZ fun a w h1 h2 h3 h4 h5 => PZ.of h1 h3 h5 (.cons () (.cons () (.nil ⟨EnvAll.of h2 ⟨rfl, rfl, trivial⟩, h4⟩)))
                · rintro Fr _ _
                  refine SO.takeT rfl rfl rfl b5 ?_
                  refine SO.v rfl (opv_move rfl) ?_
                  exact SO.nilZ fun a w h1 h2 h3 h4 h5 => PZ.of h1 h3 h5 (.cons () (.cons () (.cons () (.nil ⟨EnvAll.of h2 ⟨rfl, rfl, rfl, trivial⟩, h4⟩))))
                · rintro Fr _ _
                  refine SO.takeT rfl rfl rfl b5 ?_
                  refine SO.v rfl (opv_move rfl) ?_
                  exact SO.nilZ fun a w h1 h2 h3 h4 h5 => PZ.of h1 h3 h5 (.cons () (.cons () (.cons () (.nil ⟨EnvAll.of h2 ⟨rfl, rfl, rfl, trivial⟩, h4⟩))))
                · rintro Fr _ _ _
                  refine SO.takeT rfl rfl rfl b5 ?_
                  refine SO.v rfl (opv_gtr rfl rfl) ?_
                  exact SO.nilZ fun a w h1 h2 h3 h4 h5 => PZ.of h1 h3 h5 (.cons () (.cons () (.cons () (.cons () (.nil ⟨EnvAll.of h2 ⟨rfl, rfl, rfl, rfl, trivial⟩, h4⟩)))))
                · rintro Fr _ _
                  refine SO.v rfl (opv_pick_f' b5 rfl rfl) ?_
                  exact SO.nilZ fun a w h1 h2 h3 h4 h5 => PZ.of h1 h3 h5 (.cons () (.cons () (.cons () (.nil ⟨EnvAll.of h2 ⟨rfl, rfl, rfl, trivial⟩, h4⟩))))
                · rintro Fr _
                  refine SO.v rfl (opv_move rfl) ?_
                  exact SO.nilZ fun a w h1 h2 h3 h4 h5 => PZ.of h1 h3 h5 (.cons () (.cons () (.nil ⟨EnvAll.of h2 ⟨rfl, rfl, trivial⟩, h4⟩)))
                · rintro Fr _ _
                  refine SO.takeT rfl rfl rfl b6 ?_
                  refine SO.v rfl (opv_move rfl) ?_
                  exact SO.nilZ fun a w h1 h2 h3 h4 h5 => PZ.of h1 h3 h5 (.cons () (.cons () (.cons () (.nil ⟨EnvAll.of h2 ⟨rfl, rfl, rfl, trivial⟩, h4⟩))))
                · rintro Fr _ _
                  refine SO.takeT rfl rfl rfl b6 ?_
                  refine SO.v rfl (opv_move rfl) ?_
                  exact SO.nilZ fun a w h1 h2 h3 h4 h5 => PZ.of h1 h3 h5 (.cons () (.cons () (.cons () (.nil ⟨EnvAll.of h2 ⟨rfl, rfl, rfl, trivial⟩, h4⟩))))
                · rintro Fr _ _ _ _
                  refine SO.takeT rfl rfl rfl b6 ?_
                  refine SO.v rfl (opv_idx Try.underlying73 Try.sizeOf3 hF0 rfl rfl hx8) ?_
                  exact SO.nilZ fun a w h1 h2 h3 h4 h5 => PZ.of h1 h3 h5 (.cons () (.cons () (.cons () (.cons () (.cons () (.nil ⟨EnvAll.of h2 ⟨rfl, rfl, rfl, rfl, trivial⟩, h4⟩))))))
                · rintro Fr _ _ _
                  refine SO.takeT rfl rfl rfl b6 ?_
                  refine SO.loadI1 (j := 0) rfl Try.isAgg3 (Rd.head hF0) hx8 rfl rfl rfl rfl ?_
                  exact SO.nilZ fun a w h1 h2 h3 h4 h5 => PZ.of h1 h3 h5 (.cons () (.cons () (.cons () (.cons () (.nil ⟨EnvAll.of h2 ⟨rfl, rfl, rfl, trivial⟩, h4⟩)))))
                · rintro Fr _ _
                  refine SO.takeT rfl rfl rfl b6 ?_
                  refine SO.v rfl (opv_lss rfl rfl) ?_
                  exact SO.nilZ fun a w h1 h2 h3 h4 h5 => PZ.of h1 h3 h5 (.cons () (.cons () (.cons () (.nil ⟨EnvAll.of h2 ⟨rfl, rfl, rfl, trivial⟩, h4⟩))))
                · rintro Fr _ _
                  refine SO.v rfl (opv_pick_f' b6 rfl rfl) ?_
                  exact SO.nilZ fun a w h1 h2 h3 h4 h5 => PZ.of h1 h3 h5 (.cons () (.cons () (.cons () (.nil ⟨EnvAll.of h2 ⟨rfl, rfl, rfl, trivial⟩, h4⟩))))
                · rintro Fr _
                  refine SO.v rfl (opv_move rfl) ?_
                  exact SO.nilZ fun a w h1 h2 h3 h4 h5 => PZ.of h1 h3 h5 (.cons () (.cons () (.nil ⟨EnvAll.of h2 ⟨rfl, rfl, trivial⟩, h4⟩)))
                · rintro Fr _
                  refine SO.passF rfl rfl rfl b9 rfl rfl ?_
                  exact SO.nilZ fun a w h1 h2 h3 h4 h5 => PZ.of h1 h3 h5 (.cons () (.cons () (.nil ⟨EnvAll.of h2 ⟨rfl, rfl, trivial⟩, h4⟩)))
                · rintro Fr _
                  refine SO.passF rfl rfl rfl b9 rfl rfl ?_
                  exact SO.nilZ fun a w h1 h2 h3 h4 h5 => PZ.of h1 h3 h5 (.cons () (.cons () (.nil ⟨EnvAll.of h2 ⟨rfl, rfl, trivial⟩, h4⟩)))
                · rintro Fr _
                  refine SO.passF rfl rfl rfl b9 rfl rfl ?_
                  exact SO.nilZ fun a w h1 h2 h3 h4 h5 => PZ.of h1 h3 h5 (.cons () (.cons () (.nil ⟨EnvAll.of h2 ⟨rfl, rfl, trivial⟩, h4⟩)))
                · rintro Fr _
                  refine SO.passF rfl rfl rfl b9 rfl rfl ?_
                  exact SO.nilZ fun a w h1 h2 h3 h4 h5 => PZ.of h1 h3 h5 (.cons () (.cons () (.nil ⟨EnvAll.of h2 ⟨rfl, rfl, trivial⟩, h4⟩)))
                · rintro Fr _
                  refine SO.passF rfl rfl rfl b9 rfl rfl ?_
                  exact SO.nilZ fun a w h1 h2 h3 h4 h5 => PZ.of h1 h3 h5 (.cons () (.cons () (.nil ⟨EnvAll.of h2 ⟨rfl, rfl, trivial⟩, h4⟩)))
                · rintro Fr _
                  refine SO.passF rfl rfl rfl b9 rfl rfl ?_
                  exact SO.nilZ fun a w h1 h2 h3 h4 h5 => PZ.of h1 h3 h5 (.cons () (.cons () (.nil ⟨EnvAll.of h2 ⟨rfl, rfl, trivial⟩, h4⟩)))
                · rintro Fr _
                  refine SO.passF rfl rfl rfl b9 rfl rfl ?_
                  exact SO.nilZ fun a w h1 h2 h3 h4 h5 => PZ.of h1 h3 h5 (.cons () (.cons () (.nil ⟨EnvAll.of h2 ⟨rfl, rfl, trivial⟩, h4⟩)))
                · rintro Fr _ _
                  refine SO.v rfl (opv_pick_t' b9 rfl rfl) ?_
                  exact SO.nilZ fun a w h1 h2 h3 h4 h5 => PZ.of h1 h3 h5 (.cons () (.cons () (.cons () (.nil ⟨EnvAll.of h2 ⟨rfl, rfl, rfl, trivial⟩, h4⟩))))
                rintro _ _ _ _ _ _ _ _ _ _ _ _ _ _ _ _ _ _ _ _ _ _ _ _ _ _ _ _ _
                refine S.to (ρ' := [(22, .int .i64 x3), (21, idxp v1 (x18_1.toNat * (ekI .i64).sz)), (20, .int .i64 x18_1), (19, .bool (decide (x18_1 < (a1.length : Int)))), (18, .int .i64 x18_1), (17, .int .i64 (a1.length : Int)), (16, v1), (6, .int .i64 x6_1), (5, errV 48 none), (4, .int .i64 0), (7, .int .i64 x7_1), (0, v0), (8, .int .i64 x18_1), (9, .int .i64 x3), (23, .int .i64 x3), (24, .bool (decide (x3 < 0))), (25, .bool (decide (x3 < 0))), (26, .int .i64 x3), (27, .int .i64 x7_1), (28, .bool (decide (x7_1 < x3))), (29, .bool (decide (x7_1 < x3))), (30, .bool (decide (x7_1 < x3))), (31, v0), (32, .int .i64 x18_1), (33, idxp v0 (x18_1.toNat * (ekI .i64).sz)), (34, .int .i64 x7), (35, .bool (decide (x7 < 0))), (36, .bool (decide (x7 < 0))), (37, .bool (decide (x7 < 0))), (38, undef), (39, undef), (40, undef), (41, undef), (42, undef), (43, undef), (44, undef), (45, .bool true)]) ⟨rfl, rfl, rfl, rfl, rfl, rfl, rfl, rfl, rfl, rfl, rfl, rfl, rfl, rfl, rfl, rfl, rfl, rfl, rfl, rfl, rfl, rfl, rfl, rfl, rfl, rfl, rfl, rfl, rfl, rfl, rfl, rfl, rfl, rfl, rfl, rfl, rfl, trivial⟩ ?_
                cases h
                refine S.to ?_ (hk2 () trivial)
                exact ⟨rfl, rfl, rfl, rfl, rfl, rfl, rfl, rfl, rfl, rfl, rfl, rfl, rfl, rfl, rfl, rfl, rfl, rfl, rfl, rfl, rfl, rfl, trivial⟩
              · replace h := cond_f b9 h
                obtain ⟨x10, hx11, h⟩ := opt_bind h
                obtain ⟨_, hc12, h⟩ := opt_bind h
                refine S.draw' (Z := fun Q => ∀ (_ : Unit) (_ : Unit) (_ : Unit) (_ : Unit) (_ : Unit) (_ : Unit) (_ : Unit) (_ : Unit) (_ : Unit) (_ : Unit) (_ : Unit) (_ : Unit) (_ : Unit) (_ : Unit) (_ : Unit) (_ : Unit) (_ : Unit) (_ : Unit) (_ : Unit) (_ : Unit) (_ : Unit) (_ : Unit) (_ : Unit) (_ : Unit) (_ : Unit) (_ : Unit) (_ : Unit) (_ : Unit) (_ : Unit), Q [(22, .int .i64 x3), (21, idxp v1 (x18_1.toNat * (ekI .i64).sz)), (20, .int .i64 x18_1), (19, .bool (decide (x18_1 < (a1.length : Int)))), (18, .int .i64 x18_1), (17, .int .i64 (a1.length : Int)), (16, v1), (6, .int .i64 x6_1), (5, errV 48 none), (4, .int .i64 0), (7, .int .i64 x7_1), (0, v0), (8, .int .i64 x18_1), (9, .int .i64 x3), (23, .int .i64 x3), (24, .bool (decide (x3 < 0))), (25, .bool (decide (x3 < 0))), (26, .int .i64 x3), (27, .int .i64 x7_1), (28, .bool (decide (x7_1 < x3))), (29, .bool (decide (x7_1 < x3))), (30, .bool (decide (x7_1 < x3))), (31, v0), (32, .int .i64 x18_1), (33, idxp v0 (x18_1.toNat * (ekI .i64).sz)), (34, .int .i64 x7), (35, .bool (decide (x7 < 0))), (36, .bool (decide (x7 < 0))), (37, .bool (decide (x7 < 0))), (38, v0), (39, .int .i64 x18_1), (40, idxp v0 (x18_1.toNat * (ekI .i64).sz)), (41, .int .i64 x10), (42, .int .i64 x3), (43, .int .i64 (bshl .i64 1 x3)), (44, .bool (decide ((bshl .i64 1 x3) ≤ x10))), (45, .bool (decide ((bshl .i64 1 x3) ≤ x10)))] [F]) (T := [tS 9 (.int .i64 x3), tS 7 (.int .i64 x7_1), tS 0 (v0), tS 8 (.int .i64 x18_1), tE [(22, .int .i64 x3), (21, idxp v1 (x18_1.toNat * (ekI .i64).sz)), (20, .int .i64 x18_1), (19, .bool (decide (x18_1 < (a1.length : Int)))), (18, .int .i64 x18_1), (17, .int .i64 (a1.length : Int)), (16, v1), (6, .int .i64 x6_1), (5, errV 48 none), (4, .int .i64 0)], tR (F), tS 23 (.int .i64 x3), tS 24 (.bool (decide (x3 < 0))), tS 25 (.bool (decide (x3 < 0))), tS 26 (.int .i64 x3), tS 27 (.int .i64 x7_1), tS 28 (.bool (decide (x7_1 < x3))), tS 29 (.bool (decide (x7_1 < x3))), tS 30 (.bool (decide (x7_1 < x3))), tS 31 (v0), tS 32 (.int .i64 x18_1), tS 33 (idxp v0 (x18_1.toNat * (ekI .i64).sz)), tS 34 (.int .i64 x7), tS 35 (.bool (decide (x7 < 0))), tS 36 (.bool (decide (x7 < 0))), tS 37 (.bool (decide (x7 < 0))), tS 38 (v0), tS 39 (.int .i64 x18_1), tS 40 (idxp v0 (x18_1.toNat * (ekI .i64).sz)), tS 41 (.int .i64 x10), tS 42 (.int .i64 x3), tS 43 (.int .i64 (bshl .i64 1 x3)), tS 44 (.bool (decide ((bshl .i64 1 x3) ≤ x10))), tS 45 (.bool (decide ((bshl .i64 1 x3) ≤ x10)))]) (D := [⟨[0], [], [6]⟩, ⟨[6], [], [7]⟩, ⟨[7], [], [8]⟩, ⟨[0, 8], [], [9]⟩, ⟨[1, 8], [], [10]⟩, ⟨[8, 9, 10], [], [11]⟩, ⟨[8, 11], [], [12]⟩, ⟨[12], [], [13]⟩, ⟨[2, 13], [], [14]⟩, ⟨[3, 13], [], [15]⟩, ⟨[13, 14, 15, 5], [], [16]⟩, ⟨[13, 16, 5], [], [17]⟩, ⟨[13, 17], [], [18]⟩, ⟨[13, 18], [], [19]⟩, ⟨[19], [], [20]⟩, ⟨[2, 20], [], [21]⟩, ⟨[3, 20], [], [22]⟩, ⟨[20, 21, 22, 5], [], [23]⟩, ⟨[20, 23, 5], [], [24]⟩, ⟨[0, 20], [], [25]⟩, ⟨[20, 25], [], [26]⟩, ⟨[20, 24, 26], [], [27]⟩, ⟨[20, 27], [], [28]⟩]) (ini := [0, 1, 2, 3, 4, 5]) (fin := [4, 1, 2, 3, 0, 6, 7, 8, 9, 10, 11, 12, 13, 14, 15, 16, 17, 18, 19, 20, 21, 22, 23, 24, 25, 26, 27, 28, 5]) (bf := [[], [0], [0, 1], [0, 1, 2], [0, 1, 2], [0, 1, 2, 3, 4], [0, 1, 2, 3, 4, 5], [0, 1, 2, 3, 4, 5, 6], [0, 1, 2, 3, 4, 5, 6, 7], [0, 1, 2, 3, 4, 5, 6, 7], [0, 1, 2, 3, 4, 5, 6, 7, 8, 9], [0, 1, 2, 3, 4, 5, 6, 7, 8, 9, 10], [0, 1, 2, 3, 4, 5, 6, 7, 8, 9, 10, 11], [0, 1, 2, 3, 4, 5, 6, 7, 8, 9, 10, 11, 12], [0, 1, 2, 3, 4, 5, 6, 7, 8, 9, 10, 11, 12, 13], [0, 1, 2, 3, 4, 5, 6, 7, 8, 9, 10, 11, 12, 13, 14], [0, 1, 2, 3, 4, 5, 6, 7, 8, 9, 10, 11, 12, 13, 14], [0, 1, 2, 3, 4, 5, 6, 7, 8, 9, 10, 11, 12, 13, 14, 15, 16], [0, 1, 2, 3, 4, 5, 6, 7, 8, 9, 10, 11, 12, 13, 14, 15, 16, 17], [0, 1, 2, 3, 4, 5, 6, 7, 8, 9, 10, 11, 12, 13, 14], [0, 1, 2, 3, 4, 5, 6, 7, 8, 9, 10, 11, 12, 13, 14, 19], [0, 1, 2, 3, 4, 5, 6, 7, 8, 9, 10, 11, 12, 13, 14, 15, 16, 17, 18, 19, 20], [0, 1, 2, 3, 4, 5, 6, 7, 8, 9, 10, 11, 12, 13, 14, 15, 16, 17, 18, 19, 20, 21]]) (by kernel_rfl) (by kernel_rfl) (fun x w h1 h2 => (.cons () (.cons () (.cons () (.cons () (.cons () (.cons () (.nil ⟨EnvAll.of h1 ⟨rfl, rfl, rfl, rfl, rfl, rfl, rfl, rfl, rfl, rfl, rfl, rfl, rfl, rfl, trivial⟩, h2⟩)))))))) (fun Q => by kernel_rfl) ⟨?_, ?_, ?_, ?_, ?_, ?_, ?_, ?_, ?_, ?_, ?_, ?_, ?_, ?_, ?_, ?_, ?_, ?_, ?_, ?_, ?_, ?_, ?_, trivial⟩ ?_
                · rintro Fr _
                  refine SO.v rfl (opv_move rfl) ?_
                  exact SO.nilZ fun a w h1 h2 h3 h4 h5 => PZ.of h1 h3 h5 (.cons () (.cons () (.nil ⟨EnvAll.of h2 ⟨rfl, rfl, trivial⟩, h4⟩)))
                · rintro Fr _
                  refine SO.v rfl (opv_lss rfl rfl) ?_
                  exact SO.nilZ fun a w h1 h2 h3 h4 h5 => PZ.of h1 h3 h5 (.cons () (.cons () (.nil ⟨EnvAll.of h2 ⟨rfl, rfl, trivial⟩, h4⟩)))
                · rintro Fr _
                  refine SO.v rfl (opv_move rfl) ?_
                  exact SO.nilZ fun a w h1 h2 h3 h4 h5 => PZ.of h1 h3 h5 (.cons () (.cons () (.nil ⟨EnvAll.of h2 ⟨rfl, rfl, trivial⟩, h4⟩)))
                · rintro Fr _ _
                  refine SO.takeT rfl rfl rfl b5 ?_
                  refine SO.v rfl (opv_move rfl) ?_
                  exact SO.nilZ fun a w h1 h2 h3 h4 h5 => PZ.of h1 h3 h5 (.cons () (.cons () (.cons () (.nil ⟨EnvAll.of h2 ⟨rfl, rfl, rfl, trivial⟩, h4⟩))))
                · rintro Fr _ _
                  refine SO.takeT rfl rfl rfl b5 ?_
                  refine SO.v rfl (opv_move rfl) ?_
                  exact SO.nilZ fun a w h1 h2 h3 h4 h5 => PZ.of h1 h3 h5 (.cons () (.cons () (.cons () (.nil ⟨EnvAll.of h2 ⟨rfl, rfl, rfl, trivial⟩, h4⟩))))
                · rintro Fr _ _ _
                  refine SO.takeT rfl rfl rfl b5 ?_
                  refine SO.v rfl (opv_gtr rfl rfl) ?_
                  exact SO.nilZ fun a w h1 h2 h3 h4 h5 => PZ.of h1 h3 h5 (.cons () (.cons () (.cons () (.cons () (.nil ⟨EnvAll.of h2 ⟨rfl, rfl, rfl, rfl, trivial⟩, h4⟩)))))
                · rintro Fr _ _
                  refine SO.v rfl (opv_pick_f' b5 rfl rfl) ?_
                  exact SO.nilZ fun a w h1 h2 h3 h4 h5 => PZ.of h1 h3 h5 (.cons () (.cons () (.cons () (.nil ⟨EnvAll.of h2 ⟨rfl, rfl, rfl, trivial⟩, h4⟩))))
                · rintro Fr _
                  refine SO.v rfl (opv_move rfl) ?_
                  exact SO.nilZ fun a w h1 h2 h3 h4 h5 => PZ.of h1 h3 h5 (.cons () (.cons () (.nil ⟨EnvAll.of h2 ⟨rfl, rfl, trivial⟩, h4⟩)))
                · rintro Fr _ _
                  refine SO.takeT rfl rfl rfl b6 ?_
                  refine SO.v rfl (opv_move rfl) ?_
                  exact SO.nilZ fun a w h1 h2 h3 h4 h5 => PZ.of h1 h3 h5 (.cons () (.cons () (.cons () (.nil ⟨EnvAll.of h2 ⟨rfl, rfl, rfl, trivial⟩, h4⟩))))
                · rintro Fr _ _
                  refine SO.takeT rfl rfl rfl b6 ?_
                  refine SO.v rfl (opv_move rfl) ?_
                  exact SO.nilZ fun a w h1 h2 h3 h4 h5 => PZ.of h1 h3 h5 (.cons () (.cons () (.cons () (.nil ⟨EnvAll.of h2 ⟨rfl, rfl, rfl, trivial⟩, h4⟩))))
                · rintro Fr _ _ _ _
                  refine SO.takeT rfl rfl rfl b6 ?_
                  refine SO.v rfl (opv_idx Try.underlying73 Try.sizeOf3 hF0 rfl rfl hx8) ?_
                  exact SO.nilZ fun a w h1 h2 h3 h4 h5 => PZ.of h1 h3 h5 (.cons () (.cons () (.cons () (.cons () (.cons () (.nil ⟨EnvAll.of h2 ⟨rfl, rfl, rfl, rfl, trivial⟩, h4⟩))))))
                · rintro Fr _ _ _
                  refine SO.takeT rfl rfl rfl b6 ?_
                  refine SO.loadI1 (j := 0) rfl Try.isAgg3 (Rd.head hF0) hx8 rfl rfl rfl rfl ?_
                  exact SO.nilZ fun a w h1 h2 h3 h4 h5 => PZ.of h1 h3 h5 (.cons () (.cons () (.cons () (.cons () (.nil ⟨EnvAll.of h2 ⟨rfl, rfl, rfl, trivial⟩, h4⟩)))))
                · rintro Fr _ _
                  refine SO.takeT rfl rfl rfl b6 ?_
                  refine SO.v rfl (opv_lss rfl rfl) ?_
                  exact SO.nilZ fun a w h1 h2 h3 h4 h5 => PZ.of h1 h3 h5 (.cons () (.cons () (.cons () (.nil ⟨EnvAll.of h2 ⟨rfl, rfl, rfl, trivial⟩, h4⟩))))
                · rintro Fr _ _
                  refine SO.v rfl (opv_pick_f' b6 rfl rfl) ?_
                  exact SO.nilZ fun a w h1 h2 h3 h4 h5 => PZ.of h1 h3 h5 (.cons () (.cons () (.cons () (.nil ⟨EnvAll.of h2 ⟨rfl, rfl, rfl, trivial⟩, h4⟩))))
                · rintro Fr _
                  refine SO.v rfl (opv_move rfl) ?_
                  exact SO.nilZ fun a w h1 h2 h3 h4 h5 => PZ.of h1 h3 h5 (.cons () (.cons () (.nil ⟨EnvAll.of h2 ⟨rfl, rfl, trivial⟩, h4⟩)))
                · rintro Fr _ _
                  refine SO.takeT rfl rfl rfl b9 ?_
                  refine SO.v rfl (opv_move rfl) ?_
                  exact SO.nilZ fun a w h1 h2 h3 h4 h5 => PZ.of h1 h3 h5 (.cons () (.cons () (.cons () (.nil ⟨EnvAll.of h2 ⟨rfl, rfl, rfl, trivial⟩, h4⟩))))
                · rintro Fr _ _
                  refine SO.takeT rfl rfl rfl b9 ?_
                  refine SO.v rfl (opv_move rfl) ?_
                  exact SO.nilZ fun a w h1 h2 h3 h4 h5 => PZ.of h1 h3 h5 (.cons () (.cons () (.cons () (.nil ⟨EnvAll.of h2 ⟨rfl, rfl, rfl, trivial⟩, h4⟩))))
                · rintro Fr _ _ _ _
                  refine SO.takeT rfl rfl rfl b9 ?_
                  refine SO.v rfl (opv_idx Try.underlying73 Try.sizeOf3 hF0 rfl rfl hx11) ?_
                  exact SO.nilZ fun a w h1 h2 h3 h4 h5 => PZ.of h1 h3 h5 (.cons () (.cons () (.cons () (.cons () (.cons () (.nil ⟨EnvAll.of h2 ⟨rfl, rfl, rfl, rfl, trivial⟩, h4⟩))))))
                · rintro Fr _ _ _
                  refine SO.takeT rfl rfl rfl b9 ?_
                  refine SO.loadI1 (j := 0) rfl Try.isAgg3 (Rd.head hF0) hx11 rfl rfl rfl rfl ?_
                  exact SO.nilZ fun a w h1 h2 h3 h4 h5 => PZ.of h1 h3 h5 (.cons () (.cons () (.cons () (.cons () (.nil ⟨EnvAll.of h2 ⟨rfl, rfl, rfl, trivial⟩, h4⟩)))))
                · rintro Fr _ _
                  refine SO.takeT rfl rfl rfl b9 ?_
                  refine SO.v rfl (opv_move rfl) ?_
                  exact SO.nilZ fun a w h1 h2 h3 h4 h5 => PZ.of h1 h3 h5 (.cons () (.cons () (.cons () (.nil ⟨EnvAll.of h2 ⟨rfl, rfl, rfl, trivial⟩, h4⟩))))
                · rintro Fr _ _
                  refine SO.takeT rfl rfl rfl b9 ?_
                  refine SO.v rfl (opv_shl rfl rfl (of_decide_eq_true (chk_some hc12))) ?_
                  exact SO.nilZ fun a w h1 h2 h3 h4 h5 => PZ.of h1 h3 h5 (.cons () (.cons () (.cons () (.nil ⟨EnvAll.of h2 ⟨rfl, rfl, rfl, trivial⟩, h4⟩))))
                · rintro Fr _ _ _
                  refine SO.takeT rfl rfl rfl b9 ?_
                  refine SO.v rfl (opv_geq rfl rfl) ?_
                  exact SO.nilZ fun a w h1 h2 h3 h4 h5 => PZ.of h1 h3 h5 (.cons () (.cons () (.cons () (.cons () (.nil ⟨EnvAll.of h2 ⟨rfl, rfl, rfl, rfl, trivial⟩, h4⟩)))))
                · rintro Fr _ _
                  refine SO.v rfl (opv_pick_f' b9 rfl rfl) ?_
                  exact SO.nilZ fun a w h1 h2 h3 h4 h5 => PZ.of h1 h3 h5 (.cons () (.cons () (.cons () (.nil ⟨EnvAll.of h2 ⟨rfl, rfl, rfl, trivial⟩, h4⟩))))
                rintro _ _ _ _ _ _ _ _ _ _ _ _ _ _ _ _ _ _ _ _ _ _ _ _ _ _ _ _ _
                refine S.to (ρ' := [(22, .int .i64 x3), (21, idxp v1 (x18_1.toNat * (ekI .i64).sz)), (20, .int .i64 x18_1), (19, .bool (decide (x18_1 < (a1.length : Int)))), (18, .int .i64 x18_1), (17, .int .i64 (a1.length : Int)), (16, v1), (6, .int .i64 x6_1), (5, errV 48 none), (4, .int .i64 0), (7, .int .i64 x7_1), (0, v0), (8, .int .i64 x18_1), (9, .int .i64 x3), (23, .int .i64 x3), (24, .bool (decide (x3 < 0))), (25, .bool (decide (x3 < 0))), (26, .int .i64 x3), (27, .int .i64 x7_1), (28, .bool (decide (x7_1 < x3))), (29, .bool (decide (x7_1 < x3))), (30, .bool (decide (x7_1 < x3))), (31, v0), (32, .int .i64 x18_1), (33, idxp v0 (x18_1.toNat * (ekI .i64).sz)), (34, .int .i64 x7), (35, .bool (decide (x7 < 0))), (36, .bool (decide (x7 < 0))), (37, .bool (decide (x7 < 0))), (38, v0), (39, .int .i64 x18_1), (40, idxp v0 (x18_1.toNat * (ekI .i64).sz)), (41, .int .i64 x10), (42, .int .i64 x3), (43, .int .i64 (bshl .i64 1 x3)), (44, .bool (decide ((bshl .i64 1 x3) ≤ x10))), (45, .bool (decide ((bshl .i64 1 x3) ≤ x10)))]) ⟨rfl, rfl, rfl, rfl, rfl, rfl, rfl, rfl, rfl, rfl, rfl, rfl, rfl, rfl, rfl, rfl, rfl, rfl, rfl, rfl, rfl, rfl, rfl, rfl, rfl, rfl, rfl, rfl, rfl, rfl, rfl, rfl, rfl, rfl, rfl, rfl, rfl, trivial⟩ ?_
                cases h
                refine S.to ?_ (hk2 () trivial)
                exact ⟨rfl, rfl, rfl, rfl, rfl, rfl, rfl, rfl, rfl, rfl, rfl, rfl, rfl, rfl, rfl, rfl, rfl, rfl, rfl, rfl, rfl, rfl, trivial⟩
        rintro _ -
        replace h := hJ2
        rcases bool_or j45_2 with b13 | b13
        · replace h := cond_t b13 h
          refine S.condT rfl b13 ?_
          refine S.seq ?_
          refine S.region ?_
          refine SO.v rfl (opv_iface Try.underlying48 rfl rfl) ?_
          refine SO.v rfl (opv_assign rfl) ?_
          refine SO.v rfl (opv_assign rfl) ?_
          refine SO.nil ?_
          cases h
          replace h := hK1.1 _ rfl
          cases h
          exact S.ret2 Try.func43 rfl rfl rfl (fun w hs hk => hR w _ _ ⟨rfl, rfl⟩ hs hk)
        · replace h := cond_f b13 h
          refine S.condF rfl b13 ?_
          refine S.skip ?_
          refine S.seq ?_
          refine S.region ?_
          refine SO.v rfl (opv_move rfl) ?_
          refine SO.v rfl (opv_move rfl) ?_
          refine SO.v rfl (opv_sub rfl rfl) ?_
          refine SO.v rfl (opv_assign rfl) ?_
          refine SO.nil ?_
          refine S.region ?_
          refine SO.v rfl (opv_move rfl) ?_
          refine SO.v rfl (opv_move rfl) ?_
          refine SO.v rfl (opv_move rfl) ?_
          obtain ⟨x14, hx15, h⟩ := opt_bind h
          refine SO.v rfl (opv_idx Try.underlying73 Try.sizeOf3 hF0 rfl rfl hx15) ?_
          refine SO.loadI1 (j := 0) rfl Try.isAgg3 (Rd.head hF0) hx15 rfl rfl rfl rfl ?_
          refine SO.v rfl (opv_move rfl) ?_
          obtain ⟨_, hc16, h⟩ := opt_bind h
          refine SO.v rfl (opv_shl rfl rfl (of_decide_eq_true (chk_some hc16))) ?_
          refine SO.v rfl (opv_or rfl rfl) ?_
          refine SO.v rfl (opv_assign rfl) ?_
          refine SO.nil ?_
          refine S.inBlock ?_
          refine S.region ?_
          refine SO.v rfl (opv_add rfl rfl) ?_
          refine SO.v rfl (opv_move rfl) ?_
          refine SO.nil ?_
          refine S.to ?_ (ih1 ((w64 (x18_1 + 1), w64 (x7_1 - x3), bor .i64 x6_1 (bshl .i64 x14 (w64 (x7_1 - x3)))), ()) h)
          exact ⟨rfl, rfl, rfl, rfl, rfl, rfl, rfl, rfl, trivial⟩
      · replace h := cond_f b2 h
        refine S.condF rfl b2 ?_
        refine S.exit rfl ?_
        cases h
        refine S.to ?_ (hK1.2 x6_1 () rfl)
        exact ⟨rfl, rfl, rfl, trivial⟩
    refine ⟨fun r' e' => ?_, ?_⟩
    · subst e'
      exact Brk.of_ret h
    rintro j6_e1 _ e'
    subst e'
    replace h := Brk.of_nx h
    refine S.seq ?_
    refine S.region ?_
    refine SO.v rfl (opv_move rfl) ?_
    refine SO.v rfl (opv_assign rfl) ?_
    refine SO.v rfl (opv_assign rfl) ?_
    refine SO.nil ?_
    cases h
    exact S.ret2 Try.func43 rfl rfl rfl (fun w hs hk => hR w _ _ ⟨rfl, rfl⟩ hs hk)
end Go.Proofs
namespace Go.Proofs
open Go.Sl Go.RowKit
/-! 70 padstone/guard.fits -/
def guard_fits.f (a0 : Int) (a1 : Int) : Option (Bool) :=
  some ((((decide (0 ≤ a0)) && (decide (a0 < 65536))) && (decide (0 ≤ a1))) && (decide (a1 ≤ 16)))
set_option maxHeartbeats 8000000 in
set_option maxRecDepth 100000 in
theorem guard_fits.ct (a0 : Int) (a1 : Int) (r0 : Bool) (h : guard_fits.f a0 a1 = some r0) :
    Ct Try.prog 70 [.int .i64 a0, .int .i64 a1] (fun _ => True) [] (fun u H' => u = .bool r0 ∧ H' = []) := by
  unfold guard_fits.f at h
  refine Ct.intro (n := 19) Try.func70 rfl rfl rfl ?_
  intro R w0 F hF hR
  refine S.seq ?_
  refine S.region ?_
  refine SO.v rfl (opv_assign rfl) ?_
  refine SO.nil ?_
  refine S.seq ?_
  refine S.region ?_
  refine SO.v rfl (opv_move rfl) ?_
  refine SO.v rfl (opv_geq rfl rfl) ?_
  refine SO.v rfl (opv_move rfl) ?_
  refine SO.cut 3 10 (.bool ((decide (0 ≤ a0)) && (decide (a0 < 65536)))) [F] (fun l2 hk2 => ?_) ?_
  · rcases bool_or (decide (0 ≤ a0)) with b1 | b1
    · refine SO.takeT rfl rfl rfl b1 ?_
      refine SO.v rfl (opv_move rfl) ?_
      refine SO.takeT rfl rfl rfl b1 ?_
      refine SO.v rfl (opv_lss rfl rfl) ?_
      refine SO.v rfl (opv_pick_t' b1 rfl rfl) ?_
      exact hk2.fitc (m := 3) rfl (and_t b1) rfl
    · refine SO.passF rfl rfl rfl b1 rfl rfl ?_
      refine SO.passF rfl rfl rfl b1 rfl rfl ?_
      refine SO.v rfl (opv_pick_f' b1 rfl rfl) ?_
      exact hk2.fitc (m := 3) rfl (and_f b1) rfl
  refine SO.v rfl (opv_move rfl) ?_
  refine SO.cut 3 14 (.bool (((decide (0 ≤ a0)) && (decide (a0 < 65536))) && (decide (0 ≤ a1)))) [F] (fun l2 hk2 => ?_) ?_
  · rcases bool_or ((decide (0 ≤ a0)) && (decide (a0 < 65536))) with b2 | b2
    · refine SO.takeT rfl rfl rfl b2 ?_
      refine SO.v rfl (opv_move rfl) ?_
      refine SO.takeT rfl rfl rfl b2 ?_
      refine SO.v rfl (opv_geq rfl rfl) ?_
      refine SO.v rfl (opv_pick_t' b2 rfl rfl) ?_
      exact hk2.fitc (m := 3) rfl (and_t b2) rfl
    · refine SO.passF rfl rfl rfl b2 rfl rfl ?_
      refine SO.passF rfl rfl rfl b2 rfl rfl ?_
      refine SO.v rfl (opv_pick_f' b2 rfl rfl) ?_
      exact hk2.fitc (m := 3) rfl (and_f b2) rfl
  refine SO.v rfl (opv_move rfl) ?_
  refine SO.cut 3 18 (.bool ((((decide (0 ≤ a0)) && (decide (a0 < 65536))) && (decide (0 ≤ a1))) && (decide (a1 ≤ 16)))) [F] (fun l2 hk2 => ?_) ?_
  · rcases bool_or (((decide (0 ≤ a0)) && (decide (a0 < 65536))) && (decide (0 ≤ a1))) with b3 | b3
    · refine SO.takeT rfl rfl rfl b3 ?_
      refine SO.v rfl (opv_move rfl) ?_
      refine SO.takeT rfl rfl rfl b3 ?_
      refine SO.v rfl (opv_leq rfl rfl) ?_
      refine SO.v rfl (opv_pick_t' b3 rfl rfl) ?_
      exact hk2.fitc (m := 3) rfl (and_t b3) rfl
    · refine SO.passF rfl rfl rfl b3 rfl rfl ?_
      refine SO.passF rfl rfl rfl b3 rfl rfl ?_
      refine SO.v rfl (opv_pick_f' b3 rfl rfl) ?_
      exact hk2.fitc (m := 3) rfl (and_f b3) rfl
  refine SO.v rfl (opv_assign rfl) ?_
  refine SO.nil ?_
  refine S.to (ρ' := [(4, .bool ((((decide (0 ≤ a0)) && (decide (a0 < 65536))) && (decide (0 ≤ a1))) && (decide (a1 ≤ 16))))]) ⟨rfl, trivial⟩ ?_
  cases h
  exact S.ret1 Try.func70 rfl rfl (fun w hs hk => hR w _ _ ⟨rfl, rfl⟩ hs hk)
end Go.Proofs
namespace Go.Proofs
open Go.Sl Go.RowKit
/-! 41 padstone/guard.Top -/
def guard_Top.f (a0 : Int) (a1 : Int) (a2 : Int) : Option (Int × (Option Int)) :=
  (guard_fits.f a0 a1).bind fun t1 => bif (!t1) || (decide (a2 < 0)) then (some (0, (some 1))) else (bif decide (a1 < a2) then (some (0, (some 4))) else ((chk (decide (0 ≤ a1))).bind fun _ => (chk (decide (0 ≤ w64 (a1 - a2)))).bind fun _ => some (bshr .i64 (band .i64 a0 (w64 ((bshl .i64 1 a1) - 1))) (w64 (a1 - a2)), none)))
set_option maxHeartbeats 8000000 in
set_option maxRecDepth 100000 in
theorem guard_Top.ct (a0 : Int) (a1 : Int) (a2 : Int) (r0 : Int) (r1 : Option Int) (h : guard_Top.f a0 a1 a2 = some (r0, r1)) :
    Ct Try.prog 41 [.int .i64 a0, .int .i64 a1, .int .i64 a2] (fun _ => True) [] (fun u H' => u = .tuple #[.int .i64 r0, errV 48 r1] ∧ H' = []) := by
  unfold guard_Top.f at h
  refine Ct.intro (n := 32) Try.func41 rfl rfl rfl ?_
  intro R w0 F hF hR
  refine S.seq ?_
  refine S.region ?_
  refine SO.v rfl (opv_assign rfl) ?_
  refine SO.v rfl (opv_assign rfl) ?_
  refine SO.nil ?_
  refine S.seq ?_
  refine S.block ?_
  refine S.seq ?_
  refine S.region ?_
  refine SO.v rfl (opv_move rfl) ?_
  refine SO.v rfl (opv_move rfl) ?_
  obtain ⟨t1, ht2, h⟩ := opt_bind h
  refine SO.call (pre := []) rfl Try.call70 rfl rfl rfl (guard_fits.ct _ _ _ ht2) trivial ?_
  rintro _ _ ⟨rfl, rfl⟩
  refine SO.v rfl (opv_not rfl) ?_
  refine SO.v rfl (opv_move rfl) ?_
  refine SO.cut 3 16 (.bool ((!t1) || (decide (a2 < 0)))) [F] (fun l2 hk2 => ?_) ?_
  · rcases bool_or (!t1) with b3 | b3
    · refine SO.passF rfl rfl rfl b3 rfl rfl ?_
      refine SO.passF rfl rfl rfl b3 rfl rfl ?_
      refine SO.v rfl (opv_pick_t' b3 rfl rfl) ?_
      exact hk2.fitc (m := 3) rfl (or_t b3) rfl
    · refine SO.takeT rfl rfl rfl b3 ?_
      refine SO.v rfl (opv_move rfl) ?_
      refine SO.takeT rfl rfl rfl b3 ?_
      refine SO.v rfl (opv_lss rfl rfl) ?_
      refine SO.v rfl (opv_pick_f' b3 rfl rfl) ?_
      exact hk2.fitc (m := 3) rfl (or_f b3) rfl
  refine SO.v rfl (opv_assign rfl) ?_
  refine SO.nil ?_
  rcases bool_or ((!t1) || (decide (a2 < 0))) with b4 | b4
  · replace h := cond_t b4 h
    refine S.condT rfl b4 ?_
    refine S.seq ?_
    refine S.region ?_
    refine SO.v rfl (opv_iface Try.underlying48 rfl rfl) ?_
    refine SO.v rfl (opv_assign rfl) ?_
    refine SO.v rfl (opv_assign rfl) ?_
    refine SO.nil ?_
    refine S.to (ρ' := [(0, .int .i64 a0), (1, .int .i64 a1), (2, .int .i64 a2), (6, .int .i64 0), (7, errV 48 (some 1))]) ⟨rfl, rfl, rfl, rfl, rfl, trivial⟩ ?_
    cases h
    exact S.ret2 Try.func41 rfl rfl rfl (fun w hs hk => hR w _ _ ⟨rfl, rfl⟩ hs hk)
  · replace h := cond_f b4 h
    refine S.condF rfl b4 ?_
    refine S.seq ?_
    refine S.region ?_
    refine SO.v rfl (opv_move rfl) ?_
    refine SO.v rfl (opv_move rfl) ?_
    refine SO.v rfl (opv_gtr rfl rfl) ?_
    refine SO.v rfl (opv_assign rfl) ?_
    refine SO.nil ?_
    refine S.to (ρ' := [(0, .int .i64 a0), (1, .int .i64 a1), (2, .int .i64 a2), (6, .int .i64 0), (7, errV 48 none), (18, .bool (decide (a1 < a2)))]) ⟨rfl, rfl, rfl, rfl, rfl, rfl, trivial⟩ ?_
    rcases bool_or (decide (a1 < a2)) with b5 | b5
    · replace h := cond_t b5 h
      refine S.condT rfl b5 ?_
      refine S.seq ?_
      refine S.region ?_
      refine SO.v rfl (opv_iface Try.underlying48 rfl rfl) ?_
      refine SO.v rfl (opv_assign rfl) ?_
      refine SO.v rfl (opv_assign rfl) ?_
      refine SO.nil ?_
      cases h
      exact S.ret2 Try.func41 rfl rfl rfl (fun w hs hk => hR w _ _ ⟨rfl, rfl⟩ hs hk)
    · replace h := cond_f b5 h
      refine S.condF rfl b5 ?_
      refine S.skip ?_
      refine S.inBlock ?_
      refine S.seq ?_
      refine S.region ?_
      refine SO.v rfl (opv_move rfl) ?_
      refine SO.v rfl (opv_move rfl) ?_
      obtain ⟨_, hc6, h⟩ := opt_bind h
      refine SO.v rfl (opv_shl rfl rfl (of_decide_eq_true (chk_some hc6))) ?_
      refine SO.v rfl (opv_sub rfl rfl) ?_
      refine SO.v rfl (opv_and rfl rfl) ?_
      refine SO.v rfl (opv_move rfl) ?_
      refine SO.v rfl (opv_move rfl) ?_
      refine SO.v rfl (opv_sub rfl rfl) ?_
      obtain ⟨_, hc7, h⟩ := opt_bind h
      refine SO.v rfl (opv_shr rfl rfl (of_decide_eq_true (chk_some hc7))) ?_
      refine SO.v rfl (opv_assign rfl) ?_
      refine SO.v rfl (opv_assign rfl) ?_
      refine SO.nil ?_
      refine S.to (ρ' := [(6, .int .i64 (bshr .i64 (band .i64 a0 (w64 ((bshl .i64 1 a1) - 1))) (w64 (a1 - a2)))), (7, errV 48 none)]) ⟨rfl, rfl, trivial⟩ ?_
      cases h
      exact S.ret2 Try.func41 rfl rfl rfl (fun w hs hk => hR w _ _ ⟨rfl, rfl⟩ hs hk)
end Go.Proofs
namespace Go.Proofs
open Go.Sl Go.RowKit
/-! 39 padstone/guard.Walk -/
def guard_Walk.f (a0 : Int) (a1 : Int) (a2 : Int) (a3 : Int) (a4 : Int) : Option (Int × Int × (Option Int)) :=
  (guard_fits.f a0 a1).bind fun t1 => (bif (((!t1) || (decide (a3 < 0))) || (decide (8 < a3))) || (decide (a2 < 0)) then (some true) else ((chk (decide (0 ≤ a3))).bind fun _ => some (decide ((bshl .i64 1 a3) ≤ a2)))).bind fun c7 => bif (c7 || (decide (a4 < 0))) || (decide (5 < a4)) then (some (0, 0, (some 1))) else (bif decide (a1 < (w64 (a3 + a4))) then (some (0, 0, (some 4))) else ((guard_Top.f a0 a1 a3).bind fun (t14, t15) => bif t15.isSome || (t14 != a2) then (some (0, 0, (some 3))) else ((guard_Top.f a0 (w64 (a1 - a3)) a4).bind fun (t19, t20) => some (t19, w64 ((w64 (a1 - a3)) - a4), t20))))
set_option maxHeartbeats 8000000 in
set_option maxRecDepth 100000 in
theorem guard_Walk.ct (a0 : Int) (a1 : Int) (a2 : Int) (a3 : Int) (a4 : Int) (r0 : Int) (r1 : Int) (r2 : Option Int) (h : guard_Walk.f a0 a1 a2 a3 a4 = some (r0, r1, r2)) :
    Ct Try.prog 39 [.int .i64 a0, .int .i64 a1, .int .i64 a2, .int .i64 a3, .int .i64 a4] (fun _ => True) [] (fun u H' => u = .tuple #[.int .i64 r0, .int .i64 r1, errV 48 r2] ∧ H' = []) := by
  unfold guard_Walk.f at h
  refine Ct.intro (n := 86) Try.func39 rfl rfl rfl ?_
  intro R w0 F hF hR
  refine S.seq ?_
  refine S.region ?_
  refine SO.v rfl (opv_assign rfl) ?_
  refine SO.v rfl (opv_assign rfl) ?_
  refine SO.v rfl (opv_assign rfl) ?_
  refine SO.nil ?_
  refine S.seq ?_
  refine S.block ?_
  refine S.seq ?_
  refine S.region ?_
  refine SO.v rfl (opv_move rfl) ?_
  refine SO.v rfl (opv_move rfl) ?_
  obtain ⟨t1, ht2, h⟩ := opt_bind h
  refine SO.call (pre := []) rfl Try.call70 rfl rfl rfl (guard_fits.ct _ _ _ ht2) trivial ?_
  rintro _ _ ⟨rfl, rfl⟩
  refine SO.v rfl (opv_not rfl) ?_
  refine SO.v rfl (opv_move rfl) ?_
  refine SO.cut 3 25 (.bool ((!t1) || (decide (a3 < 0)))) [F] (fun l2 hk2 => ?_) ?_
  · rcases bool_or (!t1) with b3 | b3
    · refine SO.passF rfl rfl rfl b3 rfl rfl ?_
      refine SO.passF rfl rfl rfl b3 rfl rfl ?_
      refine SO.v rfl (opv_pick_t' b3 rfl rfl) ?_
      exact hk2.fitc (m := 3) rfl (or_t b3) rfl
    · refine SO.takeT rfl rfl rfl b3 ?_
      refine SO.v rfl (opv_move rfl) ?_
      refine SO.takeT rfl rfl rfl b3 ?_
      refine SO.v rfl (opv_lss rfl rfl) ?_
      refine SO.v rfl (opv_pick_f' b3 rfl rfl) ?_
      exact hk2.fitc (m := 3) rfl (or_f b3) rfl
  refine SO.v rfl (opv_move rfl) ?_
  refine SO.cut 3 29 (.bool (((!t1) || (decide (a3 < 0))) || (decide (8 < a3)))) [F] (fun l2 hk2 => ?_) ?_
  · rcases bool_or ((!t1) || (decide (a3 < 0))) with b4 | b4
    · refine SO.passF rfl rfl rfl b4 rfl rfl ?_
      refine SO.passF rfl rfl rfl b4 rfl rfl ?_
      refine SO.v rfl (opv_pick_t' b4 rfl rfl) ?_
      exact hk2.fitc (m := 3) rfl (or_t b4) rfl
    · refine SO.takeT rfl rfl rfl b4 ?_
      refine SO.v rfl (opv_move rfl) ?_
      refine SO.takeT rfl rfl rfl b4 ?_
      refine SO.v rfl (opv_gtr rfl rfl) ?_
      refine SO.v rfl (opv_pick_f' b4 rfl rfl) ?_
      exact hk2.fitc (m := 3) rfl (or_f b4) rfl
  refine SO.v rfl (opv_move rfl) ?_
  refine SO.cut 3 33 (.bool ((((!t1) || (decide (a3 < 0))) || (decide (8 < a3))) || (decide (a2 < 0)))) [F] (fun l2 hk2 => ?_) ?_
  · rcases bool_or (((!t1) || (decide (a3 < 0))) || (decide (8 < a3))) with b5 | b5
    · refine SO.passF rfl rfl rfl b5 rfl rfl ?_
      refine SO.passF rfl rfl rfl b5 rfl rfl ?_
      refine SO.v rfl (opv_pick_t' b5 rfl rfl) ?_
      exact hk2.fitc (m := 3) rfl (or_t b5) rfl
    · refine SO.takeT rfl rfl rfl b5 ?_
      refine SO.v rfl (opv_move rfl) ?_
      refine SO.takeT rfl rfl rfl b5 ?_
      refine SO.v rfl (opv_lss rfl rfl) ?_
      refine SO.v rfl (opv_pick_f' b5 rfl rfl) ?_
      exact hk2.fitc (m := 3) rfl (or_f b5) rfl
  refine SO.v rfl (opv_move rfl) ?_
  obtain ⟨c7, hc8, hgk⟩ := opt_bind h
  refine SO.cut 5 39 (.bool c7) [F] (fun l2 hk2 => ?_) ?_
  · clear hgk
    replace h := hc8
    rcases bool_or ((((!t1) || (decide (a3 < 0))) || (decide (8 < a3))) || (decide (a2 < 0))) with b6 | b6
    · replace h := cond_t b6 h
      refine SO.passF rfl rfl rfl b6 rfl rfl ?_
      refine SO.passF rfl rfl rfl b6 rfl rfl ?_
      refine SO.passF rfl rfl rfl b6 rfl rfl ?_
      refine SO.passF rfl rfl rfl b6 rfl rfl ?_
      cases h
      refine SO.v rfl (opv_pick_t' b6 rfl rfl) ?_
      exact hk2.fitc (m := 5) rfl (rfl) rfl
    · replace h := cond_f b6 h
      refine SO.takeT rfl rfl rfl b6 ?_
      refine SO.v rfl (opv_move rfl) ?_
      refine SO.takeT rfl rfl rfl b6 ?_
      refine SO.v rfl (opv_move rfl) ?_
      refine SO.takeT rfl rfl rfl b6 ?_
      obtain ⟨_, hc9, h⟩ := opt_bind h
      refine SO.v rfl (opv_shl rfl rfl (of_decide_eq_true (chk_some hc9))) ?_
      refine SO.takeT rfl rfl rfl b6 ?_
      refine SO.v rfl (opv_geq rfl rfl) ?_
      cases h
      refine SO.v rfl (opv_pick_f' b6 rfl rfl) ?_
      exact hk2.fitc (m := 5) rfl (rfl) rfl
  clear hc8
  replace h := hgk
  refine SO.v rfl (opv_move rfl) ?_
  refine SO.cut 3 43 (.bool (c7 || (decide (a4 < 0)))) [F] (fun l2 hk2 => ?_) ?_
  · rcases bool_or c7 with b10 | b10
    · refine SO.passF rfl rfl rfl b10 rfl rfl ?_
      refine SO.passF rfl rfl rfl b10 rfl rfl ?_
      refine SO.v rfl (opv_pick_t' b10 rfl rfl) ?_
      exact hk2.fitc (m := 3) rfl (or_t b10) rfl
    · refine SO.takeT rfl rfl rfl b10 ?_
      refine SO.v rfl (opv_move rfl) ?_
      refine SO.takeT rfl rfl rfl b10 ?_
      refine SO.v rfl (opv_lss rfl rfl) ?_
      refine SO.v rfl (opv_pick_f' b10 rfl rfl) ?_
      exact hk2.fitc (m := 3) rfl (or_f b10) rfl
  refine SO.v rfl (opv_move rfl) ?_
  refine SO.cut 3 47 (.bool ((c7 || (decide (a4 < 0))) || (decide (5 < a4)))) [F] (fun l2 hk2 => ?_) ?_
  · rcases bool_or (c7 || (decide (a4 < 0))) with b11 | b11
    · refine SO.passF rfl rfl rfl b11 rfl rfl ?_
      refine SO.passF rfl rfl rfl b11 rfl rfl ?_
      refine SO.v rfl (opv_pick_t' b11 rfl rfl) ?_
      exact hk2.fitc (m := 3) rfl (or_t b11) rfl
    · refine SO.takeT rfl rfl rfl b11 ?_
      refine SO.v rfl (opv_move rfl) ?_
      refine SO.takeT rfl rfl rfl b11 ?_
      refine SO.v rfl (opv_gtr rfl rfl) ?_
      refine SO.v rfl (opv_pick_f' b11 rfl rfl) ?_
      exact hk2.fitc (m := 3) rfl (or_f b11) rfl
  refine SO.v rfl (opv_assign rfl) ?_
  refine SO.nil ?_
  refine S.to (ρ' := [(0, .int .i64 a0), (1, .int .i64 a1), (2, .int .i64 a2), (3, .int .i64 a3), (4, .int .i64 a4), (10, .int .i64 0), (11, .int .i64 0), (12, errV 48 none), (17, .bool ((c7 || (decide (a4 < 0))) || (decide (5 < a4))))]) ⟨rfl, rfl, rfl, rfl, rfl, rfl, rfl, rfl, rfl, trivial⟩ ?_
  rcases bool_or ((c7 || (decide (a4 < 0))) || (decide (5 < a4))) with b12 | b12
  · replace h := cond_t b12 h
    refine S.condT rfl b12 ?_
    refine S.seq ?_
    refine S.region ?_
    refine SO.v rfl (opv_iface Try.underlying48 rfl rfl) ?_
    refine SO.v rfl (opv_assign rfl) ?_
    refine SO.v rfl (opv_assign rfl) ?_
    refine SO.v rfl (opv_assign rfl) ?_
    refine SO.nil ?_
    cases h
    exact S.ret3 Try.func39 rfl rfl rfl rfl (fun w hs hk => hR w _ _ ⟨rfl, rfl⟩ hs hk)
  · replace h := cond_f b12 h
    refine S.condF rfl b12 ?_
    refine S.seq ?_
    refine S.region ?_
    refine SO.v rfl (opv_move rfl) ?_
    refine SO.v rfl (opv_move rfl) ?_
    refine SO.v rfl (opv_add rfl rfl) ?_
    refine SO.v rfl (opv_move rfl) ?_
    refine SO.v rfl (opv_gtr rfl rfl) ?_
    refine SO.v rfl (opv_assign rfl) ?_
    refine SO.nil ?_
    rcases bool_or (decide (a1 < (w64 (a3 + a4)))) with b13 | b13
    · replace h := cond_t b13 h
      refine S.condT rfl b13 ?_
      refine S.seq ?_
      refine S.region ?_
      refine SO.v rfl (opv_iface Try.underlying48 rfl rfl) ?_
      refine SO.v rfl (opv_assign rfl) ?_
      refine SO.v rfl (opv_assign rfl) ?_
      refine SO.v rfl (opv_assign rfl) ?_
      refine SO.nil ?_
      refine S.to (ρ' := [(0, .int .i64 a0), (1, .int .i64 a1), (2, .int .i64 a2), (3, .int .i64 a3), (4, .int .i64 a4), (10, .int .i64 0), (11, .int .i64 0), (12, errV 48 (some 4))]) ⟨rfl, rfl, rfl, rfl, rfl, rfl, rfl, rfl, trivial⟩ ?_
      cases h
      exact S.ret3 Try.func39 rfl rfl rfl rfl (fun w hs hk => hR w _ _ ⟨rfl, rfl⟩ hs hk)
    · replace h := cond_f b13 h
      refine S.condF rfl b13 ?_
      refine S.skip ?_
      refine S.inBlock ?_
      refine S.seq ?_
      refine S.seq ?_
      refine S.region ?_
      refine SO.v rfl (opv_move rfl) ?_
      refine SO.v rfl (opv_move rfl) ?_
      refine SO.v rfl (opv_move rfl) ?_
      obtain ⟨⟨t14, t15⟩, ht16, h⟩ := opt_bind h
      refine SO.call (pre := []) rfl Try.call41 rfl rfl rfl (guard_Top.ct _ _ _ _ _ ht16) trivial ?_
      rintro _ _ ⟨rfl, rfl⟩
      refine SO.v rfl (opv_move rfl) ?_
      refine SO.v rfl (opv_extract rfl rfl) ?_
      refine SO.v rfl (opv_extract rfl rfl) ?_
      refine SO.v rfl (opv_assign rfl) ?_
      refine SO.v rfl (opv_assign rfl) ?_
      refine SO.nil ?_
      refine S.to (ρ' := [(0, .int .i64 a0), (1, .int .i64 a1), (2, .int .i64 a2), (3, .int .i64 a3), (4, .int .i64 a4), (10, .int .i64 0), (11, .int .i64 0), (12, errV 48 none), (13, .int .i64 t14), (14, errV 48 t15)]) ⟨rfl, rfl, rfl, rfl, rfl, rfl, rfl, rfl, rfl, rfl, trivial⟩ ?_
      refine S.seq ?_
      refine S.region ?_
      refine SO.v rfl (opv_move rfl) ?_
      refine SO.v rfl (opv_neqN (e := t15) Try.underlying45 rfl) ?_
      refine SO.v rfl (opv_move rfl) ?_
      refine SO.cut 4 69 (.bool (t15.isSome || (t14 != a2))) [F] (fun l2 hk2 => ?_) ?_
      · rcases bool_or t15.isSome with b17 | b17
        · refine SO.passF rfl rfl rfl b17 rfl rfl ?_
          refine SO.passF rfl rfl rfl b17 rfl rfl ?_
          refine SO.passF rfl rfl rfl b17 rfl rfl ?_
          refine SO.v rfl (opv_pick_t' b17 rfl rfl) ?_
          exact hk2.fitc (m := 4) rfl (or_t b17) rfl
        · refine SO.takeT rfl rfl rfl b17 ?_
          refine SO.v rfl (opv_move rfl) ?_
          refine SO.takeT rfl rfl rfl b17 ?_
          refine SO.v rfl (opv_move rfl) ?_
          refine SO.takeT rfl rfl rfl b17 ?_
          refine SO.v rfl (opv_neq rfl rfl) ?_
          refine SO.v rfl (opv_pick_f' b17 rfl rfl) ?_
          exact hk2.fitc (m := 4) rfl (or_f b17) rfl
      refine SO.nil ?_
      rcases bool_or (t15.isSome || (t14 != a2)) with b18 | b18
      · replace h := cond_t b18 h
        refine S.condT rfl b18 ?_
        refine S.seq ?_
        refine S.region ?_
        refine SO.v rfl (opv_iface Try.underlying48 rfl rfl) ?_
        refine SO.v rfl (opv_assign rfl) ?_
        refine SO.v rfl (opv_assign rfl) ?_
        refine SO.v rfl (opv_assign rfl) ?_
        refine SO.nil ?_
        refine S.to (ρ' := [(0, .int .i64 a0), (1, .int .i64 a1), (3, .int .i64 a3), (4, .int .i64 a4), (10, .int .i64 0), (11, .int .i64 0), (12, errV 48 (some 3))]) ⟨rfl, rfl, rfl, rfl, rfl, rfl, rfl, trivial⟩ ?_
        cases h
        exact S.ret3 Try.func39 rfl rfl rfl rfl (fun w hs hk => hR w _ _ ⟨rfl, rfl⟩ hs hk)
      · replace h := cond_f b18 h
        refine S.condF rfl b18 ?_
        refine S.skip ?_
        refine S.seq ?_
        refine S.region ?_
        refine SO.v rfl (opv_move rfl) ?_
        refine SO.v rfl (opv_move rfl) ?_
        refine SO.v rfl (opv_sub rfl rfl) ?_
        refine SO.v rfl (opv_assign rfl) ?_
        refine SO.nil ?_
        refine S.to (ρ' := [(0, .int .i64 a0), (1, .int .i64 (w64 (a1 - a3))), (4, .int .i64 a4), (10, .int .i64 0), (11, .int .i64 0), (12, errV 48 none)]) ⟨rfl, rfl, rfl, rfl, rfl, rfl, trivial⟩ ?_
        refine S.seq ?_
        refine S.region ?_
        refine SO.v rfl (opv_move rfl) ?_
        refine SO.v rfl (opv_move rfl) ?_
        refine SO.v rfl (opv_move rfl) ?_
        obtain ⟨⟨t19, t20⟩, ht21, h⟩ := opt_bind h
        refine SO.call (pre := []) rfl Try.call41 rfl rfl rfl (guard_Top.ct _ _ _ _ _ ht21) trivial ?_
        rintro _ _ ⟨rfl, rfl⟩
        refine SO.v rfl (opv_move rfl) ?_
        refine SO.v rfl (opv_extract rfl rfl) ?_
        refine SO.v rfl (opv_extract rfl rfl) ?_
        refine SO.v rfl (opv_assign rfl) ?_
        refine SO.v rfl (opv_assign rfl) ?_
        refine SO.nil ?_
        refine S.to (ρ' := [(1, .int .i64 (w64 (a1 - a3))), (4, .int .i64 a4), (10, .int .i64 0), (11, .int .i64 0), (12, errV 48 none), (15, .int .i64 t19), (16, errV 48 t20)]) ⟨rfl, rfl, rfl, rfl, rfl, rfl, rfl, trivial⟩ ?_
        refine S.seq ?_
        refine S.region ?_
        refine SO.v rfl (opv_move rfl) ?_
        refine SO.v rfl (opv_move rfl) ?_
        refine SO.v rfl (opv_move rfl) ?_
        refine SO.v rfl (opv_sub rfl rfl) ?_
        refine SO.v rfl (opv_move rfl) ?_
        refine SO.v rfl (opv_assign rfl) ?_
        refine SO.v rfl (opv_assign rfl) ?_
        refine SO.v rfl (opv_assign rfl) ?_
        refine SO.nil ?_
        refine S.to (ρ' := [(10, .int .i64 t19), (11, .int .i64 (w64 ((w64 (a1 - a3)) - a4))), (12, errV 48 t20)]) ⟨rfl, rfl, rfl, trivial⟩ ?_
        cases h
        exact S.ret3 Try.func39 rfl rfl rfl rfl (fun w hs hk => hR w _ _ ⟨rfl, rfl⟩ hs hk)
end Go.Proofs
namespace Go.Proofs
open Go.Sl Go.RowKit
/-! 38 padstone/padstonelaw04.up -/
def law04_up.f (k : Nat) : Option (Bool) :=
  (guard_Walk.f 43690 16 2 2 3).bind fun (t1, t2, t3) => (guard_Walk.f 43690 16 1 2 3).bind fun (t5, t6, t7) => (guard_Join.f k ([1, 2]) ([2, 3])).bind fun (t13, t14) => some ((((((t1 == 5) && (t2 == 11)) && t3.isNone) && (t7 == some 3)) && (t13 == 20480)) && t14.isNone)
set_option maxHeartbeats 8000000 in
set_option maxRecDepth 100000 in
theorem law04_up.ct (k : Nat) (r0 : Bool) (h : law04_up.f k  = some r0) :
    Ct Try.prog 38 [] (fun _ => True) [] (fun u H' => u = .bool r0 ∧ H' = []) := by
  unfold law04_up.f at h
  refine Ct.intro (n := 48) Try.func38 rfl rfl rfl ?_
  intro R w0 F hF hR
  refine S.seq ?_
  refine S.region ?_
  refine SO.v rfl (opv_assign rfl) ?_
  refine SO.nil ?_
  refine S.seq ?_
  refine S.region ?_
  obtain ⟨⟨t1, t2, t3⟩, ht4, h⟩ := opt_bind h
  refine SO.call (pre := []) rfl Try.call39 rfl rfl rfl (guard_Walk.ct _ _ _ _ _ _ _ _ ht4) trivial ?_
  rintro _ _ ⟨rfl, rfl⟩
  refine SO.v rfl (opv_move rfl) ?_
  refine SO.v rfl (opv_extract rfl rfl) ?_
  refine SO.v rfl (opv_extract rfl rfl) ?_
  refine SO.v rfl (opv_extract rfl rfl) ?_
  refine SO.v rfl (opv_assign rfl) ?_
  refine SO.v rfl (opv_assign rfl) ?_
  refine SO.v rfl (opv_assign rfl) ?_
  refine SO.nil ?_
  refine S.seq ?_
  refine S.region ?_
  obtain ⟨⟨t5, t6, t7⟩, ht8, h⟩ := opt_bind h
  refine SO.call (pre := []) rfl Try.call39 rfl rfl rfl (guard_Walk.ct _ _ _ _ _ _ _ _ ht8) trivial ?_
  rintro _ _ ⟨rfl, rfl⟩
  refine SO.v rfl (opv_move rfl) ?_
  refine SO.v rfl (opv_extract rfl rfl) ?_
  refine SO.v rfl (opv_extract rfl rfl) ?_
  refine SO.v rfl (opv_extract rfl rfl) ?_
  refine SO.v rfl (opv_assign rfl) ?_
  refine SO.v rfl (opv_assign rfl) ?_
  refine SO.v rfl (opv_assign rfl) ?_
  refine SO.nil ?_
  refine S.to (ρ' := [(0, .bool false), (1, .int .i64 t1), (2, .int .i64 t2), (3, errV 48 t3), (6, errV 48 t7)]) ⟨rfl, rfl, rfl, rfl, rfl, trivial⟩ ?_
  refine S.seq ?_
  refine S.region ?_
  refine SO.buildSlice (K := ekI .i64) (xs := [1, 2]) (cs := [.int .i64 1, .int .i64 2]) rfl Try.underlying73 Try.sizeOf3 Try.zeroValue3 rfl rfl rfl (by kernel_rfl) rfl rfl rfl (fun v9 hr10 => ?_)
  refine SO.buildSlice (K := ekI .i64) (xs := [2, 3]) (cs := [.int .i64 2, .int .i64 3]) rfl Try.underlying73 Try.sizeOf3 Try.zeroValue3 rfl rfl rfl (by kernel_rfl) rfl rfl rfl (fun v11 hr12 => ?_)
  obtain ⟨⟨t13, t14⟩, ht15, h⟩ := opt_bind h
  refine SO.call (pre := []) rfl Try.call43 rfl rfl rfl (guard_Join.ct _ _ _ _ _ _ _ ht15) ⟨(Rd.tail (Rd.head hr10)), (Rd.head hr12)⟩ ?_
  rintro _ _ ⟨rfl, rfl⟩
  refine SO.v rfl (opv_move rfl) ?_
  refine SO.v rfl (opv_extract rfl rfl) ?_
  refine SO.v rfl (opv_extract rfl rfl) ?_
  refine SO.v rfl (opv_assign rfl) ?_
  refine SO.v rfl (opv_assign rfl) ?_
  refine SO.nil ?_
  refine S.seq ?_
  refine S.region ?_
  refine SO.v rfl (opv_move rfl) ?_
  refine SO.v rfl (opv_eql rfl rfl) ?_
  refine SO.v rfl (opv_move rfl) ?_
  refine SO.cut 3 30 (.bool ((t1 == 5) && (t2 == 11))) [Own 3 (ekI .i64) v11 ([2, 3]), Own 3 (ekI .i64) v9 ([1, 2]), F] (fun l2 hk2 => ?_) ?_
  · rcases bool_or (t1 == 5) with b16 | b16
    · refine SO.takeT rfl rfl rfl b16 ?_
      refine SO.v rfl (opv_move rfl) ?_
      refine SO.takeT rfl rfl rfl b16 ?_
      refine SO.v rfl (opv_eql rfl rfl) ?_
      refine SO.v rfl (opv_pick_t' b16 rfl rfl) ?_
      refine SO.b2 ?_
      refine SO.b2 ?_
      refine SO.b2 ?_
      exact hk2.fitc (m := 3) rfl (and_t b16) rfl
    · refine SO.passF rfl rfl rfl b16 rfl rfl ?_
      refine SO.passF rfl rfl rfl b16 rfl rfl ?_
      refine SO.v rfl (opv_pick_f' b16 rfl rfl) ?_
      refine SO.b2 ?_
      refine SO.b2 ?_
      refine SO.b2 ?_
      exact hk2.fitc (m := 3) rfl (and_f b16) rfl
  refine SO.v rfl (opv_move rfl) ?_
  refine SO.cut 3 34 (.bool (((t1 == 5) && (t2 == 11)) && t3.isNone)) [Own 3 (ekI .i64) v11 ([2, 3]), Own 3 (ekI .i64) v9 ([1, 2]), F] (fun l2 hk2 => ?_) ?_
  · rcases bool_or ((t1 == 5) && (t2 == 11)) with b17 | b17
    · refine SO.takeT rfl rfl rfl b17 ?_
      refine SO.v rfl (opv_move rfl) ?_
      refine SO.takeT rfl rfl rfl b17 ?_
      refine SO.v rfl (opv_eqlN (e := t3) Try.underlying45 rfl) ?_
      refine SO.v rfl (opv_pick_t' b17 rfl rfl) ?_
      refine SO.b2 ?_
      refine SO.b2 ?_
      refine SO.b2 ?_
      exact hk2.fitc (m := 3) rfl (and_t b17) rfl
    · refine SO.passF rfl rfl rfl b17 rfl rfl ?_
      refine SO.passF rfl rfl rfl b17 rfl rfl ?_
      refine SO.v rfl (opv_pick_f' b17 rfl rfl) ?_
      refine SO.b2 ?_
      refine SO.b2 ?_
      refine SO.b2 ?_
      exact hk2.fitc (m := 3) rfl (and_f b17) rfl
  refine SO.v rfl (opv_move rfl) ?_
  refine SO.cut 4 39 (.bool ((((t1 == 5) && (t2 == 11)) && t3.isNone) && (t7 == some 3))) [Own 3 (ekI .i64) v11 ([2, 3]), Own 3 (ekI .i64) v9 ([1, 2]), F] (fun l2 hk2 => ?_) ?_
  · rcases bool_or (((t1 == 5) && (t2 == 11)) && t3.isNone) with b18 | b18
    · refine SO.takeT rfl rfl rfl b18 ?_
      refine SO.v rfl (opv_move rfl) ?_
      refine SO.takeT rfl rfl rfl b18 ?_
      refine SO.v rfl (opv_iface Try.underlying48 rfl rfl) ?_
      refine SO.takeT rfl rfl rfl b18 ?_
      refine SO.v rfl (opv_eqlE (e := t7) (c := 3) Try.underlying45 Try.underlying48 inf48 rfl rfl rfl) ?_
      refine SO.v rfl (opv_pick_t' b18 rfl rfl) ?_
      refine SO.b2 ?_
      refine SO.b2 ?_
      refine SO.b2 ?_
      exact hk2.fitc (m := 4) rfl (and_t b18) rfl
    · refine SO.passF rfl rfl rfl b18 rfl rfl ?_
      refine SO.passF rfl rfl rfl b18 rfl rfl ?_
      refine SO.passF rfl rfl rfl b18 rfl rfl ?_
      refine SO.v rfl (opv_pick_f' b18 rfl rfl) ?_
      refine SO.b2 ?_
      refine SO.b2 ?_
      refine SO.b2 ?_
      exact hk2.fitc (m := 4) rfl (and_f b18) rfl
  refine SO.v rfl (opv_move rfl) ?_
  refine SO.cut 3 43 (.bool (((((t1 == 5) && (t2 == 11)) && t3.isNone) && (t7 == some 3)) && (t13 == 20480))) [Own 3 (ekI .i64) v11 ([2, 3]), Own 3 (ekI .i64) v9 ([1, 2]), F] (fun l2 hk2 => ?_) ?_
  · rcases bool_or ((((t1 == 5) && (t2 == 11)) && t3.isNone) && (t7 == some 3)) with b19 | b19
    · refine SO.takeT rfl rfl rfl b19 ?_
      refine SO.v rfl (opv_move rfl) ?_
      refine SO.takeT rfl rfl rfl b19 ?_
      refine SO.v rfl (opv_eql rfl rfl) ?_
      refine SO.v rfl (opv_pick_t' b19 rfl rfl) ?_
      refine SO.b2 ?_
      refine SO.b2 ?_
      refine SO.b2 ?_
      exact hk2.fitc (m := 3) rfl (and_t b19) rfl
    · refine SO.passF rfl rfl rfl b19 rfl rfl ?_
      refine SO.passF rfl rfl rfl b19 rfl rfl ?_
      refine SO.v rfl (opv_pick_f' b19 rfl rfl) ?_
      refine SO.b2 ?_
      refine SO.b2 ?_
      refine SO.b2 ?_
      exact hk2.fitc (m := 3) rfl (and_f b19) rfl
  refine SO.v rfl (opv_move rfl) ?_
  refine SO.cut 3 47 (.bool ((((((t1 == 5) && (t2 == 11)) && t3.isNone) && (t7 == some 3)) && (t13 == 20480)) && t14.isNone)) [Own 3 (ekI .i64) v11 ([2, 3]), Own 3 (ekI .i64) v9 ([1, 2]), F] (fun l2 hk2 => ?_) ?_
  · rcases bool_or (((((t1 == 5) && (t2 == 11)) && t3.isNone) && (t7 == some 3)) && (t13 == 20480)) with b20 | b20
    · refine SO.takeT rfl rfl rfl b20 ?_
      refine SO.v rfl (opv_move rfl) ?_
      refine SO.takeT rfl rfl rfl b20 ?_
      refine SO.v rfl (opv_eqlN (e := t14) Try.underlying45 rfl) ?_
      refine SO.v rfl (opv_pick_t' b20 rfl rfl) ?_
      refine SO.b2 ?_
      refine SO.b2 ?_
      refine SO.b2 ?_
      exact hk2.fitc (m := 3) rfl (and_t b20) rfl
    · refine SO.passF rfl rfl rfl b20 rfl rfl ?_
      refine SO.passF rfl rfl rfl b20 rfl rfl ?_
      refine SO.v rfl (opv_pick_f' b20 rfl rfl) ?_
      refine SO.b2 ?_
      refine SO.b2 ?_
      refine SO.b2 ?_
      exact hk2.fitc (m := 3) rfl (and_f b20) rfl
  refine SO.v rfl (opv_assign rfl) ?_
  refine SO.nil ?_
  refine S.to (ρ' := [(0, .bool ((((((t1 == 5) && (t2 == 11)) && t3.isNone) && (t7 == some 3)) && (t13 == 20480)) && t14.isNone))]) ⟨rfl, trivial⟩ ?_
  cases h
  refine S.drop ?_
  refine S.drop ?_
  exact S.ret1 Try.func38 rfl rfl (fun w hs hk => hR w _ _ ⟨rfl, rfl⟩ hs hk)
end Go.Proofs
namespace Go.Proofs
open Go.Sl Go.RowKit
/-! 11 padstone/padstonelaw04.GuardBack -/
def law04_GuardBack.f (k : Nat) (a0 : Int) (a1 : Int) (a2 : Int) (a3 : Int) (a4 : Int) : Option (Bool) :=
  (law04_up.f k ).bind fun t1 => bif (((decide (a1 < 0)) || (decide (8 < a1))) || (decide (a3 < 0))) || (decide (5 < a3)) then (some t1) else ((guard_Join.f k ([a0, a2, a4]) ([a1, a3, w64 ((w64 (16 - a1)) - a3)])).bind fun (t11, t12) => bif t12.isSome then (some t1) else ((guard_Walk.f t11 16 a0 a1 a3).bind fun (t15, t16, t17) => (guard_Top.f t11 t16 t16).bind fun (t19, t20) => (guard_Walk.f t11 16 a0 a1 a3).bind fun (t22, t23, t24) => some ((((((t1 && t17.isNone) && (t15 == a2)) && (t16 == (w64 ((w64 (16 - a1)) - a3)))) && t20.isNone) && (t19 == a4)) && t24.isNone)))
set_option maxHeartbeats 8000000 in
set_option maxRecDepth 100000 in
theorem law04_GuardBack.ct (k : Nat) (a0 : Int) (a1 : Int) (a2 : Int) (a3 : Int) (a4 : Int) (r0 : Bool) (h : law04_GuardBack.f k a0 a1 a2 a3 a4 = some r0) :
    Ct Try.prog 11 [.int .i64 a0, .int .i64 a1, .int .i64 a2, .int .i64 a3, .int .i64 a4] (fun _ => True) [] (fun u H' => u = .bool r0 ∧ H' = []) := by
  unfold law04_GuardBack.f at h
  refine Ct.intro (n := 111) Try.func11 rfl rfl rfl ?_
  intro R w0 F hF hR
  refine S.seq ?_
  refine S.region ?_
  refine SO.v rfl (opv_assign rfl) ?_
  refine SO.nil ?_
  refine S.seq ?_
  refine S.region ?_
  obtain ⟨t1, ht2, h⟩ := opt_bind h
  refine SO.call (pre := []) rfl Try.call38 rfl rfl rfl (law04_up.ct _ _ ht2) trivial ?_
  rintro _ _ ⟨rfl, rfl⟩
  refine SO.v rfl (opv_assign rfl) ?_
  refine SO.nil ?_
  refine S.seq ?_
  refine S.seq ?_
  refine S.region ?_
  refine SO.v rfl (opv_move rfl) ?_
  refine SO.v rfl (opv_lss rfl rfl) ?_
  refine SO.v rfl (opv_move rfl) ?_
  refine SO.cut 3 29 (.bool ((decide (a1 < 0)) || (decide (8 < a1)))) [F] (fun l2 hk2 => ?_) ?_
  · rcases bool_or (decide (a1 < 0)) with b3 | b3
    · refine SO.passF rfl rfl rfl b3 rfl rfl ?_
      refine SO.passF rfl rfl rfl b3 rfl rfl ?_
      refine SO.v rfl (opv_pick_t' b3 rfl rfl) ?_
      exact hk2.fitc (m := 3) rfl (or_t b3) rfl
    · refine SO.takeT rfl rfl rfl b3 ?_
      refine SO.v rfl (opv_move rfl) ?_
      refine SO.takeT rfl rfl rfl b3 ?_
      refine SO.v rfl (opv_gtr rfl rfl) ?_
      refine SO.v rfl (opv_pick_f' b3 rfl rfl) ?_
      exact hk2.fitc (m := 3) rfl (or_f b3) rfl
  refine SO.v rfl (opv_move rfl) ?_
  refine SO.cut 3 33 (.bool (((decide (a1 < 0)) || (decide (8 < a1))) || (decide (a3 < 0)))) [F] (fun l2 hk2 => ?_) ?_
  · rcases bool_or ((decide (a1 < 0)) || (decide (8 < a1))) with b4 | b4
    · refine SO.passF rfl rfl rfl b4 rfl rfl ?_
      refine SO.passF rfl rfl rfl b4 rfl rfl ?_
      refine SO.v rfl (opv_pick_t' b4 rfl rfl) ?_
      exact hk2.fitc (m := 3) rfl (or_t b4) rfl
    · refine SO.takeT rfl rfl rfl b4 ?_
      refine SO.v rfl (opv_move rfl) ?_
      refine SO.takeT rfl rfl rfl b4 ?_
      refine SO.v rfl (opv_lss rfl rfl) ?_
      refine SO.v rfl (opv_pick_f' b4 rfl rfl) ?_
      exact hk2.fitc (m := 3) rfl (or_f b4) rfl
  refine SO.v rfl (opv_move rfl) ?_
  refine SO.cut 3 37 (.bool ((((decide (a1 < 0)) || (decide (8 < a1))) || (decide (a3 < 0))) || (decide (5 < a3)))) [F] (fun l2 hk2 => ?_) ?_
  · rcases bool_or (((decide (a1 < 0)) || (decide (8 < a1))) || (decide (a3 < 0))) with b5 | b5
    · refine SO.passF rfl rfl rfl b5 rfl rfl ?_
      refine SO.passF rfl rfl rfl b5 rfl rfl ?_
      refine SO.v rfl (opv_pick_t' b5 rfl rfl) ?_
      exact hk2.fitc (m := 3) rfl (or_t b5) rfl
    · refine SO.takeT rfl rfl rfl b5 ?_
      refine SO.v rfl (opv_move rfl) ?_
      refine SO.takeT rfl rfl rfl b5 ?_
      refine SO.v rfl (opv_gtr rfl rfl) ?_
      refine SO.v rfl (opv_pick_f' b5 rfl rfl) ?_
      exact hk2.fitc (m := 3) rfl (or_f b5) rfl
  refine SO.nil ?_
  refine S.to (ρ' := [(0, .int .i64 a0), (1, .int .i64 a1), (2, .int .i64 a2), (3, .int .i64 a3), (4, .int .i64 a4), (10, .bool false), (11, .bool t1), (37, .bool ((((decide (a1 < 0)) || (decide (8 < a1))) || (decide (a3 < 0))) || (decide (5 < a3))))]) ⟨rfl, rfl, rfl, rfl, rfl, rfl, rfl, rfl, trivial⟩ ?_
  rcases bool_or ((((decide (a1 < 0)) || (decide (8 < a1))) || (decide (a3 < 0))) || (decide (5 < a3))) with b6 | b6
  · replace h := cond_t b6 h
    refine S.condT rfl b6 ?_
    refine S.seq ?_
    refine S.region ?_
    refine SO.v rfl (opv_move rfl) ?_
    refine SO.v rfl (opv_assign rfl) ?_
    refine SO.nil ?_
    cases h
    exact S.ret1 Try.func11 rfl rfl (fun w hs hk => hR w _ _ ⟨rfl, rfl⟩ hs hk)
  · replace h := cond_f b6 h
    refine S.condF rfl b6 ?_
    refine S.skip ?_
    refine S.seq ?_
    refine S.region ?_
    refine SO.v rfl (opv_move rfl) ?_
    refine SO.v rfl (opv_sub rfl rfl) ?_
    refine SO.v rfl (opv_move rfl) ?_
    refine SO.v rfl (opv_sub rfl rfl) ?_
    refine SO.v rfl (opv_assign rfl) ?_
    refine SO.nil ?_
    refine S.seq ?_
    refine S.region ?_
    refine SO.v rfl (opv_move rfl) ?_
    refine SO.v rfl (opv_move rfl) ?_
    refine SO.v rfl (opv_move rfl) ?_
    refine SO.buildSlice (K := ekI .i64) (xs := [a0, a2, a4]) (cs := [.int .i64 a0, .int .i64 a2, .int .i64 a4]) rfl Try.underlying73 Try.sizeOf3 Try.zeroValue3 rfl rfl rfl (by kernel_rfl) rfl rfl rfl (fun v7 hr8 => ?_)
    refine SO.v rfl (opv_move rfl) ?_
    refine SO.v rfl (opv_move rfl) ?_
    refine SO.v rfl (opv_move rfl) ?_
    refine SO.buildSlice (K := ekI .i64) (xs := [a1, a3, w64 ((w64 (16 - a1)) - a3)]) (cs := [.int .i64 a1, .int .i64 a3, .int .i64 (w64 ((w64 (16 - a1)) - a3))]) rfl Try.underlying73 Try.sizeOf3 Try.zeroValue3 rfl rfl rfl (by kernel_rfl) rfl rfl rfl (fun v9 hr10 => ?_)
    obtain ⟨⟨t11, t12⟩, ht13, h⟩ := opt_bind h
    refine SO.call (pre := []) rfl Try.call43 rfl rfl rfl (guard_Join.ct _ _ _ _ _ _ _ ht13) ⟨(Rd.tail (Rd.head hr8)), (Rd.head hr10)⟩ ?_
    rintro _ _ ⟨rfl, rfl⟩
    refine SO.v rfl (opv_move rfl) ?_
    refine SO.v rfl (opv_extract rfl rfl) ?_
    refine SO.v rfl (opv_extract rfl rfl) ?_
    refine SO.v rfl (opv_assign rfl) ?_
    refine SO.v rfl (opv_assign rfl) ?_
    refine SO.nil ?_
    refine S.to (ρ' := [(0, .int .i64 a0), (1, .int .i64 a1), (2, .int .i64 a2), (3, .int .i64 a3), (4, .int .i64 a4), (10, .bool false), (11, .bool t1), (12, .int .i64 (w64 ((w64 (16 - a1)) - a3))), (13, .int .i64 t11), (14, errV 48 t12)]) ⟨rfl, rfl, rfl, rfl, rfl, rfl, rfl, rfl, rfl, rfl, trivial⟩ ?_
    refine S.seq ?_
    refine S.seq ?_
    refine S.region ?_
    refine SO.v rfl (opv_move rfl) ?_
    refine SO.v rfl (opv_neqN (e := t12) Try.underlying45 rfl) ?_
    refine SO.nil ?_
    rcases bool_or t12.isSome with b14 | b14
    · replace h := cond_t b14 h
      refine S.condT rfl b14 ?_
      refine S.seq ?_
      refine S.region ?_
      refine SO.v rfl (opv_move rfl) ?_
      refine SO.v rfl (opv_assign rfl) ?_
      refine SO.nil ?_
      cases h
      refine S.drop ?_
      refine S.drop ?_
      exact S.ret1 Try.func11 rfl rfl (fun w hs hk => hR w _ _ ⟨rfl, rfl⟩ hs hk)
    · replace h := cond_f b14 h
      refine S.condF rfl b14 ?_
      refine S.skip ?_
      refine S.seq ?_
      refine S.region ?_
      refine SO.v rfl (opv_move rfl) ?_
      refine SO.v rfl (opv_move rfl) ?_
      refine SO.v rfl (opv_move rfl) ?_
      refine SO.v rfl (opv_move rfl) ?_
      obtain ⟨⟨t15, t16, t17⟩, ht18, h⟩ := opt_bind h
      refine SO.call (pre := []) rfl Try.call39 rfl rfl rfl (guard_Walk.ct _ _ _ _ _ _ _ _ ht18) trivial ?_
      rintro _ _ ⟨rfl, rfl⟩
      refine SO.v rfl (opv_move rfl) ?_
      refine SO.v rfl (opv_extract rfl rfl) ?_
      refine SO.v rfl (opv_extract rfl rfl) ?_
      refine SO.v rfl (opv_extract rfl rfl) ?_
      refine SO.v rfl (opv_assign rfl) ?_
      refine SO.v rfl (opv_assign rfl) ?_
      refine SO.v rfl (opv_assign rfl) ?_
      refine SO.nil ?_
      refine S.to (ρ' := [(0, .int .i64 a0), (1, .int .i64 a1), (2, .int .i64 a2), (3, .int .i64 a3), (4, .int .i64 a4), (10, .bool false), (11, .bool t1), (12, .int .i64 (w64 ((w64 (16 - a1)) - a3))), (13, .int .i64 t11), (15, .int .i64 t15), (16, .int .i64 t16), (17, errV 48 t17)]) ⟨rfl, rfl, rfl, rfl, rfl, rfl, rfl, rfl, rfl, rfl, rfl, rfl, trivial⟩ ?_
      refine S.seq ?_
      refine S.region ?_
      refine SO.v rfl (opv_move rfl) ?_
      refine SO.v rfl (opv_move rfl) ?_
      refine SO.v rfl (opv_move rfl) ?_
      obtain ⟨⟨t19, t20⟩, ht21, h⟩ := opt_bind h
      refine SO.call (pre := []) rfl Try.call41 rfl rfl rfl (guard_Top.ct _ _ _ _ _ ht21) trivial ?_
      rintro _ _ ⟨rfl, rfl⟩
      refine SO.v rfl (opv_move rfl) ?_
      refine SO.v rfl (opv_extract rfl rfl) ?_
      refine SO.v rfl (opv_extract rfl rfl) ?_
      refine SO.v rfl (opv_assign rfl) ?_
      refine SO.v rfl (opv_assign rfl) ?_
      refine SO.nil ?_
      refine S.to (ρ' := [(0, .int .i64 a0), (1, .int .i64 a1), (2, .int .i64 a2), (3, .int .i64 a3), (4, .int .i64 a4), (10, .bool false), (11, .bool t1), (12, .int .i64 (w64 ((w64 (16 - a1)) - a3))), (13, .int .i64 t11), (15, .int .i64 t15), (16, .int .i64 t16), (17, errV 48 t17), (18, .int .i64 t19), (19, errV 48 t20)]) ⟨rfl, rfl, rfl, rfl, rfl, rfl, rfl, rfl, rfl, rfl, rfl, rfl, rfl, rfl, trivial⟩ ?_
      refine S.seq ?_
      refine S.region ?_
      refine SO.v rfl (opv_move rfl) ?_
      refine SO.v rfl (opv_move rfl) ?_
      refine SO.v rfl (opv_move rfl) ?_
      refine SO.v rfl (opv_move rfl) ?_
      obtain ⟨⟨t22, t23, t24⟩, ht25, h⟩ := opt_bind h
      refine SO.call (pre := []) rfl Try.call39 rfl rfl rfl (guard_Walk.ct _ _ _ _ _ _ _ _ ht25) trivial ?_
      rintro _ _ ⟨rfl, rfl⟩
      refine SO.v rfl (opv_move rfl) ?_
      refine SO.v rfl (opv_extract rfl rfl) ?_
      refine SO.v rfl (opv_extract rfl rfl) ?_
      refine SO.v rfl (opv_extract rfl rfl) ?_
      refine SO.v rfl (opv_assign rfl) ?_
      refine SO.v rfl (opv_assign rfl) ?_
      refine SO.v rfl (opv_assign rfl) ?_
      refine SO.nil ?_
      refine S.to (ρ' := [(2, .int .i64 a2), (4, .int .i64 a4), (10, .bool false), (11, .bool t1), (12, .int .i64 (w64 ((w64 (16 - a1)) - a3))), (15, .int .i64 t15), (16, .int .i64 t16), (17, errV 48 t17), (18, .int .i64 t19), (19, errV 48 t20), (22, errV 48 t24)]) ⟨rfl, rfl, rfl, rfl, rfl, rfl, rfl, rfl, rfl, rfl, rfl, trivial⟩ ?_
      refine S.seq ?_
      refine S.region ?_
      refine SO.v rfl (opv_move rfl) ?_
      refine SO.v rfl (opv_move rfl) ?_
      refine SO.cut 3 87 (.bool (t1 && t17.isNone)) [Own 3 (ekI .i64) v9 ([a1, a3, w64 ((w64 (16 - a1)) - a3)]), Own 3 (ekI .i64) v7 ([a0, a2, a4]), F] (fun l2 hk2 => ?_) ?_
      · rcases bool_or t1 with b26 | b26
        · refine SO.takeT rfl rfl rfl b26 ?_
          refine SO.v rfl (opv_move rfl) ?_
          refine SO.takeT rfl rfl rfl b26 ?_
          refine SO.v rfl (opv_eqlN (e := t17) Try.underlying45 rfl) ?_
          refine SO.v rfl (opv_pick_t' b26 rfl rfl) ?_
          refine SO.b2 ?_
          refine SO.b2 ?_
          refine SO.b2 ?_
          exact hk2.fitc (m := 3) rfl (and_t b26) rfl
        · refine SO.passF rfl rfl rfl b26 rfl rfl ?_
          refine SO.passF rfl rfl rfl b26 rfl rfl ?_
          refine SO.v rfl (opv_pick_f' b26 rfl rfl) ?_
          refine SO.b2 ?_
          refine SO.b2 ?_
          refine SO.b2 ?_
          exact hk2.fitc (m := 3) rfl (and_f b26) rfl
      refine SO.v rfl (opv_move rfl) ?_
      refine SO.cut 4 92 (.bool ((t1 && t17.isNone) && (t15 == a2))) [Own 3 (ekI .i64) v9 ([a1, a3, w64 ((w64 (16 - a1)) - a3)]), Own 3 (ekI .i64) v7 ([a0, a2, a4]), F] (fun l2 hk2 => ?_) ?_
      · rcases bool_or (t1 && t17.isNone) with b27 | b27
        · refine SO.takeT rfl rfl rfl b27 ?_
          refine SO.v rfl (opv_move rfl) ?_
          refine SO.takeT rfl rfl rfl b27 ?_
          refine SO.v rfl (opv_move rfl) ?_
          refine SO.takeT rfl rfl rfl b27 ?_
          refine SO.v rfl (opv_eql rfl rfl) ?_
          refine SO.v rfl (opv_pick_t' b27 rfl rfl) ?_
          refine SO.b2 ?_
          refine SO.b2 ?_
          refine SO.b2 ?_
          exact hk2.fitc (m := 4) rfl (and_t b27) rfl
        · refine SO.passF rfl rfl rfl b27 rfl rfl ?_
          refine SO.passF rfl rfl rfl b27 rfl rfl ?_
          refine SO.passF rfl rfl rfl b27 rfl rfl ?_
          refine SO.v rfl (opv_pick_f' b27 rfl rfl) ?_
          refine SO.b2 ?_
          refine SO.b2 ?_
          refine SO.b2 ?_
          exact hk2.fitc (m := 4) rfl (and_f b27) rfl
      refine SO.v rfl (opv_move rfl) ?_
      refine SO.cut 4 97 (.bool (((t1 && t17.isNone) && (t15 == a2)) && (t16 == (w64 ((w64 (16 - a1)) - a3))))) [Own 3 (ekI .i64) v9 ([a1, a3, w64 ((w64 (16 - a1)) - a3)]), Own 3 (ekI .i64) v7 ([a0, a2, a4]), F] (fun l2 hk2 => ?_) ?_
      · rcases bool_or ((t1 && t17.isNone) && (t15 == a2)) with b28 | b28
        · refine SO.takeT rfl rfl rfl b28 ?_
          refine SO.v rfl (opv_move rfl) ?_
          refine SO.takeT rfl rfl rfl b28 ?_
          refine SO.v rfl (opv_move rfl) ?_
          refine SO.takeT rfl rfl rfl b28 ?_
          refine SO.v rfl (opv_eql rfl rfl) ?_
          refine SO.v rfl (opv_pick_t' b28 rfl rfl) ?_
          refine SO.b2 ?_
          refine SO.b2 ?_
          refine SO.b2 ?_
          exact hk2.fitc (m := 4) rfl (and_t b28) rfl
        · refine SO.passF rfl rfl rfl b28 rfl rfl ?_
          refine SO.passF rfl rfl rfl b28 rfl rfl ?_
          refine SO.passF rfl rfl rfl b28 rfl rfl ?_
          refine SO.v rfl (opv_pick_f' b28 rfl rfl) ?_
          refine SO.b2 ?_
          refine SO.b2 ?_
          refine SO.b2 ?_
          exact hk2.fitc (m := 4) rfl (and_f b28) rfl
      refine SO.v rfl (opv_move rfl) ?_
      refine SO.cut 3 101 (.bool ((((t1 && t17.isNone) && (t15 == a2)) && (t16 == (w64 ((w64 (16 - a1)) - a3)))) && t20.isNone)) [Own 3 (ekI .i64) v9 ([a1, a3, w64 ((w64 (16 - a1)) - a3)]), Own 3 (ekI .i64) v7 ([a0, a2, a4]), F] (fun l2 hk2 => ?_) ?_
      · rcases bool_or (((t1 && t17.isNone) && (t15 == a2)) && (t16 == (w64 ((w64 (16 - a1)) - a3)))) with b29 | b29
        · refine SO.takeT rfl rfl rfl b29 ?_
          refine SO.v rfl (opv_move rfl) ?_
          refine SO.takeT rfl rfl rfl b29 ?_
          refine SO.v rfl (opv_eqlN (e := t20) Try.underlying45 rfl) ?_
          refine SO.v rfl (opv_pick_t' b29 rfl rfl) ?_
          refine SO.b2 ?_
          refine SO.b2 ?_
          refine SO.b2 ?_
          exact hk2.fitc (m := 3) rfl (and_t b29) rfl
        · refine SO.passF rfl rfl rfl b29 rfl rfl ?_
          refine SO.passF rfl rfl rfl b29 rfl rfl ?_
          refine SO.v rfl (opv_pick_f' b29 rfl rfl) ?_
          refine SO.b2 ?_
          refine SO.b2 ?_
          refine SO.b2 ?_
          exact hk2.fitc (m := 3) rfl (and_f b29) rfl
      refine SO.v rfl (opv_move rfl) ?_
      refine SO.cut 4 106 (.bool (((((t1 && t17.isNone) && (t15 == a2)) && (t16 == (w64 ((w64 (16 - a1)) - a3)))) && t20.isNone) && (t19 == a4))) [Own 3 (ekI .i64) v9 ([a1, a3, w64 ((w64 (16 - a1)) - a3)]), Own 3 (ekI .i64) v7 ([a0, a2, a4]), F] (fun l2 hk2 => ?_) ?_
      · rcases bool_or ((((t1 && t17.isNone) && (t15 == a2)) && (t16 == (w64 ((w64 (16 - a1)) - a3)))) && t20.isNone) with b30 | b30
        · refine SO.takeT rfl rfl rfl b30 ?_
          refine SO.v rfl (opv_move rfl) ?_
          refine SO.takeT rfl rfl rfl b30 ?_
          refine SO.v rfl (opv_move rfl) ?_
          refine SO.takeT rfl rfl rfl b30 ?_
          refine SO.v rfl (opv_eql rfl rfl) ?_
          refine SO.v rfl (opv_pick_t' b30 rfl rfl) ?_
          refine SO.b2 ?_
          refine SO.b2 ?_
          refine SO.b2 ?_
          exact hk2.fitc (m := 4) rfl (and_t b30) rfl
        · refine SO.passF rfl rfl rfl b30 rfl rfl ?_
          refine SO.passF rfl rfl rfl b30 rfl rfl ?_
          refine SO.passF rfl rfl rfl b30 rfl rfl ?_
          refine SO.v rfl (opv_pick_f' b30 rfl rfl) ?_
          refine SO.b2 ?_
          refine SO.b2 ?_
          refine SO.b2 ?_
          exact hk2.fitc (m := 4) rfl (and_f b30) rfl
      refine SO.v rfl (opv_move rfl) ?_
      refine SO.cut 3 110 (.bool ((((((t1 && t17.isNone) && (t15 == a2)) && (t16 == (w64 ((w64 (16 - a1)) - a3)))) && t20.isNone) && (t19 == a4)) && t24.isNone)) [Own 3 (ekI .i64) v9 ([a1, a3, w64 ((w64 (16 - a1)) - a3)]), Own 3 (ekI .i64) v7 ([a0, a2, a4]), F] (fun l2 hk2 => ?_) ?_
      · rcases bool_or (((((t1 && t17.isNone) && (t15 == a2)) && (t16 == (w64 ((w64 (16 - a1)) - a3)))) && t20.isNone) && (t19 == a4)) with b31 | b31
        · refine SO.takeT rfl rfl rfl b31 ?_
          refine SO.v rfl (opv_move rfl) ?_
          refine SO.takeT rfl rfl rfl b31 ?_
          refine SO.v rfl (opv_eqlN (e := t24) Try.underlying45 rfl) ?_
          refine SO.v rfl (opv_pick_t' b31 rfl rfl) ?_
          refine SO.b2 ?_
          refine SO.b2 ?_
          refine SO.b2 ?_
          exact hk2.fitc (m := 3) rfl (and_t b31) rfl
        · refine SO.passF rfl rfl rfl b31 rfl rfl ?_
          refine SO.passF rfl rfl rfl b31 rfl rfl ?_
          refine SO.v rfl (opv_pick_f' b31 rfl rfl) ?_
          refine SO.b2 ?_
          refine SO.b2 ?_
          refine SO.b2 ?_
          exact hk2.fitc (m := 3) rfl (and_f b31) rfl
      refine SO.v rfl (opv_assign rfl) ?_
      refine SO.nil ?_
      refine S.to (ρ' := [(10, .bool ((((((t1 && t17.isNone) && (t15 == a2)) && (t16 == (w64 ((w64 (16 - a1)) - a3)))) && t20.isNone) && (t19 == a4)) && t24.isNone))]) ⟨rfl, trivial⟩ ?_
      cases h
      refine S.drop ?_
      refine S.drop ?_
      exact S.ret1 Try.func11 rfl rfl (fun w hs hk => hR w _ _ ⟨rfl, rfl⟩ hs hk)
end Go.Proofs
namespace Go.Proofs
open Go.Sl Go.RowKit
/-! 67 padstone/padstoneref01.two -/
def ref01_two.l1 (a0 : Int) : Nat → (Int × Int) → Option (Int)
  | 0, _ => none
  | k + 1, (x4_1, x3_1) => bif decide (x4_1 < a0) then (ref01_two.l1 a0 k (w64 (x4_1 + 1), w64 (2 * x3_1))) else (some x3_1)
def ref01_two.f (k : Nat) (a0 : Int) : Option (Int) :=
  (ref01_two.l1 a0 k (0, 1)).bind fun j3_e1 => some j3_e1
set_option maxHeartbeats 8000000 in
set_option maxRecDepth 100000 in
theorem ref01_two.ct (k : Nat) (a0 : Int) (r0 : Int) (h : ref01_two.f k a0 = some r0) :
    Ct Try.prog 67 [.int .i64 a0] (fun _ => True) [] (fun u H' => u = .int .i64 r0 ∧ H' = []) := by
  unfold ref01_two.f at h
  refine Ct.intro (n := 13) Try.func67 rfl rfl rfl ?_
  intro R w0 F hF hR
  refine S.seq ?_
  refine S.region ?_
  refine SO.v rfl (opv_assign rfl) ?_
  refine SO.nil ?_
  refine S.seq ?_
  refine S.region ?_
  refine SO.v rfl (opv_assign rfl) ?_
  refine SO.nil ?_
  refine S.seq ?_
  refine S.seq ?_
  refine S.region ?_
  refine SO.v rfl (opv_assign rfl) ?_
  refine SO.nil ?_
  obtain ⟨j3_e1, hl1, h⟩ := opt_bind h
  refine S.to (ρ' := [(4, .int .i64 0), (3, .int .i64 1), (2, .int .i64 0), (0, .int .i64 a0)]) ⟨rfl, rfl, rfl, rfl, trivial⟩ ?_
  refine S.forloop (X := (Int × Int) × Unit) (O := Int) (fun m x => ref01_two.l1 a0 m x.1) (fun x => match x with | ((x4_1, x3_1), _) => [(4, .int .i64 x4_1), (3, .int .i64 x3_1), (2, .int .i64 0), (0, .int .i64 a0)]) (fun x => match x with | ((x4_1, x3_1), _) => [F]) (fun Sk => (fun j3_e1 => ∀ _ : Unit, Sk [(2, .int .i64 0), (3, .int .i64 j3_e1)] [F])) (fun _ => rfl) ?_ (m := k) (x := ((0, 1), ())) hl1 ?_
  · clear h hl1
    intro k x o_1 h hK1 ih1
    obtain ⟨⟨x4_1, x3_1⟩, _⟩ := x
    replace h : ref01_two.l1 a0 (k + 1) (x4_1, x3_1) = some o_1 := h
    rw [ref01_two.l1] at h
    refine S.seq ?_
    refine S.seq ?_
    refine S.region ?_
    refine SO.v rfl (opv_move rfl) ?_
    refine SO.v rfl (opv_move rfl) ?_
    refine SO.v rfl (opv_lss rfl rfl) ?_
    refine SO.nil ?_
    rcases bool_or (decide (x4_1 < a0)) with b1 | b1
    · replace h := cond_t b1 h
      refine S.condT rfl b1 ?_
      refine S.skip ?_
      refine S.seq ?_
      refine S.block ?_
      refine S.region ?_
      refine SO.v rfl (opv_move rfl) ?_
      refine SO.v rfl (opv_mul rfl rfl) ?_
      refine SO.v rfl (opv_assign rfl) ?_
      refine SO.nil ?_
      refine S.inBlock ?_
      refine S.region ?_
      refine SO.v rfl (opv_move rfl) ?_
      refine SO.v rfl (opv_add rfl rfl) ?_
      refine SO.v rfl (opv_assign rfl) ?_
      refine SO.nil ?_
      refine S.to ?_ (ih1 ((w64 (x4_1 + 1), w64 (2 * x3_1)), ()) h)
      exact ⟨rfl, rfl, rfl, rfl, trivial⟩
    · replace h := cond_f b1 h
      refine S.condF rfl b1 ?_
      refine S.exit rfl ?_
      cases h
      refine S.to ?_ (hK1 ())
      exact ⟨rfl, rfl, trivial⟩
  rintro _
  refine S.seq ?_
  refine S.region ?_
  refine SO.v rfl (opv_move rfl) ?_
  refine SO.v rfl (opv_assign rfl) ?_
  refine SO.nil ?_
  cases h
  exact S.ret1 Try.func67 rfl rfl (fun w hs hk => hR w _ _ ⟨rfl, rfl⟩ hs hk)
end Go.Proofs
namespace Go.Proofs
open Go.Sl Go.RowKit
/-! 42 padstone/padstoneref01.Top -/
def ref01_Top.f (k : Nat) (a0 : Int) (a1 : Int) (a2 : Int) : Option (Int × Int) :=
  bif ((((decide (a0 < 0)) || (decide (65535 < a0))) || (decide (a1 < 0))) || (decide (16 < a1))) || (decide (a2 < 0)) then (some (0, 1)) else (bif decide (a1 < a2) then (some (0, 4)) else ((ref01_two.f k a1).bind fun t7 => (chk (decide (t7 ≠ 0))).bind fun _ => (ref01_two.f k (w64 (a1 - a2))).bind fun t10 => (chk (decide (t10 ≠ 0))).bind fun _ => some (w64 ((a0.tmod t7).tdiv t10), 0)))
set_option maxHeartbeats 8000000 in
set_option maxRecDepth 100000 in
theorem ref01_Top.ct (k : Nat) (a0 : Int) (a1 : Int) (a2 : Int) (r0 : Int) (r1 : Int) (h : ref01_Top.f k a0 a1 a2 = some (r0, r1)) :
    Ct Try.prog 42 [.int .i64 a0, .int .i64 a1, .int .i64 a2] (fun _ => True) [] (fun u H' => u = .tuple #[.int .i64 r0, .int .i64 r1] ∧ H' = []) := by
  unfold ref01_Top.f at h
  refine Ct.intro (n := 38) Try.func42 rfl rfl rfl ?_
  intro R w0 F hF hR
  refine S.seq ?_
  refine S.region ?_
  refine SO.v rfl (opv_assign rfl) ?_
  refine SO.v rfl (opv_assign rfl) ?_
  refine SO.nil ?_
  refine S.seq ?_
  refine S.seq ?_
  refine S.region ?_
  refine SO.v rfl (opv_move rfl) ?_
  refine SO.v rfl (opv_lss rfl rfl) ?_
  refine SO.v rfl (opv_move rfl) ?_
  refine SO.cut 3 13 (.bool ((decide (a0 < 0)) || (decide (65535 < a0)))) [F] (fun l2 hk2 => ?_) ?_
  · rcases bool_or (decide (a0 < 0)) with b1 | b1
    · refine SO.passF rfl rfl rfl b1 rfl rfl ?_
      refine SO.passF rfl rfl rfl b1 rfl rfl ?_
      refine SO.v rfl (opv_pick_t' b1 rfl rfl) ?_
      exact hk2.fitc (m := 3) rfl (or_t b1) rfl
    · refine SO.takeT rfl rfl rfl b1 ?_
      refine SO.v rfl (opv_move rfl) ?_
      refine SO.takeT rfl rfl rfl b1 ?_
      refine SO.v rfl (opv_gtr rfl rfl) ?_
      refine SO.v rfl (opv_pick_f' b1 rfl rfl) ?_
      exact hk2.fitc (m := 3) rfl (or_f b1) rfl
  refine SO.v rfl (opv_move rfl) ?_
  refine SO.cut 3 17 (.bool (((decide (a0 < 0)) || (decide (65535 < a0))) || (decide (a1 < 0)))) [F] (fun l2 hk2 => ?_) ?_
  · rcases bool_or ((decide (a0 < 0)) || (decide (65535 < a0))) with b2 | b2
    · refine SO.passF rfl rfl rfl b2 rfl rfl ?_
      refine SO.passF rfl rfl rfl b2 rfl rfl ?_
      refine SO.v rfl (opv_pick_t' b2 rfl rfl) ?_
      exact hk2.fitc (m := 3) rfl (or_t b2) rfl
    · refine SO.takeT rfl rfl rfl b2 ?_
      refine SO.v rfl (opv_move rfl) ?_
      refine SO.takeT rfl rfl rfl b2 ?_
      refine SO.v rfl (opv_lss rfl rfl) ?_
      refine SO.v rfl (opv_pick_f' b2 rfl rfl) ?_
      exact hk2.fitc (m := 3) rfl (or_f b2) rfl
  refine SO.v rfl (opv_move rfl) ?_
  refine SO.cut 3 21 (.bool ((((decide (a0 < 0)) || (decide (65535 < a0))) || (decide (a1 < 0))) || (decide (16 < a1)))) [F] (fun l2 hk2 => ?_) ?_
  · rcases bool_or (((decide (a0 < 0)) || (decide (65535 < a0))) || (decide (a1 < 0))) with b3 | b3
    · refine SO.passF rfl rfl rfl b3 rfl rfl ?_
      refine SO.passF rfl rfl rfl b3 rfl rfl ?_
      refine SO.v rfl (opv_pick_t' b3 rfl rfl) ?_
      exact hk2.fitc (m := 3) rfl (or_t b3) rfl
    · refine SO.takeT rfl rfl rfl b3 ?_
      refine SO.v rfl (opv_move rfl) ?_
      refine SO.takeT rfl rfl rfl b3 ?_
      refine SO.v rfl (opv_gtr rfl rfl) ?_
      refine SO.v rfl (opv_pick_f' b3 rfl rfl) ?_
      exact hk2.fitc (m := 3) rfl (or_f b3) rfl
  refine SO.v rfl (opv_move rfl) ?_
  refine SO.cut 3 25 (.bool (((((decide (a0 < 0)) || (decide (65535 < a0))) || (decide (a1 < 0))) || (decide (16 < a1))) || (decide (a2 < 0)))) [F] (fun l2 hk2 => ?_) ?_
  · rcases bool_or ((((decide (a0 < 0)) || (decide (65535 < a0))) || (decide (a1 < 0))) || (decide (16 < a1))) with b4 | b4
    · refine SO.passF rfl rfl rfl b4 rfl rfl ?_
      refine SO.passF rfl rfl rfl b4 rfl rfl ?_
      refine SO.v rfl (opv_pick_t' b4 rfl rfl) ?_
      exact hk2.fitc (m := 3) rfl (or_t b4) rfl
    · refine SO.takeT rfl rfl rfl b4 ?_
      refine SO.v rfl (opv_move rfl) ?_
      refine SO.takeT rfl rfl rfl b4 ?_
      refine SO.v rfl (opv_lss rfl rfl) ?_
      refine SO.v rfl (opv_pick_f' b4 rfl rfl) ?_
      exact hk2.fitc (m := 3) rfl (or_f b4) rfl
  refine SO.nil ?_
  refine S.to (ρ' := [(0, .int .i64 a0), (1, .int .i64 a1), (2, .int .i64 a2), (6, .int .i64 0), (7, .int .i64 0), (25, .bool (((((decide (a0 < 0)) || (decide (65535 < a0))) || (decide (a1 < 0))) || (decide (16 < a1))) || (decide (a2 < 0))))]) ⟨rfl, rfl, rfl, rfl, rfl, rfl, trivial⟩ ?_
  rcases bool_or (((((decide (a0 < 0)) || (decide (65535 < a0))) || (decide (a1 < 0))) || (decide (16 < a1))) || (decide (a2 < 0))) with b5 | b5
  · replace h := cond_t b5 h
    refine S.condT rfl b5 ?_
    refine S.seq ?_
    refine S.region ?_
    refine SO.v rfl (opv_assign rfl) ?_
    refine SO.v rfl (opv_assign rfl) ?_
    refine SO.nil ?_
    cases h
    exact S.ret2 Try.func42 rfl rfl rfl (fun w hs hk => hR w _ _ ⟨rfl, rfl⟩ hs hk)
  · replace h := cond_f b5 h
    refine S.condF rfl b5 ?_
    refine S.skip ?_
    refine S.seq ?_
    refine S.seq ?_
    refine S.region ?_
    refine SO.v rfl (opv_move rfl) ?_
    refine SO.v rfl (opv_move rfl) ?_
    refine SO.v rfl (opv_gtr rfl rfl) ?_
    refine SO.nil ?_
    rcases bool_or (decide (a1 < a2)) with b6 | b6
    · replace h := cond_t b6 h
      refine S.condT rfl b6 ?_
      refine S.seq ?_
      refine S.region ?_
      refine SO.v rfl (opv_assign rfl) ?_
      refine SO.v rfl (opv_assign rfl) ?_
      refine SO.nil ?_
      cases h
      exact S.ret2 Try.func42 rfl rfl rfl (fun w hs hk => hR w _ _ ⟨rfl, rfl⟩ hs hk)
    · replace h := cond_f b6 h
      refine S.condF rfl b6 ?_
      refine S.skip ?_
      refine S.seq ?_
      obtain ⟨t7, ht8, h⟩ := opt_bind h
      obtain ⟨_, hc9, h⟩ := opt_bind h
      obtain ⟨t10, ht11, h⟩ := opt_bind h
      obtain ⟨_, hc12, h⟩ := opt_bind h
      refine S.draw' (Z := fun Q => ∀ (_ : Unit) (_ : Unit) (_ : Unit), Q [(6, .int .i64 (w64 ((a0.tmod t7).tdiv t10))), (7, .int .i64 0)] [F]) (T := [tS 0 (.int .i64 a0), tS 1 (.int .i64 a1), tS 2 (.int .i64 a2), tR (F), tS 29 (.int .i64 a0), tS 30 (.int .i64 a1), tS 31 (.int .i64 t7), tS 32 (.int .i64 (a0.tmod t7)), tS 33 (.int .i64 a1), tS 34 (.int .i64 a2), tS 35 (.int .i64 (w64 (a1 - a2))), tS 36 (.int .i64 t10), tS 37 (.int .i64 (w64 ((a0.tmod t7).tdiv t10))), tS 6 (.int .i64 (w64 ((a0.tmod t7).tdiv t10))), tS 7 (.int .i64 0)]) (D := [⟨[0], [], [4]⟩, ⟨[1], [], [5]⟩, ⟨[5], [], [6]⟩, ⟨[4, 6], [], [7]⟩, ⟨[1], [], [8]⟩, ⟨[2], [], [9]⟩, ⟨[8, 9], [], [10]⟩, ⟨[10], [], [11]⟩, ⟨[7, 11], [], [12]⟩, ⟨[12], [], [13]⟩, ⟨[], [], [14]⟩]) (ini := [0, 1, 2, 3]) (fin := [13, 14, 3]) (bf := [[], [], [1], [0, 1, 2], [], [], [4, 5], [1, 2, 4, 5, 6], [0, 1, 2, 3, 4, 5, 6, 7], [0, 1, 2, 3, 4, 5, 6, 7, 8], [0, 1, 2, 3, 4, 5, 6, 7, 8, 9]]) (by kernel_rfl) (by kernel_rfl) (fun x w h1 h2 => (.cons () (.cons () (.cons () (.cons () (.nil ⟨EnvAll.of h1 ⟨rfl, rfl, rfl, trivial⟩, h2⟩)))))) (fun Q => by kernel_rfl) ⟨?_, ?_, ?_, ?_, ?_, ?_, ?_, ?_, ?_, ?_, ?_, trivial⟩ ?_
      · rintro Fr _
        refine SO.v rfl (opv_move rfl) ?_
        exact SO.nilZ fun a w h1 h2 h3 h4 h5 => PZ.of h1 h3 h5 (.cons () (.cons () (.nil ⟨EnvAll.of h2 ⟨rfl, rfl, trivial⟩, h4⟩)))
      · rintro Fr _
        refine SO.v rfl (opv_move rfl) ?_
        exact SO.nilZ fun a w h1 h2 h3 h4 h5 => PZ.of h1 h3 h5 (.cons () (.cons () (.nil ⟨EnvAll.of h2 ⟨rfl, rfl, trivial⟩, h4⟩)))
      · rintro Fr _
        refine SO.call (pre := []) rfl Try.call67 rfl rfl rfl (ref01_two.ct _ _ _ ht8) trivial ?_
        rintro _ _ ⟨rfl, rfl⟩
        exact SO.nilZ fun a w h1 h2 h3 h4 h5 => PZ.of h1 h3 h5 (.cons () (.cons () (.nil ⟨EnvAll.of h2 ⟨rfl, rfl, trivial⟩, h4⟩)))
      · rintro Fr _ _
        refine SO.v rfl (opv_rem rfl rfl (of_decide_eq_true (chk_some hc9))) ?_
        exact SO.nilZ fun a w h1 h2 h3 h4 h5 => PZ.of h1 h3 h5 (.cons () (.cons () (.cons () (.nil ⟨EnvAll.of h2 ⟨rfl, rfl, rfl, trivial⟩, h4⟩))))
      · rintro Fr _
        refine SO.v rfl (opv_move rfl) ?_
        exact SO.nilZ fun a w h1 h2 h3 h4 h5 => PZ.of h1 h3 h5 (.cons () (.cons () (.nil ⟨EnvAll.of h2 ⟨rfl, rfl, trivial⟩, h4⟩)))
      · rintro Fr _
        refine SO.v rfl (opv_move rfl) ?_
        exact SO.nilZ fun a w h1 h2 h3 h4 h5 => PZ.of h1 h3 h5 (.cons () (.cons () (.nil ⟨EnvAll.of h2 ⟨rfl, rfl, trivial⟩, h4⟩)))
      · rintro Fr _ _
        refine SO.v rfl (opv_sub rfl rfl) ?_
        exact SO.nilZ fun a w h1 h2 h3 h4 h5 => PZ.of h1 h3 h5 (.cons () (.cons () (.cons () (.nil ⟨EnvAll.of h2 ⟨rfl, rfl, rfl, trivial⟩, h4⟩))))
      · rintro Fr _
        refine SO.call (pre := []) rfl Try.call67 rfl rfl rfl (ref01_two.ct _ _ _ ht11) trivial ?_
        rintro _ _ ⟨rfl, rfl⟩
        exact SO.nilZ fun a w h1 h2 h3 h4 h5 => PZ.of h1 h3 h5 (.cons () (.cons () (.nil ⟨EnvAll.of h2 ⟨rfl, rfl, trivial⟩, h4⟩)))
      · rintro Fr _ _
        refine SO.v rfl (opv_quo rfl rfl (of_decide_eq_true (chk_some hc12))) ?_
        exact SO.nilZ fun a w h1 h2 h3 h4 h5 => PZ.of h1 h3 h5 (.cons () (.cons () (.cons () (.nil ⟨EnvAll.of h2 ⟨rfl, rfl, rfl, trivial⟩, h4⟩))))
      · rintro Fr _
        refine SO.v rfl (opv_assign rfl) ?_
        exact SO.nilZ fun a w h1 h2 h3 h4 h5 => PZ.of h1 h3 h5 (.cons () (.cons () (.nil ⟨EnvAll.of h2 ⟨rfl, rfl, trivial⟩, h4⟩)))
      · rintro Fr 
        refine SO.v rfl (opv_assign rfl) ?_
        exact SO.nilZ fun a w h1 h2 h3 h4 h5 => PZ.of h1 h3 h5 (.cons () (.nil ⟨EnvAll.of h2 ⟨rfl, trivial⟩, h4⟩))
      rintro _ _ _
      refine S.to (ρ' := [(6, .int .i64 (w64 ((a0.tmod t7).tdiv t10))), (7, .int .i64 0)]) ⟨rfl, rfl, trivial⟩ ?_
      cases h
      exact S.ret2 Try.func42 rfl rfl rfl (fun w hs hk => hR w _ _ ⟨rfl, rfl⟩ hs hk)
end Go.Proofs
namespace Go.Proofs
open Go.Sl Go.RowKit
/-! 40 padstone/padstoneref01.Walk -/
def ref01_Walk.f (k : Nat) (a0 : Int) (a1 : Int) (a2 : Int) (a3 : Int) (a4 : Int) : Option (Int × Int × Int) :=
  bif ((((((((decide (a0 < 0)) || (decide (65535 < a0))) || (decide (a1 < 0))) || (decide (16 < a1))) || (decide (a3 < 0))) || (decide (8 < a3))) || (decide (a4 < 0))) || (decide (5 < a4))) || (decide (a2 < 0)) then (some (0, 0, 1)) else ((ref01_two.f k a3).bind fun t10 => bif decide (t10 ≤ a2) then (some (0, 0, 1)) else (bif decide (a1 < (w64 (a3 + a4))) then (some (0, 0, 4)) else ((ref01_Top.f k a0 a1 a3).bind fun (t14, t15) => bif t14 != a2 then (some (0, 0, 3)) else ((ref01_Top.f k a0 (w64 (a1 - a3)) a4).bind fun (t18, t19) => some (t18, w64 ((w64 (a1 - a3)) - a4), 0)))))
set_option maxHeartbeats 8000000 in
set_option maxRecDepth 100000 in
theorem ref01_Walk.ct (k : Nat) (a0 : Int) (a1 : Int) (a2 : Int) (a3 : Int) (a4 : Int) (r0 : Int) (r1 : Int) (r2 : Int) (h : ref01_Walk.f k a0 a1 a2 a3 a4 = some (r0, r1, r2)) :
    Ct Try.prog 40 [.int .i64 a0, .int .i64 a1, .int .i64 a2, .int .i64 a3, .int .i64 a4] (fun _ => True) [] (fun u H' => u = .tuple #[.int .i64 r0, .int .i64 r1, .int .i64 r2] ∧ H' = []) := by
  unfold ref01_Walk.f at h
  refine Ct.intro (n := 85) Try.func40 rfl rfl rfl ?_
  intro R w0 F hF hR
  refine S.seq ?_
  refine S.region ?_
  refine SO.v rfl (opv_assign rfl) ?_
  refine SO.v rfl (opv_assign rfl) ?_
  refine SO.v rfl (opv_assign rfl) ?_
  refine SO.nil ?_
  refine S.seq ?_
  refine S.seq ?_
  refine S.region ?_
  refine SO.v rfl (opv_move rfl) ?_
  refine SO.v rfl (opv_lss rfl rfl) ?_
  refine SO.v rfl (opv_move rfl) ?_
  refine SO.cut 3 22 (.bool ((decide (a0 < 0)) || (decide (65535 < a0)))) [F] (fun l2 hk2 => ?_) ?_
  · rcases bool_or (decide (a0 < 0)) with b1 | b1
    · refine SO.passF rfl rfl rfl b1 rfl rfl ?_
      refine SO.passF rfl rfl rfl b1 rfl rfl ?_
      refine SO.v rfl (opv_pick_t' b1 rfl rfl) ?_
      exact hk2.fitc (m := 3) rfl (or_t b1) rfl
    · refine SO.takeT rfl rfl rfl b1 ?_
      refine SO.v rfl (opv_move rfl) ?_
      refine SO.takeT rfl rfl rfl b1 ?_
      refine SO.v rfl (opv_gtr rfl rfl) ?_
      refine SO.v rfl (opv_pick_f' b1 rfl rfl) ?_
      exact hk2.fitc (m := 3) rfl (or_f b1) rfl
  refine SO.v rfl (opv_move rfl) ?_
  refine SO.cut 3 26 (.bool (((decide (a0 < 0)) || (decide (65535 < a0))) || (decide (a1 < 0)))) [F] (fun l2 hk2 => ?_) ?_
  · rcases bool_or ((decide (a0 < 0)) || (decide (65535 < a0))) with b2 | b2
    · refine SO.passF rfl rfl rfl b2 rfl rfl ?_
      refine SO.passF rfl rfl rfl b2 rfl rfl ?_
      refine SO.v rfl (opv_pick_t' b2 rfl rfl) ?_
      exact hk2.fitc (m := 3) rfl (or_t b2) rfl
    · refine SO.takeT rfl rfl rfl b2 ?_
      refine SO.v rfl (opv_move rfl) ?_
      refine SO.takeT rfl rfl rfl b2 ?_
      refine SO.v rfl (opv_lss rfl rfl) ?_
      refine SO.v rfl (opv_pick_f' b2 rfl rfl) ?_
      exact hk2.fitc (m := 3) rfl (or_f b2) rfl
  refine SO.v rfl (opv_move rfl) ?_
  refine SO.cut 3 30 (.bool ((((decide (a0 < 0)) || (decide (65535 < a0))) || (decide (a1 < 0))) || (decide (16 < a1)))) [F] (fun l2 hk2 => ?_) ?_
  · rcases bool_or (((decide (a0 < 0)) || (decide (65535 < a0))) || (decide (a1 < 0))) with b3 | b3
    · refine SO.passF rfl rfl rfl b3 rfl rfl ?_
      refine SO.passF rfl rfl rfl b3 rfl rfl ?_
      refine SO.v rfl (opv_pick_t' b3 rfl rfl) ?_
      exact hk2.fitc (m := 3) rfl (or_t b3) rfl
    · refine SO.takeT rfl rfl rfl b3 ?_
      refine SO.v rfl (opv_move rfl) ?_
      refine SO.takeT rfl rfl rfl b3 ?_
      refine SO.v rfl (opv_gtr rfl rfl) ?_
      refine SO.v rfl (opv_pick_f' b3 rfl rfl) ?_
      exact hk2.fitc (m := 3) rfl (or_f b3) rfl
  refine SO.v rfl (opv_move rfl) ?_
  refine SO.cut 3 34 (.bool (((((decide (a0 < 0)) || (decide (65535 < a0))) || (decide (a1 < 0))) || (decide (16 < a1))) || (decide (a3 < 0)))) [F] (fun l2 hk2 => ?_) ?_
  · rcases bool_or ((((decide (a0 < 0)) || (decide (65535 < a0))) || (decide (a1 < 0))) || (decide (16 < a1))) with b4 | b4
    · refine SO.passF rfl rfl rfl b4 rfl rfl ?_
      refine SO.passF rfl rfl rfl b4 rfl rfl ?_
      refine SO.v rfl (opv_pick_t' b4 rfl rfl) ?_
      exact hk2.fitc (m := 3) rfl (or_t b4) rfl
    · refine SO.takeT rfl rfl rfl b4 ?_
      refine SO.v rfl (opv_move rfl) ?_
      refine SO.takeT rfl rfl rfl b4 ?_
      refine SO.v rfl (opv_lss rfl rfl) ?_
      refine SO.v rfl (opv_pick_f' b4 rfl rfl) ?_
      exact hk2.fitc (m := 3) rfl (or_f b4) rfl
  refine SO.v rfl (opv_move rfl) ?_
  refine SO.cut 3 38 (.bool ((((((decide (a0 < 0)) || (decide (65535 < a0))) || (decide (a1 < 0))) || (decide (16 < a1))) || (decide (a3 < 0))) || (decide (8 < a3)))) [F] (fun l2 hk2 => ?_) ?_
  · rcases bool_or (((((decide (a0 < 0)) || (decide (65535 < a0))) || (decide (a1 < 0))) || (decide (16 < a1))) || (decide (a3 < 0))) with b5 | b5
    · refine SO.passF rfl rfl rfl b5 rfl rfl ?_
      refine SO.passF rfl rfl rfl b5 rfl rfl ?_
      refine SO.v rfl (opv_pick_t' b5 rfl rfl) ?_
      exact hk2.fitc (m := 3) rfl (or_t b5) rfl
    · refine SO.takeT rfl rfl rfl b5 ?_
      refine SO.v rfl (opv_move rfl) ?_
      refine SO.takeT rfl rfl rfl b5 ?_
      refine SO.v rfl (opv_gtr rfl rfl) ?_
      refine SO.v rfl (opv_pick_f' b5 rfl rfl) ?_
      exact hk2.fitc (m := 3) rfl (or_f b5) rfl
  refine SO.v rfl (opv_move rfl) ?_
  refine SO.cut 3 42 (.bool (((((((decide (a0 < 0)) || (decide (65535 < a0))) || (decide (a1 < 0))) || (decide (16 < a1))) || (decide (a3 < 0))) || (decide (8 < a3))) || (decide (a4 < 0)))) [F] (fun l2 hk2 => ?_) ?_
  · rcases bool_or ((((((decide (a0 < 0)) || (decide (65535 < a0))) || (decide (a1 < 0))) || (decide (16 < a1))) || (decide (a3 < 0))) || (decide (8 < a3))) with b6 | b6
    · refine SO.passF rfl rfl rfl b6 rfl rfl ?_
      refine SO.passF rfl rfl rfl b6 rfl rfl ?_
      refine SO.v rfl (opv_pick_t' b6 rfl rfl) ?_
      exact hk2.fitc (m := 3) rfl (or_t b6) rfl
    · refine SO.takeT rfl rfl rfl b6 ?_
      refine SO.v rfl (opv_move rfl) ?_
      refine SO.takeT rfl rfl rfl b6 ?_
      refine SO.v rfl (opv_lss rfl rfl) ?_
      refine SO.v rfl (opv_pick_f' b6 rfl rfl) ?_
      exact hk2.fitc (m := 3) rfl (or_f b6) rfl
  refine SO.v rfl (opv_move rfl) ?_
  refine SO.cut 3 46 (.bool ((((((((decide (a0 < 0)) || (decide (65535 < a0))) || (decide (a1 < 0))) || (decide (16 < a1))) || (decide (a3 < 0))) || (decide (8 < a3))) || (decide (a4 < 0))) || (decide (5 < a4)))) [F] (fun l2 hk2 => ?_) ?_
  · rcases bool_or (((((((decide (a0 < 0)) || (decide (65535 < a0))) || (decide (a1 < 0))) || (decide (16 < a1))) || (decide (a3 < 0))) || (decide (8 < a3))) || (decide (a4 < 0))) with b7 | b7
    · refine SO.passF rfl rfl rfl b7 rfl rfl ?_
      refine SO.passF rfl rfl rfl b7 rfl rfl ?_
      refine SO.v rfl (opv_pick_t' b7 rfl rfl) ?_
      exact hk2.fitc (m := 3) rfl (or_t b7) rfl
    · refine SO.takeT rfl rfl rfl b7 ?_
      refine SO.v rfl (opv_move rfl) ?_
      refine SO.takeT rfl rfl rfl b7 ?_
      refine SO.v rfl (opv_gtr rfl rfl) ?_
      refine SO.v rfl (opv_pick_f' b7 rfl rfl) ?_
      exact hk2.fitc (m := 3) rfl (or_f b7) rfl
  refine SO.v rfl (opv_move rfl) ?_
  refine SO.cut 3 50 (.bool (((((((((decide (a0 < 0)) || (decide (65535 < a0))) || (decide (a1 < 0))) || (decide (16 < a1))) || (decide (a3 < 0))) || (decide (8 < a3))) || (decide (a4 < 0))) || (decide (5 < a4))) || (decide (a2 < 0)))) [F] (fun l2 hk2 => ?_) ?_
  · rcases bool_or ((((((((decide (a0 < 0)) || (decide (65535 < a0))) || (decide (a1 < 0))) || (decide (16 < a1))) || (decide (a3 < 0))) || (decide (8 < a3))) || (decide (a4 < 0))) || (decide (5 < a4))) with b8 | b8
    · refine SO.passF rfl rfl rfl b8 rfl rfl ?_
      refine SO.passF rfl rfl rfl b8 rfl rfl ?_
      refine SO.v rfl (opv_pick_t' b8 rfl rfl) ?_
      exact hk2.fitc (m := 3) rfl (or_t b8) rfl
    · refine SO.takeT rfl rfl rfl b8 ?_
      refine SO.v rfl (opv_move rfl) ?_
      refine SO.takeT rfl rfl rfl b8 ?_
      refine SO.v rfl (opv_lss rfl rfl) ?_
      refine SO.v rfl (opv_pick_f' b8 rfl rfl) ?_
      exact hk2.fitc (m := 3) rfl (or_f b8) rfl
  refine SO.nil ?_
  refine S.to (ρ' := [(0, .int .i64 a0), (1, .int .i64 a1), (2, .int .i64 a2), (3, .int .i64 a3), (4, .int .i64 a4), (10, .int .i64 0), (11, .int .i64 0), (12, .int .i64 0), (50, .bool (((((((((decide (a0 < 0)) || (decide (65535 < a0))) || (decide (a1 < 0))) || (decide (16 < a1))) || (decide (a3 < 0))) || (decide (8 < a3))) || (decide (a4 < 0))) || (decide (5 < a4))) || (decide (a2 < 0))))]) ⟨rfl, rfl, rfl, rfl, rfl, rfl, rfl, rfl, rfl, trivial⟩ ?_
  rcases bool_or (((((((((decide (a0 < 0)) || (decide (65535 < a0))) || (decide (a1 < 0))) || (decide (16 < a1))) || (decide (a3 < 0))) || (decide (8 < a3))) || (decide (a4 < 0))) || (decide (5 < a4))) || (decide (a2 < 0))) with b9 | b9
  · replace h := cond_t b9 h
    refine S.condT rfl b9 ?_
    refine S.seq ?_
    refine S.region ?_
    refine SO.v rfl (opv_assign rfl) ?_
    refine SO.v rfl (opv_assign rfl) ?_
    refine SO.v rfl (opv_assign rfl) ?_
    refine SO.nil ?_
    cases h
    exact S.ret3 Try.func40 rfl rfl rfl rfl (fun w hs hk => hR w _ _ ⟨rfl, rfl⟩ hs hk)
  · replace h := cond_f b9 h
    refine S.condF rfl b9 ?_
    refine S.skip ?_
    refine S.seq ?_
    refine S.seq ?_
    refine S.region ?_
    refine SO.v rfl (opv_move rfl) ?_
    refine SO.v rfl (opv_move rfl) ?_
    obtain ⟨t10, ht11, h⟩ := opt_bind h
    refine SO.call (pre := []) rfl Try.call67 rfl rfl rfl (ref01_two.ct _ _ _ ht11) trivial ?_
    rintro _ _ ⟨rfl, rfl⟩
    refine SO.v rfl (opv_geq rfl rfl) ?_
    refine SO.nil ?_
    rcases bool_or (decide (t10 ≤ a2)) with b12 | b12
    · replace h := cond_t b12 h
      refine S.condT rfl b12 ?_
      refine S.seq ?_
      refine S.region ?_
      refine SO.v rfl (opv_assign rfl) ?_
      refine SO.v rfl (opv_assign rfl) ?_
      refine SO.v rfl (opv_assign rfl) ?_
      refine SO.nil ?_
      cases h
      exact S.ret3 Try.func40 rfl rfl rfl rfl (fun w hs hk => hR w _ _ ⟨rfl, rfl⟩ hs hk)
    · replace h := cond_f b12 h
      refine S.condF rfl b12 ?_
      refine S.skip ?_
      refine S.seq ?_
      refine S.seq ?_
      refine S.region ?_
      refine SO.v rfl (opv_move rfl) ?_
      refine SO.v rfl (opv_move rfl) ?_
      refine SO.v rfl (opv_add rfl rfl) ?_
      refine SO.v rfl (opv_move rfl) ?_
      refine SO.v rfl (opv_gtr rfl rfl) ?_
      refine SO.nil ?_
      refine S.to (ρ' := [(0, .int .i64 a0), (1, .int .i64 a1), (2, .int .i64 a2), (3, .int .i64 a3), (4, .int .i64 a4), (10, .int .i64 0), (11, .int .i64 0), (12, .int .i64 0), (59, .bool (decide (a1 < (w64 (a3 + a4)))))]) ⟨rfl, rfl, rfl, rfl, rfl, rfl, rfl, rfl, rfl, trivial⟩ ?_
      rcases bool_or (decide (a1 < (w64 (a3 + a4)))) with b13 | b13
      · replace h := cond_t b13 h
        refine S.condT rfl b13 ?_
        refine S.seq ?_
        refine S.region ?_
        refine SO.v rfl (opv_assign rfl) ?_
        refine SO.v rfl (opv_assign rfl) ?_
        refine SO.v rfl (opv_assign rfl) ?_
        refine SO.nil ?_
        cases h
        exact S.ret3 Try.func40 rfl rfl rfl rfl (fun w hs hk => hR w _ _ ⟨rfl, rfl⟩ hs hk)
      · replace h := cond_f b13 h
        refine S.condF rfl b13 ?_
        refine S.skip ?_
        refine S.seq ?_
        refine S.region ?_
        refine SO.v rfl (opv_move rfl) ?_
        refine SO.v rfl (opv_move rfl) ?_
        refine SO.v rfl (opv_move rfl) ?_
        obtain ⟨⟨t14, t15⟩, ht16, h⟩ := opt_bind h
        refine SO.call (pre := []) rfl Try.call42 rfl rfl rfl (ref01_Top.ct _ _ _ _ _ _ ht16) trivial ?_
        rintro _ _ ⟨rfl, rfl⟩
        refine SO.v rfl (opv_move rfl) ?_
        refine SO.v rfl (opv_extract rfl rfl) ?_
        refine SO.v rfl (opv_extract rfl rfl) ?_
        refine SO.v rfl (opv_assign rfl) ?_
        refine SO.v rfl (opv_assign rfl) ?_
        refine SO.nil ?_
        refine S.to (ρ' := [(0, .int .i64 a0), (1, .int .i64 a1), (2, .int .i64 a2), (3, .int .i64 a3), (4, .int .i64 a4), (10, .int .i64 0), (11, .int .i64 0), (12, .int .i64 0), (13, .int .i64 t14)]) ⟨rfl, rfl, rfl, rfl, rfl, rfl, rfl, rfl, rfl, trivial⟩ ?_
        refine S.seq ?_
        refine S.seq ?_
        refine S.region ?_
        refine SO.v rfl (opv_move rfl) ?_
        refine SO.v rfl (opv_move rfl) ?_
        refine SO.v rfl (opv_neq rfl rfl) ?_
        refine SO.nil ?_
        rcases bool_or (t14 != a2) with b17 | b17
        · replace h := cond_t b17 h
          refine S.condT rfl b17 ?_
          refine S.seq ?_
          refine S.region ?_
          refine SO.v rfl (opv_assign rfl) ?_
          refine SO.v rfl (opv_assign rfl) ?_
          refine SO.v rfl (opv_assign rfl) ?_
          refine SO.nil ?_
          cases h
          exact S.ret3 Try.func40 rfl rfl rfl rfl (fun w hs hk => hR w _ _ ⟨rfl, rfl⟩ hs hk)
        · replace h := cond_f b17 h
          refine S.condF rfl b17 ?_
          refine S.skip ?_
          refine S.seq ?_
          refine S.region ?_
          refine SO.v rfl (opv_move rfl) ?_
          refine SO.v rfl (opv_move rfl) ?_
          refine SO.v rfl (opv_move rfl) ?_
          refine SO.v rfl (opv_sub rfl rfl) ?_
          refine SO.v rfl (opv_move rfl) ?_
          obtain ⟨⟨t18, t19⟩, ht20, h⟩ := opt_bind h
          refine SO.call (pre := []) rfl Try.call42 rfl rfl rfl (ref01_Top.ct _ _ _ _ _ _ ht20) trivial ?_
          rintro _ _ ⟨rfl, rfl⟩
          refine SO.v rfl (opv_move rfl) ?_
          refine SO.v rfl (opv_extract rfl rfl) ?_
          refine SO.v rfl (opv_extract rfl rfl) ?_
          refine SO.v rfl (opv_assign rfl) ?_
          refine SO.v rfl (opv_assign rfl) ?_
          refine SO.nil ?_
          refine S.to (ρ' := [(1, .int .i64 a1), (3, .int .i64 a3), (4, .int .i64 a4), (10, .int .i64 0), (11, .int .i64 0), (12, .int .i64 0), (15, .int .i64 t18)]) ⟨rfl, rfl, rfl, rfl, rfl, rfl, rfl, trivial⟩ ?_
          refine S.seq ?_
          refine S.region ?_
          refine SO.v rfl (opv_move rfl) ?_
          refine SO.v rfl (opv_move rfl) ?_
          refine SO.v rfl (opv_move rfl) ?_
          refine SO.v rfl (opv_sub rfl rfl) ?_
          refine SO.v rfl (opv_move rfl) ?_
          refine SO.v rfl (opv_sub rfl rfl) ?_
          refine SO.v rfl (opv_assign rfl) ?_
          refine SO.v rfl (opv_assign rfl) ?_
          refine SO.v rfl (opv_assign rfl) ?_
          refine SO.nil ?_
          refine S.to (ρ' := [(10, .int .i64 t18), (11, .int .i64 (w64 ((w64 (a1 - a3)) - a4))), (12, .int .i64 0)]) ⟨rfl, rfl, rfl, trivial⟩ ?_
          cases h
          exact S.ret3 Try.func40 rfl rfl rfl rfl (fun w hs hk => hR w _ _ ⟨rfl, rfl⟩ hs hk)
end Go.Proofs
namespace Go.Proofs
open Go.Sl Go.RowKit
/-! 69 padstone/pack.May$1 -/
def pack_May_1.f (a0 : Int) (a1 : Int) : Option (Bool) :=
  some ((decide (0 ≤ a0)) && (decide (a0 ≤ a1)))
set_option maxHeartbeats 8000000 in
set_option maxRecDepth 100000 in
theorem pack_May_1.ct (a0 : Int) (a1 : Int) (r0 : Bool) (h : pack_May_1.f a0 a1 = some r0) :
    Ct Try.prog 69 [.int .i64 a0, .int .i64 a1] (fun _ => True) [] (fun u H' => u = .bool r0 ∧ H' = []) := by
  unfold pack_May_1.f at h
  refine Ct.intro (n := 12) Try.func69 rfl rfl rfl ?_
  intro R w0 F hF hR
  refine S.seq ?_
  refine S.region ?_
  refine SO.v rfl (opv_assign rfl) ?_
  refine SO.nil ?_
  refine S.seq ?_
  refine S.region ?_
  refine SO.v rfl (opv_move rfl) ?_
  refine SO.v rfl (opv_geq rfl rfl) ?_
  refine SO.v rfl (opv_move rfl) ?_
  refine SO.cut 4 11 (.bool ((decide (0 ≤ a0)) && (decide (a0 ≤ a1)))) [F] (fun l2 hk2 => ?_) ?_
  · rcases bool_or (decide (0 ≤ a0)) with b1 | b1
    · refine SO.takeT rfl rfl rfl b1 ?_
      refine SO.v rfl (opv_move rfl) ?_
      refine SO.takeT rfl rfl rfl b1 ?_
      refine SO.v rfl (opv_move rfl) ?_
      refine SO.takeT rfl rfl rfl b1 ?_
      refine SO.v rfl (opv_leq rfl rfl) ?_
      refine SO.v rfl (opv_pick_t' b1 rfl rfl) ?_
      exact hk2.fitc (m := 4) rfl (and_t b1) rfl
    · refine SO.passF rfl rfl rfl b1 rfl rfl ?_
      refine SO.passF rfl rfl rfl b1 rfl rfl ?_
      refine SO.passF rfl rfl rfl b1 rfl rfl ?_
      refine SO.v rfl (opv_pick_f' b1 rfl rfl) ?_
      exact hk2.fitc (m := 4) rfl (and_f b1) rfl
  refine SO.v rfl (opv_assign rfl) ?_
  refine SO.nil ?_
  cases h
  exact S.ret1 Try.func69 rfl rfl (fun w hs hk => hR w _ _ ⟨rfl, rfl⟩ hs hk)
end Go.Proofs
namespace Go.Proofs
open Go.Sl Go.RowKit
/-! 33 padstone/pack.May -/
def pack_May.f (a0 : api_Cap) : Option (Bool) :=
  bif a0.Kind == 0 then (some (decide (a0 = (⟨0, 0, 0, 0, 0, 0⟩ : api_Cap)))) else ((pack_May_1.f a0.Kind 8).bind fun t4 => (bif !t4 then (some true) else ((pack_May_1.f a0.Rights 7).bind fun t9 => some (!t9))).bind fun c7 => (bif c7 then (some true) else ((pack_May_1.f a0.Obj 31).bind fun t14 => some (!t14))).bind fun c12 => (bif c12 then (some true) else ((pack_May_1.f a0.Badge 65535).bind fun t19 => some (!t19))).bind fun c17 => (bif c17 then (some true) else ((pack_May_1.f a0.Bits 8).bind fun t24 => some (!t24))).bind fun c22 => bif c22 then (some false) else (bif ((!((a0.Kind == 3) || (a0.Kind == 4))) && (a0.Badge != 0)) || ((a0.Kind != 2) && ((a0.Bits != 0) || (a0.Guard != 0))) then (some false) else ((chk (decide (0 ≤ a0.Bits))).bind fun _ => (pack_May_1.f a0.Guard (w64 ((bshl .i64 1 a0.Bits) - 1))).bind fun t33 => some t33)))
set_option maxHeartbeats 8000000 in
set_option maxRecDepth 100000 in
theorem pack_May.ct (a0 : api_Cap) (r0 : Bool) (h : pack_May.f a0 = some r0) :
    Ct Try.prog 33 [.agg #[.int .i64 a0.Kind, .int .i64 a0.Rights, .int .i64 a0.Obj, .int .i64 a0.Badge, .int .i64 a0.Guard, .int .i64 a0.Bits]] (fun _ => True) [] (fun u H' => u = .bool r0 ∧ H' = []) := by
  unfold pack_May.f at h
  refine Ct.intro (n := 85) Try.func33 rfl rfl rfl ?_
  intro R w0 F hF hR
  refine S.seq ?_
  refine S.region ?_
  refine SO.box rfl rfl rfl (fun b1 => ?_)
  refine SO.v rfl (opv_assign rfl) ?_
  refine SO.nil ?_
  refine S.seq ?_
  refine S.region ?_
  refine SO.v rfl (opv_assign rfl) ?_
  refine SO.nil ?_
  refine S.seq ?_
  refine S.region ?_
  refine SO.v rfl (opv_fieldAddr Try.underlying53 rfl Try.sizeOf3 rfl rfl) ?_
  refine SO.load1 rfl Try.isAgg3 rfl rfl ?_
  refine SO.v rfl (opv_eql rfl rfl) ?_
  refine SO.v rfl (opv_move rfl) ?_
  refine SO.cut 4 12 (.bool ((a0.Kind == 3) || (a0.Kind == 4))) [Box b1 [.int .i64 a0.Kind, .int .i64 a0.Rights, .int .i64 a0.Obj, .int .i64 a0.Badge, .int .i64 a0.Guard, .int .i64 a0.Bits], F] (fun l2 hk2 => ?_) ?_
  · rcases bool_or (a0.Kind == 3) with b2 | b2
    · refine SO.passF rfl rfl rfl b2 rfl rfl ?_
      refine SO.passF rfl rfl rfl b2 rfl rfl ?_
      refine SO.passF rfl rfl rfl b2 rfl rfl ?_
      refine SO.v rfl (opv_pick_t' b2 rfl rfl) ?_
      refine SO.b1 ?_
      refine SO.b1 ?_
      exact hk2.fitc (m := 4) rfl (or_t b2) rfl
    · refine SO.takeT rfl rfl rfl b2 ?_
      refine SO.v rfl (opv_fieldAddr Try.underlying53 rfl Try.sizeOf3 rfl rfl) ?_
      refine SO.takeT rfl rfl rfl b2 ?_
      refine SO.load1 rfl Try.isAgg3 rfl rfl ?_
      refine SO.takeT rfl rfl rfl b2 ?_
      refine SO.v rfl (opv_eql rfl rfl) ?_
      refine SO.v rfl (opv_pick_f' b2 rfl rfl) ?_
      refine SO.b1 ?_
      refine SO.b1 ?_
      exact hk2.fitc (m := 4) rfl (or_f b2) rfl
  refine SO.v rfl (opv_assign rfl) ?_
  refine SO.nil ?_
  refine S.seq ?_
  refine S.block ?_
  refine S.seq ?_
  refine S.region ?_
  refine SO.v rfl (opv_fieldAddr Try.underlying53 rfl Try.sizeOf3 rfl rfl) ?_
  refine SO.load1 rfl Try.isAgg3 rfl rfl ?_
  refine SO.v rfl (opv_eql rfl rfl) ?_
  refine SO.v rfl (opv_assign rfl) ?_
  refine SO.nil ?_
  refine S.to (ρ' := [(1, bp b1 0), (2, .bool false), (3, .func (.func 69) #[] #[]), (4, .bool ((a0.Kind == 3) || (a0.Kind == 4))), (13, .bool (a0.Kind == 0))]) ⟨rfl, rfl, rfl, rfl, rfl, trivial⟩ ?_
  rcases bool_or (a0.Kind == 0) with b3 | b3
  · replace h := cond_t b3 h
    refine S.condT rfl b3 ?_
    refine S.seq ?_
    refine S.region ?_
    refine SO.loadN rfl Try.isAgg53 Try.sizeOf53 rfl rfl rfl ?_
    refine SO.v rfl (opv_build (v := .agg #[.int .i64 0, .int .i64 0, .int .i64 0, .int .i64 0, .int .i64 0, .int .i64 0]) rfl (by intro w; kernel_rfl)) ?_
    refine SO.v rfl (eq_eql_api_Cap (x := a0) (y := (⟨0, 0, 0, 0, 0, 0⟩ : api_Cap)) rfl rfl) ?_
    refine SO.v rfl (opv_assign rfl) ?_
    refine SO.nil ?_
    cases h
    refine S.drop ?_
    exact S.ret1 Try.func33 rfl rfl (fun w hs hk => hR w _ _ ⟨rfl, rfl⟩ hs hk)
  · replace h := cond_f b3 h
    refine S.condF rfl b3 ?_
    refine S.seq ?_
    refine S.region ?_
    refine SO.v rfl (opv_move rfl) ?_
    refine SO.v rfl (opv_fieldAddr Try.underlying53 rfl Try.sizeOf3 rfl rfl) ?_
    refine SO.load1 rfl Try.isAgg3 rfl rfl ?_
    obtain ⟨t4, ht5, h⟩ := opt_bind h
    refine SO.call (pre := []) rfl Try.call69 rfl rfl rfl (pack_May_1.ct _ _ _ ht5) trivial ?_
    rintro _ _ ⟨rfl, rfl⟩
    refine SO.v rfl (opv_not rfl) ?_
    refine SO.v rfl (opv_move rfl) ?_
    obtain ⟨c7, hc8, hgk⟩ := opt_bind h
    refine SO.cut 6 32 (.bool c7) [Box b1 [.int .i64 a0.Kind, .int .i64 a0.Rights, .int .i64 a0.Obj, .int .i64 a0.Badge, .int .i64 a0.Guard, .int .i64 a0.Bits], F] (fun l2 hk2 => ?_) ?_
    · clear hgk
      replace h := hc8
      rcases bool_or (!t4) with b6 | b6
      · replace h := cond_t b6 h
        refine SO.passF rfl rfl rfl b6 rfl rfl ?_
        refine SO.passF rfl rfl rfl b6 rfl rfl ?_
        refine SO.passF rfl rfl rfl b6 rfl rfl ?_
        refine SO.passF rfl rfl rfl b6 rfl rfl ?_
        refine SO.passF rfl rfl rfl b6 rfl rfl ?_
        cases h
        refine SO.v rfl (opv_pick_t' b6 rfl rfl) ?_
        refine SO.b1 ?_
        refine SO.b1 ?_
        exact hk2.fitc (m := 6) rfl (rfl) rfl
      · replace h := cond_f b6 h
        refine SO.takeT rfl rfl rfl b6 ?_
        refine SO.v rfl (opv_move rfl) ?_
        refine SO.takeT rfl rfl rfl b6 ?_
        refine SO.v rfl (opv_fieldAddr Try.underlying53 rfl Try.sizeOf3 rfl rfl) ?_
        refine SO.takeT rfl rfl rfl b6 ?_
        refine SO.load1 rfl Try.isAgg3 rfl rfl ?_
        refine SO.takeT rfl rfl rfl b6 ?_
        obtain ⟨t9, ht10, h⟩ := opt_bind h
        refine SO.call (pre := []) rfl Try.call69 rfl rfl rfl (pack_May_1.ct _ _ _ ht10) trivial ?_
        rintro _ _ ⟨rfl, rfl⟩
        refine SO.takeT rfl rfl rfl b6 ?_
        refine SO.v rfl (opv_not rfl) ?_
        cases h
        refine SO.v rfl (opv_pick_f' b6 rfl rfl) ?_
        refine SO.b1 ?_
        refine SO.b1 ?_
        exact hk2.fitc (m := 6) rfl (rfl) rfl
    clear hc8
    replace h := hgk
    refine SO.v rfl (opv_move rfl) ?_
    obtain ⟨c12, hc13, hgk⟩ := opt_bind h
    refine SO.cut 6 39 (.bool c12) [Box b1 [.int .i64 a0.Kind, .int .i64 a0.Rights, .int .i64 a0.Obj, .int .i64 a0.Badge, .int .i64 a0.Guard, .int .i64 a0.Bits], F] (fun l2 hk2 => ?_) ?_
    · clear hgk
      replace h := hc13
      rcases bool_or c7 with b11 | b11
      · replace h := cond_t b11 h
        refine SO.passF rfl rfl rfl b11 rfl rfl ?_
        refine SO.passF rfl rfl rfl b11 rfl rfl ?_
        refine SO.passF rfl rfl rfl b11 rfl rfl ?_
        refine SO.passF rfl rfl rfl b11 rfl rfl ?_
        refine SO.passF rfl rfl rfl b11 rfl rfl ?_
        cases h
        refine SO.v rfl (opv_pick_t' b11 rfl rfl) ?_
        refine SO.b1 ?_
        refine SO.b1 ?_
        exact hk2.fitc (m := 6) rfl (rfl) rfl
      · replace h := cond_f b11 h
        refine SO.takeT rfl rfl rfl b11 ?_
        refine SO.v rfl (opv_move rfl) ?_
        refine SO.takeT rfl rfl rfl b11 ?_
        refine SO.v rfl (opv_fieldAddr Try.underlying53 rfl Try.sizeOf3 rfl rfl) ?_
        refine SO.takeT rfl rfl rfl b11 ?_
        refine SO.load1 rfl Try.isAgg3 rfl rfl ?_
        refine SO.takeT rfl rfl rfl b11 ?_
        obtain ⟨t14, ht15, h⟩ := opt_bind h
        refine SO.call (pre := []) rfl Try.call69 rfl rfl rfl (pack_May_1.ct _ _ _ ht15) trivial ?_
        rintro _ _ ⟨rfl, rfl⟩
        refine SO.takeT rfl rfl rfl b11 ?_
        refine SO.v rfl (opv_not rfl) ?_
        cases h
        refine SO.v rfl (opv_pick_f' b11 rfl rfl) ?_
        refine SO.b1 ?_
        refine SO.b1 ?_
        exact hk2.fitc (m := 6) rfl (rfl) rfl
    clear hc13
    replace h := hgk
    refine SO.v rfl (opv_move rfl) ?_
    obtain ⟨c17, hc18, hgk⟩ := opt_bind h
    refine SO.cut 6 46 (.bool c17) [Box b1 [.int .i64 a0.Kind, .int .i64 a0.Rights, .int .i64 a0.Obj, .int .i64 a0.Badge, .int .i64 a0.Guard, .int .i64 a0.Bits], F] (fun l2 hk2 => ?_) ?_
    · clear hgk
      replace h := hc18
      rcases bool_or c12 with b16 | b16
      · replace h := cond_t b16 h
        refine SO.passF rfl rfl rfl b16 rfl rfl ?_
        refine SO.passF rfl rfl rfl b16 rfl rfl ?_
        refine SO.passF rfl rfl rfl b16 rfl rfl ?_
        refine SO.passF rfl rfl rfl b16 rfl rfl ?_
        refine SO.passF rfl rfl rfl b16 rfl rfl ?_
        cases h
        refine SO.v rfl (opv_pick_t' b16 rfl rfl) ?_
        refine SO.b1 ?_
        refine SO.b1 ?_
        exact hk2.fitc (m := 6) rfl (rfl) rfl
      · replace h := cond_f b16 h
        refine SO.takeT rfl rfl rfl b16 ?_
        refine SO.v rfl (opv_move rfl) ?_
        refine SO.takeT rfl rfl rfl b16 ?_
        refine SO.v rfl (opv_fieldAddr Try.underlying53 rfl Try.sizeOf3 rfl rfl) ?_
        refine SO.takeT rfl rfl rfl b16 ?_
        refine SO.load1 rfl Try.isAgg3 rfl rfl ?_
        refine SO.takeT rfl rfl rfl b16 ?_
        obtain ⟨t19, ht20, h⟩ := opt_bind h
        refine SO.call (pre := []) rfl Try.call69 rfl rfl rfl (pack_May_1.ct _ _ _ ht20) trivial ?_
        rintro _ _ ⟨rfl, rfl⟩
        refine SO.takeT rfl rfl rfl b16 ?_
        refine SO.v rfl (opv_not rfl) ?_
        cases h
        refine SO.v rfl (opv_pick_f' b16 rfl rfl) ?_
        refine SO.b1 ?_
        refine SO.b1 ?_
        exact hk2.fitc (m := 6) rfl (rfl) rfl
    clear hc18
    replace h := hgk
    refine SO.v rfl (opv_move rfl) ?_
    obtain ⟨c22, hc23, hgk⟩ := opt_bind h
    refine SO.cut 6 53 (.bool c22) [Box b1 [.int .i64 a0.Kind, .int .i64 a0.Rights, .int .i64 a0.Obj, .int .i64 a0.Badge, .int .i64 a0.Guard, .int .i64 a0.Bits], F] (fun l2 hk2 => ?_) ?_
    · clear hgk
      replace h := hc23
      rcases bool_or c17 with b21 | b21
      · replace h := cond_t b21 h
        refine SO.passF rfl rfl rfl b21 rfl rfl ?_
        refine SO.passF rfl rfl rfl b21 rfl rfl ?_
        refine SO.passF rfl rfl rfl b21 rfl rfl ?_
        refine SO.passF rfl rfl rfl b21 rfl rfl ?_
        refine SO.passF rfl rfl rfl b21 rfl rfl ?_
        cases h
        refine SO.v rfl (opv_pick_t' b21 rfl rfl) ?_
        refine SO.b1 ?_
        refine SO.b1 ?_
        exact hk2.fitc (m := 6) rfl (rfl) rfl
      · replace h := cond_f b21 h
        refine SO.takeT rfl rfl rfl b21 ?_
        refine SO.v rfl (opv_move rfl) ?_
        refine SO.takeT rfl rfl rfl b21 ?_
        refine SO.v rfl (opv_fieldAddr Try.underlying53 rfl Try.sizeOf3 rfl rfl) ?_
        refine SO.takeT rfl rfl rfl b21 ?_
        refine SO.load1 rfl Try.isAgg3 rfl rfl ?_
        refine SO.takeT rfl rfl rfl b21 ?_
        obtain ⟨t24, ht25, h⟩ := opt_bind h
        refine SO.call (pre := []) rfl Try.call69 rfl rfl rfl (pack_May_1.ct _ _ _ ht25) trivial ?_
        rintro _ _ ⟨rfl, rfl⟩
        refine SO.takeT rfl rfl rfl b21 ?_
        refine SO.v rfl (opv_not rfl) ?_
        cases h
        refine SO.v rfl (opv_pick_f' b21 rfl rfl) ?_
        refine SO.b1 ?_
        refine SO.b1 ?_
        exact hk2.fitc (m := 6) rfl (rfl) rfl
    clear hc23
    replace h := hgk
    refine SO.v rfl (opv_assign rfl) ?_
    refine SO.nil ?_
    refine S.to (ρ' := [(1, bp b1 0), (2, .bool false), (3, .func (.func 69) #[] #[]), (4, .bool ((a0.Kind == 3) || (a0.Kind == 4))), (20, .bool c22)]) ⟨rfl, rfl, rfl, rfl, rfl, trivial⟩ ?_
    rcases bool_or c22 with b26 | b26
    · replace h := cond_t b26 h
      refine S.condT rfl b26 ?_
      refine S.seq ?_
      refine S.region ?_
      refine SO.v rfl (opv_assign rfl) ?_
      refine SO.nil ?_
      cases h
      refine S.drop ?_
      exact S.ret1 Try.func33 rfl rfl (fun w hs hk => hR w _ _ ⟨rfl, rfl⟩ hs hk)
    · replace h := cond_f b26 h
      refine S.condF rfl b26 ?_
      refine S.seq ?_
      refine S.region ?_
      refine SO.v rfl (opv_move rfl) ?_
      refine SO.v rfl (opv_not rfl) ?_
      refine SO.v rfl (opv_move rfl) ?_
      refine SO.cut 4 61 (.bool ((!((a0.Kind == 3) || (a0.Kind == 4))) && (a0.Badge != 0))) [Box b1 [.int .i64 a0.Kind, .int .i64 a0.Rights, .int .i64 a0.Obj, .int .i64 a0.Badge, .int .i64 a0.Guard, .int .i64 a0.Bits], F] (fun l2 hk2 => ?_) ?_
      · rcases bool_or (!((a0.Kind == 3) || (a0.Kind == 4))) with b27 | b27
        · refine SO.takeT rfl rfl rfl b27 ?_
          refine SO.v rfl (opv_fieldAddr Try.underlying53 rfl Try.sizeOf3 rfl rfl) ?_
          refine SO.takeT rfl rfl rfl b27 ?_
          refine SO.load1 rfl Try.isAgg3 rfl rfl ?_
          refine SO.takeT rfl rfl rfl b27 ?_
          refine SO.v rfl (opv_neq rfl rfl) ?_
          refine SO.v rfl (opv_pick_t' b27 rfl rfl) ?_
          refine SO.b1 ?_
          refine SO.b1 ?_
          exact hk2.fitc (m := 4) rfl (and_t b27) rfl
        · refine SO.passF rfl rfl rfl b27 rfl rfl ?_
          refine SO.passF rfl rfl rfl b27 rfl rfl ?_
          refine SO.passF rfl rfl rfl b27 rfl rfl ?_
          refine SO.v rfl (opv_pick_f' b27 rfl rfl) ?_
          refine SO.b1 ?_
          refine SO.b1 ?_
          exact hk2.fitc (m := 4) rfl (and_f b27) rfl
      refine SO.v rfl (opv_move rfl) ?_
      refine SO.cut 14 76 (.bool (((!((a0.Kind == 3) || (a0.Kind == 4))) && (a0.Badge != 0)) || ((a0.Kind != 2) && ((a0.Bits != 0) || (a0.Guard != 0))))) [Box b1 [.int .i64 a0.Kind, .int .i64 a0.Rights, .int .i64 a0.Obj, .int .i64 a0.Badge, .int .i64 a0.Guard, .int .i64 a0.Bits], F] (fun l2 hk2 => ?_) ?_
      · rcases bool_or ((!((a0.Kind == 3) || (a0.Kind == 4))) && (a0.Badge != 0)) with b28 | b28
        · refine SO.passF rfl rfl rfl b28 rfl rfl ?_
          refine SO.passF rfl rfl rfl b28 rfl rfl ?_
          refine SO.passF rfl rfl rfl b28 rfl rfl ?_
          refine SO.passF rfl rfl rfl b28 rfl rfl ?_
          refine SO.pass_undef rfl rfl rfl rfl ?_
          refine SO.pass_undef rfl rfl rfl rfl ?_
          refine SO.pass_undef rfl rfl rfl rfl ?_
          refine SO.pass_undef rfl rfl rfl rfl ?_
          refine SO.pass_undef rfl rfl rfl rfl ?_
          refine SO.pass_undef rfl rfl rfl rfl ?_
          refine SO.pass_undef rfl rfl rfl rfl ?_
          refine SO.pass_undef rfl rfl rfl rfl ?_
          refine SO.passF rfl rfl rfl b28 rfl rfl ?_
          refine SO.v rfl (opv_pick_t' b28 rfl rfl) ?_
          refine SO.b1 ?_
          refine SO.b1 ?_
          exact hk2.fitc (m := 14) rfl (or_t b28) rfl
        · refine SO.takeT rfl rfl rfl b28 ?_
          refine SO.v rfl (opv_fieldAddr Try.underlying53 rfl Try.sizeOf3 rfl rfl) ?_
          refine SO.takeT rfl rfl rfl b28 ?_
          refine SO.load1 rfl Try.isAgg3 rfl rfl ?_
          refine SO.takeT rfl rfl rfl b28 ?_
          refine SO.v rfl (opv_neq rfl rfl) ?_
          refine SO.takeT rfl rfl rfl b28 ?_
          refine SO.v rfl (opv_move rfl) ?_
          refine SO.cut 9 75 (.bool ((a0.Kind != 2) && ((a0.Bits != 0) || (a0.Guard != 0)))) [Box b1 [.int .i64 a0.Kind, .int .i64 a0.Rights, .int .i64 a0.Obj, .int .i64 a0.Badge, .int .i64 a0.Guard, .int .i64 a0.Bits], F] (fun l2 hk2 => ?_) ?_
          · rcases bool_or (a0.Kind != 2) with b29 | b29
            · refine SO.takeT rfl rfl rfl b29 ?_
              refine SO.v rfl (opv_fieldAddr Try.underlying53 rfl Try.sizeOf3 rfl rfl) ?_
              refine SO.takeT rfl rfl rfl b29 ?_
              refine SO.load1 rfl Try.isAgg3 rfl rfl ?_
              refine SO.takeT rfl rfl rfl b29 ?_
              refine SO.v rfl (opv_neq rfl rfl) ?_
              refine SO.takeT rfl rfl rfl b29 ?_
              refine SO.v rfl (opv_move rfl) ?_
              refine SO.cut 4 74 (.bool ((a0.Bits != 0) || (a0.Guard != 0))) [Box b1 [.int .i64 a0.Kind, .int .i64 a0.Rights, .int .i64 a0.Obj, .int .i64 a0.Badge, .int .i64 a0.Guard, .int .i64 a0.Bits], F] (fun l2 hk2 => ?_) ?_
              · rcases bool_or (a0.Bits != 0) with b30 | b30
                · refine SO.passF rfl rfl rfl b30 rfl rfl ?_
                  refine SO.passF rfl rfl rfl b30 rfl rfl ?_
                  refine SO.passF rfl rfl rfl b30 rfl rfl ?_
                  refine SO.takeT rfl rfl rfl b29 ?_
                  refine SO.v rfl (opv_pick_t' b30 rfl rfl) ?_
                  refine SO.b1 ?_
                  refine SO.b1 ?_
                  exact hk2.fitc (m := 4) rfl (or_t b30) rfl
                · refine SO.takeT rfl rfl rfl b30 ?_
                  refine SO.v rfl (opv_fieldAddr Try.underlying53 rfl Try.sizeOf3 rfl rfl) ?_
                  refine SO.takeT rfl rfl rfl b30 ?_
                  refine SO.load1 rfl Try.isAgg3 rfl rfl ?_
                  refine SO.takeT rfl rfl rfl b30 ?_
                  refine SO.v rfl (opv_neq rfl rfl) ?_
                  refine SO.takeT rfl rfl rfl b29 ?_
                  refine SO.v rfl (opv_pick_f' b30 rfl rfl) ?_
                  refine SO.b1 ?_
                  refine SO.b1 ?_
                  exact hk2.fitc (m := 4) rfl (or_f b30) rfl
              refine SO.takeT rfl rfl rfl b28 ?_
              refine SO.v rfl (opv_pick_t' b29 rfl rfl) ?_
              refine SO.b1 ?_
              refine SO.b1 ?_
              exact hk2.fitc (m := 6) rfl (and_t b29) rfl
            · refine SO.passF rfl rfl rfl b29 rfl rfl ?_
              refine SO.passF rfl rfl rfl b29 rfl rfl ?_
              refine SO.passF rfl rfl rfl b29 rfl rfl ?_
              refine SO.passF rfl rfl rfl b29 rfl rfl ?_
              refine SO.pass_undef rfl rfl rfl rfl ?_
              refine SO.pass_undef rfl rfl rfl rfl ?_
              refine SO.pass_undef rfl rfl rfl rfl ?_
              refine SO.passF rfl rfl rfl b29 rfl rfl ?_
              refine SO.takeT rfl rfl rfl b28 ?_
              refine SO.v rfl (opv_pick_f' b29 rfl rfl) ?_
              refine SO.b1 ?_
              refine SO.b1 ?_
              exact hk2.fitc (m := 9) rfl (and_f b29) rfl
          refine SO.v rfl (opv_pick_f' b28 rfl rfl) ?_
          refine SO.b1 ?_
          refine SO.b1 ?_
          exact hk2.fitc (m := 6) rfl (or_f b28) rfl
      refine SO.v rfl (opv_assign rfl) ?_
      refine SO.nil ?_
      refine S.to (ρ' := [(1, bp b1 0), (2, .bool false), (3, .func (.func 69) #[] #[]), (54, .bool (((!((a0.Kind == 3) || (a0.Kind == 4))) && (a0.Badge != 0)) || ((a0.Kind != 2) && ((a0.Bits != 0) || (a0.Guard != 0)))))]) ⟨rfl, rfl, rfl, rfl, trivial⟩ ?_
      rcases bool_or (((!((a0.Kind == 3) || (a0.Kind == 4))) && (a0.Badge != 0)) || ((a0.Kind != 2) && ((a0.Bits != 0) || (a0.Guard != 0)))) with b31 | b31
      · replace h := cond_t b31 h
        refine S.condT rfl b31 ?_
        refine S.seq ?_
        refine S.region ?_
        refine SO.v rfl (opv_assign rfl) ?_
        refine SO.nil ?_
        cases h
        refine S.drop ?_
        exact S.ret1 Try.func33 rfl rfl (fun w hs hk => hR w _ _ ⟨rfl, rfl⟩ hs hk)
      · replace h := cond_f b31 h
        refine S.condF rfl b31 ?_
        refine S.skip ?_
        refine S.inBlock ?_
        refine S.seq ?_
        obtain ⟨_, hc32, h⟩ := opt_bind h
        obtain ⟨t33, ht34, h⟩ := opt_bind h
        refine S.draw' (Z := fun Q => ∀ (_ : Unit) (_ : Unit) (_ : Unit), Q [(2, .bool t33)] [Box b1 [.int .i64 a0.Kind, .int .i64 a0.Rights, .int .i64 a0.Obj, .int .i64 a0.Badge, .int .i64 a0.Guard, .int .i64 a0.Bits], F]) (T := [tS 3 (.func (.func 69) #[] #[]), tS 1 (bp b1 0), tR (Box b1 [.int .i64 a0.Kind, .int .i64 a0.Rights, .int .i64 a0.Obj, .int .i64 a0.Badge, .int .i64 a0.Guard, .int .i64 a0.Bits]), tR (F), tS 77 (.func (.func 69) #[] #[]), tS 78 (bp b1 4), tS 79 (.int .i64 a0.Guard), tS 80 (bp b1 5), tS 81 (.int .i64 a0.Bits), tS 82 (.int .i64 (bshl .i64 1 a0.Bits)), tS 83 (.int .i64 (w64 ((bshl .i64 1 a0.Bits) - 1))), tS 84 (.bool t33), tS 2 (.bool t33)]) (D := [⟨[0], [], [4]⟩, ⟨[1], [], [5]⟩, ⟨[5, 2], [], [6]⟩, ⟨[1], [], [7]⟩, ⟨[7, 2], [], [8]⟩, ⟨[8], [], [9]⟩, ⟨[9], [], [10]⟩, ⟨[4, 6, 10], [], [11]⟩, ⟨[11], [], [12]⟩]) (ini := [0, 1, 2, 3]) (fin := [12, 2, 3]) (bf := [[], [], [1], [], [3], [3, 4], [3, 4, 5], [0, 1, 2, 3, 4, 5, 6], [0, 1, 2, 3, 4, 5, 6, 7]]) (by kernel_rfl) (by kernel_rfl) (fun x w h1 h2 => (.cons () (.cons () (.cons () (.cons () (.nil ⟨EnvAll.of h1 ⟨rfl, rfl, trivial⟩, h2⟩)))))) (fun Q => by kernel_rfl) ⟨?_, ?_, ?_, ?_, ?_, ?_, ?_, ?_, ?_, trivial⟩ ?_
        · rintro Fr _
          refine SO.v rfl (opv_move rfl) ?_
          exact SO.nilZ fun a w h1 h2 h3 h4 h5 => PZ.of h1 h3 h5 (.cons () (.cons () (.nil ⟨EnvAll.of h2 ⟨rfl, rfl, trivial⟩, h4⟩)))
        · rintro Fr _
          refine SO.v rfl (opv_fieldAddr Try.underlying53 rfl Try.sizeOf3 rfl rfl) ?_
          exact SO.nilZ fun a w h1 h2 h3 h4 h5 => PZ.of h1 h3 h5 (.cons () (.cons () (.nil ⟨EnvAll.of h2 ⟨rfl, rfl, trivial⟩, h4⟩)))
        · rintro Fr _ _
          refine SO.load1 rfl Try.isAgg3 rfl rfl ?_
          exact SO.nilZ fun a w h1 h2 h3 h4 h5 => PZ.of h1 h3 h5 (.cons () (.cons () (.cons () (.nil ⟨EnvAll.of h2 ⟨rfl, rfl, trivial⟩, h4⟩))))
        · rintro Fr _
          refine SO.v rfl (opv_fieldAddr Try.underlying53 rfl Try.sizeOf3 rfl rfl) ?_
          exact SO.nilZ fun a w h1 h2 h3 h4 h5 => PZ.of h1 h3 h5 (.cons () (.cons () (.nil ⟨EnvAll.of h2 ⟨rfl, rfl, trivial⟩, h4⟩)))
        · rintro Fr _ _
          refine SO.load1 rfl Try.isAgg3 rfl rfl ?_
          exact SO.nilZ fun a w h1 h2 h3 h4 h5 => PZ.of h1 h3 h5 (.cons () (.cons () (.cons () (.nil ⟨EnvAll.of h2 ⟨rfl, rfl, trivial⟩, h4⟩))))
        · rintro Fr _
          refine SO.v rfl (opv_shl rfl rfl (of_decide_eq_true (chk_some hc32))) ?_
          exact SO.nilZ fun a w h1 h2 h3 h4 h5 => PZ.of h1 h3 h5 (.cons () (.cons () (.nil ⟨EnvAll.of h2 ⟨rfl, rfl, trivial⟩, h4⟩)))
        · rintro Fr _
          refine SO.v rfl (opv_sub rfl rfl) ?_
          exact SO.nilZ fun a w h1 h2 h3 h4 h5 => PZ.of h1 h3 h5 (.cons () (.cons () (.nil ⟨EnvAll.of h2 ⟨rfl, rfl, trivial⟩, h4⟩)))
        · rintro Fr _ _ _
          refine SO.call (pre := []) rfl Try.call69 rfl rfl rfl (pack_May_1.ct _ _ _ ht34) trivial ?_
          rintro _ _ ⟨rfl, rfl⟩
          exact SO.nilZ fun a w h1 h2 h3 h4 h5 => PZ.of h1 h3 h5 (.cons () (.cons () (.cons () (.cons () (.nil ⟨EnvAll.of h2 ⟨rfl, rfl, rfl, rfl, trivial⟩, h4⟩)))))
        · rintro Fr _
          refine SO.v rfl (opv_assign rfl) ?_
          exact SO.nilZ fun a w h1 h2 h3 h4 h5 => PZ.of h1 h3 h5 (.cons () (.cons () (.nil ⟨EnvAll.of h2 ⟨rfl, rfl, trivial⟩, h4⟩)))
        rintro _ _ _
        refine S.to (ρ' := [(2, .bool t33)]) ⟨rfl, trivial⟩ ?_
        cases h
        refine S.drop ?_
        exact S.ret1 Try.func33 rfl rfl (fun w hs hk => hR w _ _ ⟨rfl, rfl⟩ hs hk)
end Go.Proofs
namespace Go.Proofs
open Go.Sl Go.RowKit
/-! 68 padstone/pack.widths -/
def pack_widths.f : Option ((List Int)) :=
  some ([4, 3, 5, 16, 4, 8])
set_option maxHeartbeats 8000000 in
set_option maxRecDepth 100000 in
theorem pack_widths.ct (r0 : List Int) (h : pack_widths.f  = some r0) :
    Ct Try.prog 68 [] (fun _ => True) [] (fun u H' => ∃ v_r0, u = v_r0 ∧ H' = [Own 3 (ekI .i64) v_r0 r0]) := by
  unfold pack_widths.f at h
  refine Ct.intro (n := 2) Try.func68 rfl rfl rfl ?_
  intro R w0 F hF hR
  refine S.seq ?_
  refine S.region ?_
  refine SO.v rfl (opv_assign rfl) ?_
  refine SO.nil ?_
  refine S.seq ?_
  refine S.region ?_
  refine SO.buildSlice (K := ekI .i64) (xs := [4, 3, 5, 16, 4, 8]) (cs := [.int .i64 4, .int .i64 3, .int .i64 5, .int .i64 16, .int .i64 4, .int .i64 8]) rfl Try.underlying73 Try.sizeOf3 Try.zeroValue3 rfl rfl rfl (by kernel_rfl) rfl rfl rfl (fun v1 hr2 => ?_)
  refine SO.v rfl (opv_assign rfl) ?_
  refine SO.nil ?_
  cases h
  refine S.b1 ?_
  refine S.b1 ?_
  exact S.ret1 Try.func68 rfl rfl (fun w hs hk => hR w _ _ ⟨v1, rfl, rfl⟩ hs hk)
end Go.Proofs
namespace Go.Proofs
open Go.Sl Go.RowKit
/-! 32 padstone/pack.Put -/
def pack_Put.l1 (a0 : api_Cap) (t7 : List Int) : Nat → (Int × Int × Int) → Option (Int)
  | 0, _ => none
  | k + 1, (x28_1, x4_1, x5_1) => bif decide (x28_1 < (t7.length : Int)) then ((at_ t7 x28_1).bind fun x12 => (at_ ([a0.Kind, a0.Rights, a0.Obj, a0.Badge, a0.Bits, a0.Guard]) x28_1).bind fun x14 => (chk (decide (0 ≤ x5_1))).bind fun _ => pack_Put.l1 a0 t7 k (w64 (x28_1 + 1), bor .u64 x4_1 (bshl .u64 (wu64 x14) x5_1), w64 (x5_1 + x12))) else (some x4_1)
def pack_Put.f (k : Nat) (a0 : api_Cap) : Option (Int × (Option Int)) :=
  (pack_May.f a0).bind fun t2 => bif !t2 then (some (0, (some 1))) else ((pack_widths.f ).bind fun t7 => (pack_Put.l1 a0 t7 k (0, 0, 0)).bind fun j4_e1 => some (j4_e1, none))
set_option maxHeartbeats 8000000 in
set_option maxRecDepth 100000 in
theorem pack_Put.ct (k : Nat) (a0 : api_Cap) (r0 : Int) (r1 : Option Int) (h : pack_Put.f k a0 = some (r0, r1)) :
    Ct Try.prog 32 [.agg #[.int .i64 a0.Kind, .int .i64 a0.Rights, .int .i64 a0.Obj, .int .i64 a0.Badge, .int .i64 a0.Guard, .int .i64 a0.Bits]] (fun _ => True) [] (fun u H' => u = .tuple #[.int .u64 r0, errV 48 r1] ∧ H' = []) := by
  unfold pack_Put.f at h
  refine Ct.intro (n := 47) Try.func32 rfl rfl rfl ?_
  intro R w0 F hF hR
  refine S.seq ?_
  refine S.region ?_
  refine SO.box rfl rfl rfl (fun b1 => ?_)
  refine SO.v rfl (opv_assign rfl) ?_
  refine SO.v rfl (opv_assign rfl) ?_
  refine SO.nil ?_
  refine S.seq ?_
  refine S.seq ?_
  refine S.region ?_
  refine SO.loadN rfl Try.isAgg53 Try.sizeOf53 rfl rfl rfl ?_
  obtain ⟨t2, ht3, h⟩ := opt_bind h
  refine SO.call (pre := []) rfl Try.call33 rfl rfl rfl (pack_May.ct _ _ ht3) trivial ?_
  rintro _ _ ⟨rfl, rfl⟩
  refine SO.v rfl (opv_not rfl) ?_
  refine SO.nil ?_
  rcases bool_or (!t2) with b4 | b4
  · replace h := cond_t b4 h
    refine S.condT rfl b4 ?_
    refine S.seq ?_
    refine S.region ?_
    refine SO.v rfl (opv_iface Try.underlying48 rfl rfl) ?_
    refine SO.v rfl (opv_assign rfl) ?_
    refine SO.v rfl (opv_assign rfl) ?_
    refine SO.nil ?_
    cases h
    refine S.drop ?_
    exact S.ret2 Try.func32 rfl rfl rfl (fun w hs hk => hR w _ _ ⟨rfl, rfl⟩ hs hk)
  · replace h := cond_f b4 h
    refine S.condF rfl b4 ?_
    refine S.skip ?_
    refine S.seq ?_
    refine S.region ?_
    refine SO.v rfl (opv_assign rfl) ?_
    refine SO.nil ?_
    refine S.seq ?_
    refine S.region ?_
    refine SO.v rfl (opv_assign rfl) ?_
    refine SO.nil ?_
    refine S.seq ?_
    refine S.region ?_
    refine SO.v rfl (opv_fieldAddr Try.underlying53 rfl Try.sizeOf3 rfl rfl) ?_
    refine SO.load1 rfl Try.isAgg3 rfl rfl ?_
    refine SO.v rfl (opv_fieldAddr Try.underlying53 rfl Try.sizeOf3 rfl rfl) ?_
    refine SO.load1 rfl Try.isAgg3 rfl rfl ?_
    refine SO.v rfl (opv_fieldAddr Try.underlying53 rfl Try.sizeOf3 rfl rfl) ?_
    refine SO.load1 rfl Try.isAgg3 rfl rfl ?_
    refine SO.v rfl (opv_fieldAddr Try.underlying53 rfl Try.sizeOf3 rfl rfl) ?_
    refine SO.load1 rfl Try.isAgg3 rfl rfl ?_
    refine SO.v rfl (opv_fieldAddr Try.underlying53 rfl Try.sizeOf3 rfl rfl) ?_
    refine SO.load1 rfl Try.isAgg3 rfl rfl ?_
    refine SO.v rfl (opv_fieldAddr Try.underlying53 rfl Try.sizeOf3 rfl rfl) ?_
    refine SO.load1 rfl Try.isAgg3 rfl rfl ?_
    refine SO.buildSlice (K := ekI .i64) (xs := [a0.Kind, a0.Rights, a0.Obj, a0.Badge, a0.Bits, a0.Guard]) (cs := [.int .i64 a0.Kind, .int .i64 a0.Rights, .int .i64 a0.Obj, .int .i64 a0.Badge, .int .i64 a0.Bits, .int .i64 a0.Guard]) rfl Try.underlying73 Try.sizeOf3 Try.zeroValue3 rfl rfl rfl (by kernel_rfl) rfl rfl rfl (fun v5 hr6 => ?_)
    refine SO.v rfl (opv_assign rfl) ?_
    refine SO.nil ?_
    refine S.to (ρ' := [(2, .int .u64 0), (3, errV 48 none), (4, .int .u64 0), (5, .int .i64 0), (6, v5)]) ⟨rfl, rfl, rfl, rfl, rfl, trivial⟩ ?_
    refine S.seq ?_
    refine S.seq ?_
    refine S.region ?_
    obtain ⟨t7, ht8, h⟩ := opt_bind h
    refine SO.call (pre := []) rfl Try.call68 rfl rfl rfl (pack_widths.ct _ ht8) trivial ?_
    rintro v9 _ ⟨_, rfl, rfl⟩
    refine SO.rd fun hr10 => ?_
    refine SO.v rfl (opv_lenR rfl Try.underlying73 hr10 rfl) ?_
    refine SO.v rfl (opv_move rfl) ?_
    refine SO.nil ?_
    obtain ⟨j4_e1, hl1, h⟩ := opt_bind h
    refine S.b3 ?_
    refine S.b3 ?_
    refine S.b3 ?_
    refine S.b3 ?_
    refine S.to (ρ' := [(28, .int .i64 0), (27, .int .i64 (t7.length : Int)), (26, v9), (2, .int .u64 0), (3, errV 48 none), (4, .int .u64 0), (5, .int .i64 0), (6, v5)]) ⟨rfl, rfl, rfl, rfl, rfl, rfl, rfl, rfl, trivial⟩ ?_
    refine S.forloop (X := (Int × Int × Int) × Unit) (O := Int) (fun m x => pack_Put.l1 a0 t7 m x.1) (fun x => match x with | ((x28_1, x4_1, x5_1), _) => [(28, .int .i64 x28_1), (27, .int .i64 (t7.length : Int)), (26, v9), (2, .int .u64 0), (3, errV 48 none), (4, .int .u64 x4_1), (5, .int .i64 x5_1), (6, v5)]) (fun x => match x with | ((x28_1, x4_1, x5_1), _) => [Own 3 (ekI .i64) v9 t7, Own 3 (ekI .i64) v5 ([a0.Kind, a0.Rights, a0.Obj, a0.Badge, a0.Bits, a0.Guard]), Box b1 [.int .i64 a0.Kind, .int .i64 a0.Rights, .int .i64 a0.Obj, .int .i64 a0.Badge, .int .i64 a0.Guard, .int .i64 a0.Bits], F]) (fun Sk => (fun j4_e1 => ∀ _ : Unit, Sk [(2, .int .u64 0), (3, errV 48 none), (4, .int .u64 j4_e1)] [Own 3 (ekI .i64) v9 t7, Own 3 (ekI .i64) v5 ([a0.Kind, a0.Rights, a0.Obj, a0.Badge, a0.Bits, a0.Guard]), Box b1 [.int .i64 a0.Kind, .int .i64 a0.Rights, .int .i64 a0.Obj, .int .i64 a0.Badge, .int .i64 a0.Guard, .int .i64 a0.Bits], F])) (fun _ => rfl) ?_ (m := k) (x := ((0, 0, 0), ())) hl1 ?_
    · clear h hl1
      intro k x o_1 h hK1 ih1
      obtain ⟨⟨x28_1, x4_1, x5_1⟩, _⟩ := x
      replace h : pack_Put.l1 a0 t7 (k + 1) (x28_1, x4_1, x5_1) = some o_1 := h
      rw [pack_Put.l1] at h
      refine S.seq ?_
      refine S.region ?_
      refine SO.v rfl (opv_lss rfl rfl) ?_
      refine SO.nil ?_
      refine S.seq ?_
      rcases bool_or (decide (x28_1 < (t7.length : Int))) with b11 | b11
      · replace h := cond_t b11 h
        refine S.condT rfl b11 ?_
        refine S.skip ?_
        refine S.seq ?_
        refine S.block ?_
        refine S.seq ?_
        refine S.region ?_
        refine SO.v rfl (opv_move rfl) ?_
        obtain ⟨x12, hx13, h⟩ := opt_bind h
        refine SO.v rfl (opv_idx Try.underlying73 Try.sizeOf3 hr10 rfl rfl hx13) ?_
        refine SO.loadI1 (j := 0) rfl Try.isAgg3 (Rd.head hr10) hx13 rfl rfl rfl rfl ?_
        refine SO.v rfl (opv_assign rfl) ?_
        refine SO.v rfl (opv_assign rfl) ?_
        refine SO.nil ?_
        refine S.seq ?_
        refine S.region ?_
        refine SO.v rfl (opv_move rfl) ?_
        refine SO.v rfl (opv_move rfl) ?_
        refine SO.v rfl (opv_move rfl) ?_
        obtain ⟨x14, hx15, h⟩ := opt_bind h
        refine SO.v rfl (opv_idx Try.underlying73 Try.sizeOf3 hr6 rfl rfl hx15) ?_
        refine SO.loadI1 (j := 0) rfl Try.isAgg3 (Rd.tail (Rd.head hr6)) hx15 rfl rfl rfl rfl ?_
        refine SO.v rfl (opv_conv Try.underlying3 Try.underlying27 rfl) ?_
        refine SO.v rfl (opv_move rfl) ?_
        obtain ⟨_, hc16, h⟩ := opt_bind h
        refine SO.v rfl (opv_shl rfl rfl (of_decide_eq_true (chk_some hc16))) ?_
        refine SO.v rfl (opv_or rfl rfl) ?_
        refine SO.v rfl (opv_assign rfl) ?_
        refine SO.nil ?_
        refine S.region ?_
        refine SO.v rfl (opv_move rfl) ?_
        refine SO.v rfl (opv_move rfl) ?_
        refine SO.v rfl (opv_add rfl rfl) ?_
        refine SO.v rfl (opv_assign rfl) ?_
        refine SO.nil ?_
        refine S.inBlock ?_
        refine S.region ?_
        refine SO.v rfl (opv_add rfl rfl) ?_
        refine SO.v rfl (opv_move rfl) ?_
        refine SO.nil ?_
        refine S.b3 ?_
        refine S.b3 ?_
        refine S.b3 ?_
        refine S.b3 ?_
        refine S.to ?_ (ih1 ((w64 (x28_1 + 1), bor .u64 x4_1 (bshl .u64 (wu64 x14) x5_1), w64 (x5_1 + x12)), ()) h)
        exact ⟨rfl, rfl, rfl, rfl, rfl, rfl, rfl, rfl, trivial⟩
      · replace h := cond_f b11 h
        refine S.condF rfl b11 ?_
        refine S.exit rfl ?_
        cases h
        refine S.b3 ?_
        refine S.b3 ?_
        refine S.b3 ?_
        refine S.b3 ?_
        refine S.to ?_ (hK1 ())
        exact ⟨rfl, rfl, rfl, trivial⟩
    rintro _
    refine S.seq ?_
    refine S.region ?_
    refine SO.v rfl (opv_move rfl) ?_
    refine SO.v rfl (opv_assign rfl) ?_
    refine SO.v rfl (opv_assign rfl) ?_
    refine SO.nil ?_
    cases h
    refine S.drop ?_
    refine S.drop ?_
    refine S.drop ?_
    exact S.ret2 Try.func32 rfl rfl rfl (fun w hs hk => hR w _ _ ⟨rfl, rfl⟩ hs hk)
end Go.Proofs
namespace Go.Proofs
open Go.Sl Go.RowKit
/-! 35 padstone/pack.Get -/
def pack_Get.l1 (t2 : List Int) : Nat → (Int × Int × (List Int)) → Option (((List Int) × Int))
  | 0, _ => none
  | k + 1, (x12_1, x5_1, x4_1) => bif decide (x12_1 < (t2.length : Int)) then ((at_ t2 x12_1).bind fun x8 => (chk (decide (0 ≤ x8))).bind fun _ => (app x4_1 ([w64 (band .u64 x5_1 (wu64 ((bshl .u64 1 x8) - 1)))])).bind fun zs13 => (chk (decide (0 ≤ x8))).bind fun _ => pack_Get.l1 t2 k (w64 (x12_1 + 1), bshr .u64 x5_1 x8, zs13)) else (some (x4_1, x5_1))
def pack_Get.f (k : Nat) (a0 : Int) : Option (api_Cap × (Option Int)) :=
  (pack_widths.f ).bind fun t2 => (pack_Get.l1 t2 k (0, a0, [])).bind fun (j4_e1, j5_e1) => (at_ j4_e1 0).bind fun x19 => (at_ j4_e1 1).bind fun x21 => (at_ j4_e1 2).bind fun x23 => (at_ j4_e1 3).bind fun x25 => (at_ j4_e1 4).bind fun x27 => (at_ j4_e1 5).bind fun x29 => (bif j5_e1 != 0 then (some true) else ((pack_May.f (⟨x19, x21, x23, x25, x29, x27⟩ : api_Cap)).bind fun t35 => some (!t35))).bind fun c33 => bif c33 then (some ((⟨0, 0, 0, 0, 0, 0⟩ : api_Cap), (some 1))) else (some ((⟨x19, x21, x23, x25, x29, x27⟩ : api_Cap), none))
set_option maxHeartbeats 8000000 in
set_option maxRecDepth 100000 in
theorem pack_Get.ct (k : Nat) (a0 : Int) (r0 : api_Cap) (r1 : Option Int) (h : pack_Get.f k a0 = some (r0, r1)) :
    Ct Try.prog 35 [.int .u64 a0] (fun _ => True) [] (fun u H' => u = .tuple #[.agg #[.int .i64 r0.Kind, .int .i64 r0.Rights, .int .i64 r0.Obj, .int .i64 r0.Badge, .int .i64 r0.Guard, .int .i64 r0.Bits], errV 48 r1] ∧ H' = []) := by
  unfold pack_Get.f at h
  refine Ct.intro (n := 58) Try.func35 rfl rfl rfl ?_
  intro R w0 F hF hR
  refine S.seq ?_
  refine S.region ?_
  refine SO.alloc rfl Try.zeroValue53 rfl (fun b1 => ?_)
  refine SO.v rfl (opv_assign rfl) ?_
  refine SO.nil ?_
  refine S.seq ?_
  refine S.region ?_
  refine SO.v rfl (opv_assign rfl) ?_
  refine SO.nil ?_
  refine S.seq ?_
  refine S.region ?_
  refine SO.v rfl (opv_move rfl) ?_
  refine SO.v rfl (opv_assign rfl) ?_
  refine SO.nil ?_
  refine S.seq ?_
  refine S.seq ?_
  refine S.region ?_
  obtain ⟨t2, ht3, h⟩ := opt_bind h
  refine SO.call (pre := []) rfl Try.call68 rfl rfl rfl (pack_widths.ct _ ht3) trivial ?_
  rintro v4 _ ⟨_, rfl, rfl⟩
  refine SO.rd fun hr5 => ?_
  refine SO.v rfl (opv_lenR rfl Try.underlying73 hr5 rfl) ?_
  refine SO.v rfl (opv_move rfl) ?_
  refine SO.nil ?_
  obtain ⟨⟨j4_e1, j5_e1⟩, hl1, h⟩ := opt_bind h
  refine S.newOwn 3 (ekI .i64) ?_
  refine S.b3 ?_
  refine S.b3 ?_
  refine S.b3 ?_
  refine S.b3 ?_
  refine S.to (ρ' := [(12, .int .i64 0), (11, .int .i64 (t2.length : Int)), (10, v4), (5, .int .u64 a0), (4, .slice none 0 0), (3, errV 48 none), (2, bp b1 0)]) ⟨rfl, rfl, rfl, rfl, rfl, rfl, rfl, trivial⟩ ?_
  refine S.forloop (X := (Int × Int × (List Int)) × Value) (O := ((List Int) × Int)) (fun m x => pack_Get.l1 t2 m x.1) (fun x => match x with | ((x12_1, x5_1, x4_1), v4_1) => [(12, .int .i64 x12_1), (11, .int .i64 (t2.length : Int)), (10, v4), (5, .int .u64 x5_1), (4, v4_1), (3, errV 48 none), (2, bp b1 0)]) (fun x => match x with | ((x12_1, x5_1, x4_1), v4_1) => [Own 3 (ekI .i64) v4_1 x4_1, Own 3 (ekI .i64) v4 t2, Box b1 [.int .i64 0, .int .i64 0, .int .i64 0, .int .i64 0, .int .i64 0, .int .i64 0], F]) (fun Sk => (fun x => match x with | (j4_e1, j5_e1) => ∀ v4_e1 : Value, Sk [(2, bp b1 0), (3, errV 48 none), (4, v4_e1), (5, .int .u64 j5_e1)] [Own 3 (ekI .i64) v4_e1 j4_e1, Own 3 (ekI .i64) v4 t2, Box b1 [.int .i64 0, .int .i64 0, .int .i64 0, .int .i64 0, .int .i64 0, .int .i64 0], F])) (fun _ => rfl) ?_ (m := k) (x := ((0, a0, []), .slice none 0 0)) hl1 ?_
  · clear h hl1
    intro k x o_1 h hK1 ih1
    obtain ⟨⟨x12_1, x5_1, x4_1⟩, v4_1⟩ := x
    replace h : pack_Get.l1 t2 (k + 1) (x12_1, x5_1, x4_1) = some o_1 := h
    rw [pack_Get.l1] at h
    refine S.rd fun hr6 => ?_
    refine S.seq ?_
    refine S.region ?_
    refine SO.v rfl (opv_lss rfl rfl) ?_
    refine SO.nil ?_
    refine S.seq ?_
    rcases bool_or (decide (x12_1 < (t2.length : Int))) with b7 | b7
    · replace h := cond_t b7 h
      refine S.condT rfl b7 ?_
      refine S.skip ?_
      refine S.seq ?_
      refine S.block ?_
      refine S.seq ?_
      refine S.region ?_
      obtain ⟨x8, hx9, h⟩ := opt_bind h
      refine SO.v rfl (opv_idx Try.underlying73 Try.sizeOf3 hr5 rfl rfl hx9) ?_
      refine SO.loadI1 (j := 0) rfl Try.isAgg3 (Rd.tail (Rd.head hr5)) hx9 rfl rfl rfl rfl ?_
      refine SO.v rfl (opv_assign rfl) ?_
      refine SO.nil ?_
      refine S.seq ?_
      refine S.region ?_
      refine SO.v rfl (opv_move rfl) ?_
      refine SO.v rfl (opv_move rfl) ?_
      refine SO.v rfl (opv_move rfl) ?_
      obtain ⟨_, hc10, h⟩ := opt_bind h
      refine SO.v rfl (opv_shl rfl rfl (of_decide_eq_true (chk_some hc10))) ?_
      refine SO.v rfl (opv_sub rfl rfl) ?_
      refine SO.v rfl (opv_and rfl rfl) ?_
      refine SO.v rfl (opv_conv Try.underlying27 Try.underlying3 rfl) ?_
      refine SO.buildSlice (K := ekI .i64) (xs := [w64 (band .u64 x5_1 (wu64 ((bshl .u64 1 x8) - 1)))]) (cs := [.int .i64 (w64 (band .u64 x5_1 (wu64 ((bshl .u64 1 x8) - 1))))]) rfl Try.underlying73 Try.sizeOf3 Try.zeroValue3 rfl rfl rfl (by kernel_rfl) rfl rfl rfl (fun v11 hr12 => ?_)
      obtain ⟨zs13, hz14, h⟩ := opt_bind h
      refine SO.b1 ?_
      refine SO.append rfl Try.underlying73 inf3 rfl rfl rfl (by decide) rfl rfl rfl (Rd.head hr12) hz14 (fun v15 => ?_)
      refine SO.rd fun hr16 => ?_
      refine SO.v rfl (opv_assign rfl) ?_
      refine SO.nil ?_
      refine S.region ?_
      refine SO.v rfl (opv_move rfl) ?_
      refine SO.v rfl (opv_move rfl) ?_
      obtain ⟨_, hc17, h⟩ := opt_bind h
      refine SO.v rfl (opv_shr rfl rfl (of_decide_eq_true (chk_some hc17))) ?_
      refine SO.v rfl (opv_assign rfl) ?_
      refine SO.nil ?_
      refine S.inBlock ?_
      refine S.region ?_
      refine SO.v rfl (opv_add rfl rfl) ?_
      refine SO.v rfl (opv_move rfl) ?_
      refine SO.nil ?_
      refine S.b1 ?_
      refine S.drop ?_
      refine S.b3 ?_
      refine S.b3 ?_
      refine S.b3 ?_
      refine S.b3 ?_
      refine S.to ?_ (ih1 ((w64 (x12_1 + 1), bshr .u64 x5_1 x8, zs13), v15) h)
      exact ⟨rfl, rfl, rfl, rfl, rfl, rfl, rfl, trivial⟩
    · replace h := cond_f b7 h
      refine S.condF rfl b7 ?_
      refine S.exit rfl ?_
      cases h
      refine S.b3 ?_
      refine S.b3 ?_
      refine S.b3 ?_
      refine S.b3 ?_
      refine S.to ?_ (hK1 v4_1)
      exact ⟨rfl, rfl, rfl, rfl, trivial⟩
  rintro v4_e1
  refine S.rd fun hr18 => ?_
  refine S.seq ?_
  obtain ⟨x19, hx20, h⟩ := opt_bind h
  obtain ⟨x21, hx22, h⟩ := opt_bind h
  obtain ⟨x23, hx24, h⟩ := opt_bind h
  obtain ⟨x25, hx26, h⟩ := opt_bind h
  obtain ⟨x27, hx28, h⟩ := opt_bind h
  obtain ⟨x29, hx30, h⟩ := opt_bind h
  refine S.draw' (Z := fun Q => ∀ (_ : Unit) (b31 : Nat) (_ : Unit) (_ : Unit) (_ : Unit) (_ : Unit), Q [(2, bp b1 0), (3, errV 48 none), (5, .int .u64 j5_e1), (8, bp b31 0)] [Box b31 [.int .i64 x19, .int .i64 x21, .int .i64 x23, .int .i64 x25, .int .i64 x29, .int .i64 x27], Own 3 (ekI .i64) v4_e1 j4_e1, Own 3 (ekI .i64) v4 t2, Box b1 [.int .i64 0, .int .i64 0, .int .i64 0, .int .i64 0, .int .i64 0, .int .i64 0], F]) (T := [tS 4 (v4_e1), tE [(2, bp b1 0), (3, errV 48 none), (5, .int .u64 j5_e1)], tR (Own 3 (ekI .i64) v4_e1 j4_e1), tR (Own 3 (ekI .i64) v4 t2), tR (Box b1 [.int .i64 0, .int .i64 0, .int .i64 0, .int .i64 0, .int .i64 0, .int .i64 0]), tR (F), tS 29 (v4_e1), tS 30 (idxp v4_e1 ((0 : Int).toNat * (ekI .i64).sz)), tS 31 (.int .i64 x19), tS 32 (v4_e1), tS 33 (idxp v4_e1 ((1 : Int).toNat * (ekI .i64).sz)), tS 34 (.int .i64 x21), tS 35 (v4_e1), tS 36 (idxp v4_e1 ((2 : Int).toNat * (ekI .i64).sz)), tS 37 (.int .i64 x23), tS 38 (v4_e1), tS 39 (idxp v4_e1 ((3 : Int).toNat * (ekI .i64).sz)), tS 40 (.int .i64 x25), tS 41 (v4_e1), tS 42 (idxp v4_e1 ((4 : Int).toNat * (ekI .i64).sz)), tS 43 (.int .i64 x27), tS 44 (v4_e1), tS 45 (idxp v4_e1 ((5 : Int).toNat * (ekI .i64).sz)), tS 46 (.int .i64 x29), tS 47 (.agg #[.int .i64 x19, .int .i64 x21, .int .i64 x23, .int .i64 x25, .int .i64 x29, .int .i64 x27]), ⟨Nat, [8], (fun b31 => [(8, bp b31 0)]), (fun b31 => [Box b31 [.int .i64 0, .int .i64 0, .int .i64 0, .int .i64 0, .int .i64 0, .int .i64 0]]), fun _ => rfl⟩, ⟨Nat, [8], (fun b31 => [(8, bp b31 0)]), (fun b31 => [Box b31 [.int .i64 x19, .int .i64 x21, .int .i64 x23, .int .i64 x25, .int .i64 x29, .int .i64 x27]]), fun _ => rfl⟩]) (D := [⟨[0], [], [6]⟩, ⟨[6, 2], [], [7]⟩, ⟨[7, 2], [], [8]⟩, ⟨[0], [], [9]⟩, ⟨[9, 2], [], [10]⟩, ⟨[10, 2], [], [11]⟩, ⟨[0], [], [12]⟩, ⟨[12, 2], [], [13]⟩, ⟨[13, 2], [], [14]⟩, ⟨[0], [], [15]⟩, ⟨[15, 2], [], [16]⟩, ⟨[16, 2], [], [17]⟩, ⟨[0], [], [18]⟩, ⟨[18, 2], [], [19]⟩, ⟨[19, 2], [], [20]⟩, ⟨[0], [], [21]⟩, ⟨[21, 2], [], [22]⟩, ⟨[22, 2], [], [23]⟩, ⟨[8, 11, 14, 17, 20, 23], [], [24]⟩, ⟨[], [], [25]⟩, ⟨[24], [25], [26]⟩]) (ini := [0, 1, 2, 3, 4, 5]) (fin := [1, 26, 2, 3, 4, 5]) (bf := [[], [0], [0, 1], [], [3], [3, 4], [], [6], [6, 7], [], [9], [9, 10], [], [12], [12, 13], [], [15], [15, 16], [0, 1, 2, 3, 4, 5, 6, 7, 8, 9, 10, 11, 12, 13, 14, 15, 16, 17], [], [0, 1, 2, 3, 4, 5, 6, 7, 8, 9, 10, 11, 12, 13, 14, 15, 16, 17, 18, 19]]) (by kernel_rfl) (by kernel_rfl) (fun x w h1 h2 => (.cons () (.cons () (.cons () (.cons () (.cons () (.cons () (.nil ⟨EnvAll.of h1 ⟨rfl, rfl, rfl, rfl, trivial⟩, h2⟩)))))))) (fun Q => by kernel_rfl) ⟨?_, ?_, ?_, ?_, ?_, ?_, ?_, ?_, ?_, ?_, ?_, ?_, ?_, ?_, ?_, ?_, ?_, ?_, ?_, ?_, ?_, trivial⟩ ?_
  · rintro Fr _
    refine SO.v rfl (opv_move rfl) ?_
    exact SO.nilZ fun a w h1 h2 h3 h4 h5 => PZ.of h1 h3 h5 (.cons () (.cons () (.nil ⟨EnvAll.of h2 ⟨rfl, rfl, trivial⟩, h4⟩)))
  · rintro Fr _ _
    refine SO.v rfl (opv_idx Try.underlying73 Try.sizeOf3 hr18 rfl rfl hx20) ?_
    exact SO.nilZ fun a w h1 h2 h3 h4 h5 => PZ.of h1 h3 h5 (.cons () (.cons () (.cons () (.nil ⟨EnvAll.of h2 ⟨rfl, rfl, trivial⟩, h4⟩))))
  · rintro Fr _ _
    refine SO.loadI1 (j := 0) rfl Try.isAgg3 (Rd.head hr18) hx20 rfl rfl rfl rfl ?_
    exact SO.nilZ fun a w h1 h2 h3 h4 h5 => PZ.of h1 h3 h5 (.cons () (.cons () (.cons () (.nil ⟨EnvAll.of h2 ⟨rfl, rfl, trivial⟩, h4⟩))))
  · rintro Fr _
    refine SO.v rfl (opv_move rfl) ?_
    exact SO.nilZ fun a w h1 h2 h3 h4 h5 => PZ.of h1 h3 h5 (.cons () (.cons () (.nil ⟨EnvAll.of h2 ⟨rfl, rfl, trivial⟩, h4⟩)))
  · rintro Fr _ _
    refine SO.v rfl (opv_idx Try.underlying73 Try.sizeOf3 hr18 rfl rfl hx22) ?_
    exact SO.nilZ fun a w h1 h2 h3 h4 h5 => PZ.of h1 h3 h5 (.cons () (.cons () (.cons () (.nil ⟨EnvAll.of h2 ⟨rfl, rfl, trivial⟩, h4⟩))))
  · rintro Fr _ _
    refine SO.loadI1 (j := 0) rfl Try.isAgg3 (Rd.head hr18) hx22 rfl rfl rfl rfl ?_
    exact SO.nilZ fun a w h1 h2 h3 h4 h5 => PZ.of h1 h3 h5 (.cons () (.cons () (.cons () (.nil ⟨EnvAll.of h2 ⟨rfl, rfl, trivial⟩, h4⟩))))
  · rintro Fr _
    refine SO.v rfl (opv_move rfl) ?_
    exact SO.nilZ fun a w h1 h2 h3 h4 h5 => PZ.of h1 h3 h5 (.cons () (.cons () (.nil ⟨EnvAll.of h2 ⟨rfl, rfl, trivial⟩, h4⟩)))
  · rintro Fr _ _
    refine SO.v rfl (opv_idx Try.underlying73 Try.sizeOf3 hr18 rfl rfl hx24) ?_
    exact SO.nilZ fun a w h1 h2 h3 h4 h5 => PZ.of h1 h3 h5 (.cons () (.cons () (.cons () (.nil ⟨EnvAll.of h2 ⟨rfl, rfl, trivial⟩, h4⟩))))
  · rintro Fr _ _
    refine SO.loadI1 (j := 0) rfl Try.isAgg3 (Rd.head hr18) hx24 rfl rfl rfl rfl ?_
    exact SO.nilZ fun a w h1 h2 h3 h4 h5 => PZ.of h1 h3 h5 (.cons () (.cons () (.cons () (.nil ⟨EnvAll.of h2 ⟨rfl, rfl, trivial⟩, h4⟩))))
  · rintro Fr _
    refine SO.v rfl (opv_move rfl) ?_
    exact SO.nilZ fun a w h1 h2 h3 h4 h5 => PZ.of h1 h3 h5 (.cons () (.cons () (.nil ⟨EnvAll.of h2 ⟨rfl, rfl, trivial⟩, h4⟩)))
  · rintro Fr _ _
    refine SO.v rfl (opv_idx Try.underlying73 Try.sizeOf3 hr18 rfl rfl hx26) ?_
    exact SO.nilZ fun a w h1 h2 h3 h4 h5 => PZ.of h1 h3 h5 (.cons () (.cons () (.cons () (.nil ⟨EnvAll.of h2 ⟨rfl, rfl, trivial⟩, h4⟩))))
  · rintro Fr _ _
    refine SO.loadI1 (j := 0) rfl Try.isAgg3 (Rd.head hr18) hx26 rfl rfl rfl rfl ?_
    exact SO.nilZ fun a w h1 h2 h3 h4 h5 => PZ.of h1 h3 h5 (.cons () (.cons () (.cons () (.nil ⟨EnvAll.of h2 ⟨rfl, rfl, trivial⟩, h4⟩))))
  · rintro Fr _
    refine SO.v rfl (opv_move rfl) ?_
    exact SO.nilZ fun a w h1 h2 h3 h4 h5 => PZ.of h1 h3 h5 (.cons () (.cons () (.nil ⟨EnvAll.of h2 ⟨rfl, rfl, trivial⟩, h4⟩)))
  · rintro Fr _ _
    refine SO.v rfl (opv_idx Try.underlying73 Try.sizeOf3 hr18 rfl rfl hx28) ?_
    exact SO.nilZ fun a w h1 h2 h3 h4 h5 => PZ.of h1 h3 h5 (.cons () (.cons () (.cons () (.nil ⟨EnvAll.of h2 ⟨rfl, rfl, trivial⟩, h4⟩))))
  · rintro Fr _ _
    refine SO.loadI1 (j := 0) rfl Try.isAgg3 (Rd.head hr18) hx28 rfl rfl rfl rfl ?_
    exact SO.nilZ fun a w h1 h2 h3 h4 h5 => PZ.of h1 h3 h5 (.cons () (.cons () (.cons () (.nil ⟨EnvAll.of h2 ⟨rfl, rfl, trivial⟩, h4⟩))))
  · rintro Fr _
    refine SO.v rfl (opv_move rfl) ?_
    exact SO.nilZ fun a w h1 h2 h3 h4 h5 => PZ.of h1 h3 h5 (.cons () (.cons () (.nil ⟨EnvAll.of h2 ⟨rfl, rfl, trivial⟩, h4⟩)))
  · rintro Fr _ _
    refine SO.v rfl (opv_idx Try.underlying73 Try.sizeOf3 hr18 rfl rfl hx30) ?_
    exact SO.nilZ fun a w h1 h2 h3 h4 h5 => PZ.of h1 h3 h5 (.cons () (.cons () (.cons () (.nil ⟨EnvAll.of h2 ⟨rfl, rfl, trivial⟩, h4⟩))))
  · rintro Fr _ _
    refine SO.loadI1 (j := 0) rfl Try.isAgg3 (Rd.head hr18) hx30 rfl rfl rfl rfl ?_
    exact SO.nilZ fun a w h1 h2 h3 h4 h5 => PZ.of h1 h3 h5 (.cons () (.cons () (.cons () (.nil ⟨EnvAll.of h2 ⟨rfl, rfl, trivial⟩, h4⟩))))
  · rintro Fr _ _ _ _ _ _
    refine SO.v rfl (opv_build (v := .agg #[.int .i64 x19, .int .i64 x21, .int .i64 x23, .int .i64 x25, .int .i64 x29, .int .i64 x27]) rfl (by intro w; kernel_rfl)) ?_
    exact SO.nilZ fun a w h1 h2 h3 h4 h5 => PZ.of h1 h3 h5 (.cons () (.cons () (.cons () (.cons () (.cons () (.cons () (.cons () (.nil ⟨EnvAll.of h2 ⟨rfl, rfl, rfl, rfl, rfl, rfl, rfl, trivial⟩, h4⟩))))))))
  · rintro Fr 
    refine SO.alloc rfl Try.zeroValue53 rfl (fun b31 => ?_)
    exact SO.nilZ fun a w h1 h2 h3 h4 h5 => PZ.of h1 h3 h5 (.cons b31 (.nil ⟨EnvAll.of h2 ⟨rfl, trivial⟩, h4⟩))
  · rintro Fr _ b31
    refine SO.storeN Try.sizeOf53 rfl rfl rfl rfl rfl rfl ?_
    exact SO.nilZ fun a w h1 h2 h3 h4 h5 => PZ.of h1 h3 h5 (.cons () (.cons b31 (.nil ⟨EnvAll.of h2 ⟨rfl, rfl, trivial⟩, h4⟩)))
  rintro _ b31 _ _ _ _
  refine S.to (ρ' := [(2, bp b1 0), (3, errV 48 none), (5, .int .u64 j5_e1), (8, bp b31 0)]) ⟨rfl, rfl, rfl, rfl, trivial⟩ ?_
  refine S.seq ?_
  refine S.seq ?_
  refine S.region ?_
  refine SO.v rfl (opv_move rfl) ?_
  refine SO.v rfl (opv_neq rfl rfl) ?_
  refine SO.v rfl (opv_move rfl) ?_
  obtain ⟨c33, hc34, hgk⟩ := opt_bind h
  refine SO.cut 4 54 (.bool c33) [Box b31 [.int .i64 x19, .int .i64 x21, .int .i64 x23, .int .i64 x25, .int .i64 x29, .int .i64 x27], Own 3 (ekI .i64) v4_e1 j4_e1, Own 3 (ekI .i64) v4 t2, Box b1 [.int .i64 0, .int .i64 0, .int .i64 0, .int .i64 0, .int .i64 0, .int .i64 0], F] (fun l2 hk2 => ?_) ?_
  · clear hgk
    replace h := hc34
    rcases bool_or (j5_e1 != 0) with b32 | b32
    · replace h := cond_t b32 h
      refine SO.passF rfl rfl rfl b32 rfl rfl ?_
      refine SO.passF rfl rfl rfl b32 rfl rfl ?_
      refine SO.passF rfl rfl rfl b32 rfl rfl ?_
      cases h
      refine SO.v rfl (opv_pick_t' b32 rfl rfl) ?_
      refine SO.b4 ?_
      refine SO.b4 ?_
      refine SO.b4 ?_
      refine SO.b4 ?_
      refine SO.b4 ?_
      exact hk2.fitc (m := 4) rfl (rfl) rfl
    · replace h := cond_f b32 h
      refine SO.takeT rfl rfl rfl b32 ?_
      refine SO.loadN rfl Try.isAgg53 Try.sizeOf53 rfl rfl rfl ?_
      refine SO.takeT rfl rfl rfl b32 ?_
      obtain ⟨t35, ht36, h⟩ := opt_bind h
      have ct37 := pack_May.ct _ _ ht36
      dsimp only at ct37
      refine SO.call (pre := []) rfl Try.call33 rfl rfl rfl ct37 trivial ?_
      rintro _ _ ⟨rfl, rfl⟩
      refine SO.takeT rfl rfl rfl b32 ?_
      refine SO.v rfl (opv_not rfl) ?_
      cases h
      refine SO.v rfl (opv_pick_f' b32 rfl rfl) ?_
      refine SO.b4 ?_
      refine SO.b4 ?_
      refine SO.b4 ?_
      refine SO.b4 ?_
      refine SO.b4 ?_
      exact hk2.fitc (m := 4) rfl (rfl) rfl
  clear hc34
  replace h := hgk
  refine SO.nil ?_
  rcases bool_or c33 with b38 | b38
  · replace h := cond_t b38 h
    refine S.condT rfl b38 ?_
    refine S.seq ?_
    refine S.region ?_
    refine SO.v rfl (opv_build (v := .agg #[.int .i64 0, .int .i64 0, .int .i64 0, .int .i64 0, .int .i64 0, .int .i64 0]) rfl (by intro w; kernel_rfl)) ?_
    refine SO.v rfl (opv_iface Try.underlying48 rfl rfl) ?_
    refine SO.b3 ?_
    refine SO.storeN Try.sizeOf53 rfl rfl rfl rfl rfl rfl ?_
    refine SO.v rfl (opv_assign rfl) ?_
    refine SO.nil ?_
    refine S.to (ρ' := [(2, bp b1 0), (3, errV 48 (some 1)), (8, bp b31 0)]) ⟨rfl, rfl, rfl, trivial⟩ ?_
    cases h
    refine S.b1 ?_
    refine S.drop ?_
    refine S.b1 ?_
    refine S.drop ?_
    refine S.b1 ?_
    refine S.drop ?_
    refine S.b1 ?_
    refine S.b1 ?_
    exact S.retC1 Try.func35 rfl rfl rfl Try.isAgg53 Try.sizeOf53 rfl rfl (fun w hs hk => hR w _ _ ⟨rfl, rfl⟩ hs.drop hk)
  · replace h := cond_f b38 h
    refine S.condF rfl b38 ?_
    refine S.skip ?_
    refine S.seq ?_
    refine S.region ?_
    refine SO.loadN rfl Try.isAgg53 Try.sizeOf53 rfl rfl rfl ?_
    refine SO.b3 ?_
    refine SO.storeN Try.sizeOf53 rfl rfl rfl rfl rfl rfl ?_
    refine SO.v rfl (opv_assign rfl) ?_
    refine SO.nil ?_
    refine S.to (ρ' := [(2, bp b1 0), (3, errV 48 none)]) ⟨rfl, rfl, trivial⟩ ?_
    cases h
    refine S.b1 ?_
    refine S.drop ?_
    refine S.b1 ?_
    refine S.drop ?_
    refine S.b1 ?_
    refine S.drop ?_
    refine S.b1 ?_
    refine S.b1 ?_
    exact S.retC1 Try.func35 rfl rfl rfl Try.isAgg53 Try.sizeOf53 rfl rfl (fun w hs hk => hR w _ _ ⟨rfl, rfl⟩ hs.drop hk)
end Go.Proofs
namespace Go.Proofs
open Go.Sl Go.RowKit
/-! 66 padstone/padstoneref01.in -/
def ref01_in.f (a0 : Int) (a1 : Int) : Option (Bool) :=
  some ((decide (0 ≤ a0)) && (decide (a0 ≤ a1)))
set_option maxHeartbeats 8000000 in
set_option maxRecDepth 100000 in
theorem ref01_in.ct (a0 : Int) (a1 : Int) (r0 : Bool) (h : ref01_in.f a0 a1 = some r0) :
    Ct Try.prog 66 [.int .i64 a0, .int .i64 a1] (fun _ => True) [] (fun u H' => u = .bool r0 ∧ H' = []) := by
  unfold ref01_in.f at h
  refine Ct.intro (n := 12) Try.func66 rfl rfl rfl ?_
  intro R w0 F hF hR
  refine S.seq ?_
  refine S.region ?_
  refine SO.v rfl (opv_assign rfl) ?_
  refine SO.nil ?_
  refine S.seq ?_
  refine S.region ?_
  refine SO.v rfl (opv_move rfl) ?_
  refine SO.v rfl (opv_geq rfl rfl) ?_
  refine SO.v rfl (opv_move rfl) ?_
  refine SO.cut 4 11 (.bool ((decide (0 ≤ a0)) && (decide (a0 ≤ a1)))) [F] (fun l2 hk2 => ?_) ?_
  · rcases bool_or (decide (0 ≤ a0)) with b1 | b1
    · refine SO.takeT rfl rfl rfl b1 ?_
      refine SO.v rfl (opv_move rfl) ?_
      refine SO.takeT rfl rfl rfl b1 ?_
      refine SO.v rfl (opv_move rfl) ?_
      refine SO.takeT rfl rfl rfl b1 ?_
      refine SO.v rfl (opv_leq rfl rfl) ?_
      refine SO.v rfl (opv_pick_t' b1 rfl rfl) ?_
      exact hk2.fitc (m := 4) rfl (and_t b1) rfl
    · refine SO.passF rfl rfl rfl b1 rfl rfl ?_
      refine SO.passF rfl rfl rfl b1 rfl rfl ?_
      refine SO.passF rfl rfl rfl b1 rfl rfl ?_
      refine SO.v rfl (opv_pick_f' b1 rfl rfl) ?_
      exact hk2.fitc (m := 4) rfl (and_f b1) rfl
  refine SO.v rfl (opv_assign rfl) ?_
  refine SO.nil ?_
  cases h
  exact S.ret1 Try.func66 rfl rfl (fun w hs hk => hR w _ _ ⟨rfl, rfl⟩ hs hk)
end Go.Proofs
