/- What the functions that DescSteps reaches come to, and that they do. On no condition. -/
import Derived.Test.YtlglafdeponjmaaFr2
import Derived.Test.YtlglafdeponjmaaProg
set_option linter.all false
namespace Go.Proofs
open Go.Sl Go.RowKit
theorem inf38 : Try.prog.info? 38 = some Try.t38 := by kernel_rfl
theorem inf40 : Try.prog.info? 40 = some Try.t40 := by kernel_rfl
theorem inf53 : Try.prog.info? 53 = some Try.t53 := by kernel_rfl
theorem inf55 : Try.prog.info? 55 = some Try.t55 := by kernel_rfl
theorem inf66 : Try.prog.info? 66 = some Try.t66 := by kernel_rfl
structure api_Cell where
  Value : Int
  Version : Int
  Mark : Int
  deriving DecidableEq, Inhabited
def ek_api_Cell : EK api_Cell := ⟨3, fun x => [.int .u64 x.Value, .int .u32 x.Version, .int .i64 x.Mark], fun _ => rfl, fun x v hv => by
  simp only [List.mem_cons, List.not_mem_nil, or_false] at hv
  rcases hv with rfl | rfl | rfl <;> rfl, by decide⟩
theorem eqI_api_Cell (x y : api_Cell) : eqI [x.Value, x.Version, x.Mark] [y.Value, y.Version, y.Mark] = decide (x = y) := by
  cases x; cases y
  rw [Bool.eq_iff_iff]
  simp [eqI]
theorem fi_api_Cell : ∀ fs, Try.prog.underlying 55 = some (.struct fs) → FI Try.prog fs.toList 0 [.u64, .u32, .i64] := by
  intro fs h
  rw [Try.underlying55] at h
  injection h with h
  injection h with h
  subst h
  exact ⟨by decide, Try.underlying51, rfl, ⟨by decide, Try.underlying22, rfl, ⟨by decide, Try.underlying3, rfl, trivial⟩⟩⟩
theorem eq_eql_api_Cell {ρ : Env} {t2 : TypeId} {x y : api_Cell} {a b : Operand} (ha : ev ρ a = some (.agg (encI [.u64, .u32, .i64] [x.Value, x.Version, x.Mark]).toArray)) (hb : ev ρ b = some (.agg (encI [.u64, .u32, .i64] [y.Value, y.Version, y.Mark]).toArray)) : OpV Try.prog ρ (.binOp .eql 55 a b t2) (.bool (decide (x = y))) :=
  opv_eqlS Try.underlying55 Try.stoodInHeld55 Try.eqGuardType55 (fi_api_Cell _ Try.underlying55) rfl rfl ha hb (by rw [eqI_api_Cell])
theorem eq_neq_api_Cell {ρ : Env} {t2 : TypeId} {x y : api_Cell} {a b : Operand} (ha : ev ρ a = some (.agg (encI [.u64, .u32, .i64] [x.Value, x.Version, x.Mark]).toArray)) (hb : ev ρ b = some (.agg (encI [.u64, .u32, .i64] [y.Value, y.Version, y.Mark]).toArray)) : OpV Try.prog ρ (.binOp .neq 55 a b t2) (.bool (!decide (x = y))) :=
  opv_neqS Try.underlying55 Try.stoodInHeld55 Try.eqGuardType55 (fi_api_Cell _ Try.underlying55) rfl rfl ha hb (by rw [eqI_api_Cell])
structure word_Store where
  l : List api_Cell
  limit : Int
  deriving DecidableEq, Inhabited
def kr_word_Store : EKR word_Store := ⟨2, fun x => [.sl ek_api_Cell x.l, .val (.int .u32 x.limit)], fun _ => rfl, fun x v hv => by
  simp only [List.mem_cons, List.not_mem_nil, or_false, CellP.val.injEq, reduceCtorEq, false_or] at hv
  rcases hv with rfl <;> rfl, by decide⟩
structure tx_Entry where
  Cell : Int
  Version : Int
  Old : Int
  New : Int
  Write : Bool
  deriving DecidableEq, Inhabited
def ek_tx_Entry : EK tx_Entry := ⟨5, fun x => [.int .i64 x.Cell, .int .u32 x.Version, .int .u64 x.Old, .int .u64 x.New, .bool x.Write], fun _ => rfl, fun x v hv => by
  simp only [List.mem_cons, List.not_mem_nil, or_false] at hv
  rcases hv with rfl | rfl | rfl | rfl | rfl <;> rfl, by decide⟩
structure desc_Desc where
  mark : Int
  l : List tx_Entry
  status : Int
  at_ : Int
  deriving DecidableEq, Inhabited
def kr_desc_Desc : EKR desc_Desc := ⟨4, fun x => [.val (.int .i64 x.mark), .sl ek_tx_Entry x.l, .val (.int .i64 x.status), .val (.int .i64 x.at_)], fun _ => rfl, fun x v hv => by
  simp only [List.mem_cons, List.not_mem_nil, or_false, CellP.val.injEq, reduceCtorEq, false_or] at hv
  rcases hv with rfl | rfl | rfl <;> rfl, by decide⟩
structure ref07_Entry where
  Cell : Int
  Version : Int
  New : Int
  Write : Bool
  deriving DecidableEq, Inhabited
def ek_ref07_Entry : EK ref07_Entry := ⟨4, fun x => [.int .i64 x.Cell, .int .u32 x.Version, .int .u64 x.New, .bool x.Write], fun _ => rfl, fun x v hv => by
  simp only [List.mem_cons, List.not_mem_nil, or_false] at hv
  rcases hv with rfl | rfl | rfl | rfl <;> rfl, by decide⟩
structure ref07_Desc where
  Mark : Int
  L : List ref07_Entry
  Status : Int
  At : Int
  deriving DecidableEq, Inhabited
def kr_ref07_Desc : EKR ref07_Desc := ⟨4, fun x => [.val (.int .i64 x.Mark), .sl ek_ref07_Entry x.L, .val (.int .i64 x.Status), .val (.int .i64 x.At)], fun _ => rfl, fun x v hv => by
  simp only [List.mem_cons, List.not_mem_nil, or_false, CellP.val.injEq, reduceCtorEq, false_or] at hv
  rcases hv with rfl | rfl | rfl <;> rfl, by decide⟩
structure ref01_Store where
  L : List api_Cell
  Limit : Int
  deriving DecidableEq, Inhabited
def kr_ref01_Store : EKR ref01_Store := ⟨2, fun x => [.sl ek_api_Cell x.L, .val (.int .u32 x.Limit)], fun _ => rfl, fun x v hv => by
  simp only [List.mem_cons, List.not_mem_nil, or_false, CellP.val.injEq, reduceCtorEq, false_or] at hv
  rcases hv with rfl <;> rfl, by decide⟩
def rep_ref07_Desc (b : Nat) (t : ref07_Desc) : HProp := fun m => ∃ (g_L : Value), stars [Box b [.int .i64 t.Mark, g_L, .int .i64 t.Status, .int .i64 t.At], Own 66 ek_ref07_Entry g_L t.L] m
theorem so_open_ref07_Desc {P : Program} {n : Nat} {Z : Act → World → Prop} {w0 : Beg} {ops : Array Oper} {l : List Oper} {ρ : Env} {rest : List HProp} {b : Nat} {t : ref07_Desc} (h : ∀ g_L, SO P n Z w0 ops l ρ (Box b [.int .i64 t.Mark, g_L, .int .i64 t.Status, .int .i64 t.At] :: Own 66 ek_ref07_Entry g_L t.L :: rest)) : SO P n Z w0 ops l ρ (rep_ref07_Desc b t :: rest) := by
  intro a w h1 h2 h3 h4 h5
  obtain ⟨m1, m2, d, s1, s2, ⟨g_L, hx⟩, hr⟩ := h4
  exact h g_L a w h1 h2 h3 ((stars_append [Box b [.int .i64 t.Mark, g_L, .int .i64 t.Status, .int .i64 t.At], Own 66 ek_ref07_Entry g_L t.L] rest (hp w)).2 ⟨m1, m2, d, s1, s2, hx, hr⟩) h5
theorem so_close_ref07_Desc {P : Program} {n : Nat} {Z : Act → World → Prop} {w0 : Beg} {ops : Array Oper} {l : List Oper} {ρ : Env} {rest : List HProp} {b : Nat} {t : ref07_Desc} {g_L : Value} (h : SO P n Z w0 ops l ρ (rep_ref07_Desc b t :: rest)) : SO P n Z w0 ops l ρ (Box b [.int .i64 t.Mark, g_L, .int .i64 t.Status, .int .i64 t.At] :: Own 66 ek_ref07_Entry g_L t.L :: rest) := h.sat fun w s => by
  have h2 : stars ([Box b [.int .i64 t.Mark, g_L, .int .i64 t.Status, .int .i64 t.At], Own 66 ek_ref07_Entry g_L t.L] ++ rest) (hp w) := s
  obtain ⟨m1, m2, d, s1, s2, hx, hr⟩ := (stars_append _ _ _).1 h2
  exact ⟨m1, m2, d, s1, s2, ⟨g_L, hx⟩, hr⟩
theorem s_open_ref07_Desc {P : Program} {f : FuncId} {n : Nat} {R : Ending → World → Prop} {w0 : Beg} {k : List Item} {ρ : Env} {rest : List HProp} {b : Nat} {t : ref07_Desc} (h : ∀ g_L, S P f n R w0 k ρ (Box b [.int .i64 t.Mark, g_L, .int .i64 t.Status, .int .i64 t.At] :: Own 66 ek_ref07_Entry g_L t.L :: rest)) : S P f n R w0 k ρ (rep_ref07_Desc b t :: rest) := by
  intro a w h1 h2 h3 h4 h5
  obtain ⟨m1, m2, d, s1, s2, ⟨g_L, hx⟩, hr⟩ := h4
  exact h g_L a w h1 h2 h3 ((stars_append [Box b [.int .i64 t.Mark, g_L, .int .i64 t.Status, .int .i64 t.At], Own 66 ek_ref07_Entry g_L t.L] rest (hp w)).2 ⟨m1, m2, d, s1, s2, hx, hr⟩) h5
theorem s_close_ref07_Desc {P : Program} {f : FuncId} {n : Nat} {R : Ending → World → Prop} {w0 : Beg} {k : List Item} {ρ : Env} {rest : List HProp} {b : Nat} {t : ref07_Desc} {g_L : Value} (h : S P f n R w0 k ρ (rep_ref07_Desc b t :: rest)) : S P f n R w0 k ρ (Box b [.int .i64 t.Mark, g_L, .int .i64 t.Status, .int .i64 t.At] :: Own 66 ek_ref07_Entry g_L t.L :: rest) := h.sat fun w s => by
  have h2 : stars ([Box b [.int .i64 t.Mark, g_L, .int .i64 t.Status, .int .i64 t.At], Own 66 ek_ref07_Entry g_L t.L] ++ rest) (hp w) := s
  obtain ⟨m1, m2, d, s1, s2, hx, hr⟩ := (stars_append _ _ _).1 h2
  exact ⟨m1, m2, d, s1, s2, ⟨g_L, hx⟩, hr⟩
def rep_desc_Desc (b : Nat) (t : desc_Desc) : HProp := fun m => ∃ (g_l : Value), stars [Box b [.int .i64 t.mark, g_l, .int .i64 t.status, .int .i64 t.at_], Own 53 ek_tx_Entry g_l t.l] m
theorem so_open_desc_Desc {P : Program} {n : Nat} {Z : Act → World → Prop} {w0 : Beg} {ops : Array Oper} {l : List Oper} {ρ : Env} {rest : List HProp} {b : Nat} {t : desc_Desc} (h : ∀ g_l, SO P n Z w0 ops l ρ (Box b [.int .i64 t.mark, g_l, .int .i64 t.status, .int .i64 t.at_] :: Own 53 ek_tx_Entry g_l t.l :: rest)) : SO P n Z w0 ops l ρ (rep_desc_Desc b t :: rest) := by
  intro a w h1 h2 h3 h4 h5
  obtain ⟨m1, m2, d, s1, s2, ⟨g_l, hx⟩, hr⟩ := h4
  exact h g_l a w h1 h2 h3 ((stars_append [Box b [.int .i64 t.mark, g_l, .int .i64 t.status, .int .i64 t.at_], Own 53 ek_tx_Entry g_l t.l] rest (hp w)).2 ⟨m1, m2, d, s1, s2, hx, hr⟩) h5
theorem so_close_desc_Desc {P : Program} {n : Nat} {Z : Act → World → Prop} {w0 : Beg} {ops : Array Oper} {l : List Oper} {ρ : Env} {rest : List HProp} {b : Nat} {t : desc_Desc} {g_l : Value} (h : SO P n Z w0 ops l ρ (rep_desc_Desc b t :: rest)) : SO P n Z w0 ops l ρ (Box b [.int .i64 t.mark, g_l, .int .i64 t.status, .int .i64 t.at_] :: Own 53 ek_tx_Entry g_l t.l :: rest) := h.sat fun w s => by
  have h2 : stars ([Box b [.int .i64 t.mark, g_l, .int .i64 t.status, .int .i64 t.at_], Own 53 ek_tx_Entry g_l t.l] ++ rest) (hp w) := s
  obtain ⟨m1, m2, d, s1, s2, hx, hr⟩ := (stars_append _ _ _).1 h2
  exact ⟨m1, m2, d, s1, s2, ⟨g_l, hx⟩, hr⟩
theorem s_open_desc_Desc {P : Program} {f : FuncId} {n : Nat} {R : Ending → World → Prop} {w0 : Beg} {k : List Item} {ρ : Env} {rest : List HProp} {b : Nat} {t : desc_Desc} (h : ∀ g_l, S P f n R w0 k ρ (Box b [.int .i64 t.mark, g_l, .int .i64 t.status, .int .i64 t.at_] :: Own 53 ek_tx_Entry g_l t.l :: rest)) : S P f n R w0 k ρ (rep_desc_Desc b t :: rest) := by
  intro a w h1 h2 h3 h4 h5
  obtain ⟨m1, m2, d, s1, s2, ⟨g_l, hx⟩, hr⟩ := h4
  exact h g_l a w h1 h2 h3 ((stars_append [Box b [.int .i64 t.mark, g_l, .int .i64 t.status, .int .i64 t.at_], Own 53 ek_tx_Entry g_l t.l] rest (hp w)).2 ⟨m1, m2, d, s1, s2, hx, hr⟩) h5
theorem s_close_desc_Desc {P : Program} {f : FuncId} {n : Nat} {R : Ending → World → Prop} {w0 : Beg} {k : List Item} {ρ : Env} {rest : List HProp} {b : Nat} {t : desc_Desc} {g_l : Value} (h : S P f n R w0 k ρ (rep_desc_Desc b t :: rest)) : S P f n R w0 k ρ (Box b [.int .i64 t.mark, g_l, .int .i64 t.status, .int .i64 t.at_] :: Own 53 ek_tx_Entry g_l t.l :: rest) := h.sat fun w s => by
  have h2 : stars ([Box b [.int .i64 t.mark, g_l, .int .i64 t.status, .int .i64 t.at_], Own 53 ek_tx_Entry g_l t.l] ++ rest) (hp w) := s
  obtain ⟨m1, m2, d, s1, s2, hx, hr⟩ := (stars_append _ _ _).1 h2
  exact ⟨m1, m2, d, s1, s2, ⟨g_l, hx⟩, hr⟩
end Go.Proofs
namespace Go.Proofs
open Go.Sl Go.RowKit
/-! 14 (*padstone/desc.Desc).Mark -/
def desc_Desc_Mark.f (a0 : desc_Desc) : Option (Int) :=
  some a0.mark
set_option maxHeartbeats 8000000 in
set_option maxRecDepth 100000 in
theorem desc_Desc_Mark.ct (bp0 : Nat) (v0_l : Value) (a0 : desc_Desc) (r0 : Int) (h : desc_Desc_Mark.f a0 = some r0) :
    Ct Try.prog 14 [bp bp0 0] (fun _ => True) [Box bp0 [.int .i64 a0.mark, v0_l, .int .i64 a0.status, .int .i64 a0.at_], Own 53 ek_tx_Entry v0_l a0.l] (fun u H' => u = .int .i64 r0 ∧ H' = [Box bp0 [.int .i64 a0.mark, v0_l, .int .i64 a0.status, .int .i64 a0.at_], Own 53 ek_tx_Entry v0_l a0.l]) := by
  unfold desc_Desc_Mark.f at h
  refine Ct.intro (n := 7) Try.func14 rfl rfl rfl ?_
  intro R w0 F hF hR
  refine S.b1 ?_
  refine S.rd fun hr1 => ?_
  refine S.seq ?_
  refine S.region ?_
  refine SO.v rfl (opv_assign rfl) ?_
  refine SO.nil ?_
  refine S.seq ?_
  refine S.region ?_
  refine SO.v rfl (opv_move rfl) ?_
  refine SO.v rfl (opv_nilCheck rfl) ?_
  refine SO.v rfl (opv_fieldAddr Try.underlying64 rfl Try.sizeOf3 rfl rfl) ?_
  refine SO.b1 ?_
  refine SO.load1 rfl Try.isAgg3 rfl rfl ?_
  refine SO.v rfl (opv_assign rfl) ?_
  refine SO.nil ?_
  cases h
  refine S.b2 ?_
  refine S.b2 ?_
  refine S.b2 ?_
  exact S.ret1 Try.func14 rfl rfl (fun w hs hk => hR w _ _ ⟨rfl, rfl⟩ hs hk)
end Go.Proofs
namespace Go.Proofs
open Go.Sl Go.RowKit
/-! 12 (*padstone/desc.Desc).Over -/
def desc_Desc_Over.f (a0 : desc_Desc) : Option (Bool) :=
  (bif a0.status != 0 then (some (a0.at_ == (a0.l.length : Int))) else (some false)).bind fun j2_1 => some j2_1
set_option maxHeartbeats 8000000 in
set_option maxRecDepth 100000 in
theorem desc_Desc_Over.ct (bp0 : Nat) (v0_l : Value) (a0 : desc_Desc) (r0 : Bool) (h : desc_Desc_Over.f a0 = some r0) :
    Ct Try.prog 12 [bp bp0 0] (fun _ => True) [Box bp0 [.int .i64 a0.mark, v0_l, .int .i64 a0.status, .int .i64 a0.at_], Own 53 ek_tx_Entry v0_l a0.l] (fun u H' => u = .bool r0 ∧ H' = [Box bp0 [.int .i64 a0.mark, v0_l, .int .i64 a0.status, .int .i64 a0.at_], Own 53 ek_tx_Entry v0_l a0.l]) := by
  unfold desc_Desc_Over.f at h
  refine Ct.intro (n := 20) Try.func12 rfl rfl rfl ?_
  intro R w0 F hF hR
  refine S.b1 ?_
  refine S.rd fun hr1 => ?_
  refine S.seq ?_
  refine S.region ?_
  refine SO.v rfl (opv_assign rfl) ?_
  refine SO.nil ?_
  refine S.seq ?_
  obtain ⟨j2_1, hC1, hJ1⟩ := opt_bind h
  clear h
  refine S.cutP (G := Unit) (fun _ => True) (fun _ => [(2, .bool j2_1)]) (fun _ => [Own 53 ek_tx_Entry v0_l a0.l, Box bp0 [.int .i64 a0.mark, v0_l, .int .i64 a0.status, .int .i64 a0.at_], F]) (fun hk1 => ?_) ?_
  · replace h := hC1
    rcases bool_or (a0.status != 0) with b2 | b2
    · replace h := cond_t b2 h
      refine S.draw2 (Y := fun Q => ∃ (_ _ _ _ : Unit), Q [(0, bp bp0 0)] [Own 53 ek_tx_Entry v0_l a0.l, Box bp0 [.int .i64 a0.mark, v0_l, .int .i64 a0.status, .int .i64 a0.at_], F]) (Z := fun Q => ∀ (_ _ _ _ : Unit), Q [(2, .bool (a0.at_ == (a0.l.length : Int)))] [Own 53 ek_tx_Entry v0_l a0.l, Box bp0 [.int .i64 a0.mark, v0_l, .int .i64 a0.status, .int .i64 a0.at_], F]) (T := [tS 0 (bp bp0 0), tR (Own 53 ek_tx_Entry v0_l a0.l), tR (Box bp0 [.int .i64 a0.mark, v0_l, .int .i64 a0.status, .int .i64 a0.at_]), tR (F), tS 3 (bp bp0 0), tS 4 (bp bp0 0), tS 5 (bp bp0 2), tS 6 (.int .i64 a0.status), tS 7 (.bool (a0.status != 0)), tS 8 (.bool (a0.status != 0)), tS 9 (bp bp0 0), tS 10 (bp bp0 0), tS 11 (bp bp0 3), tS 12 (.int .i64 a0.at_), tS 13 (bp bp0 0), tS 14 (bp bp0 0), tS 15 (bp bp0 1), tS 16 (v0_l), tS 17 (.int .i64 (a0.l.length : Int)), tS 18 (.bool (a0.at_ == (a0.l.length : Int))), tS 19 (.bool (a0.at_ == (a0.l.length : Int))), tS 2 (.bool (a0.at_ == (a0.l.length : Int)))]) (D := [⟨[0], [], [4]⟩, ⟨[4], [], [5]⟩, ⟨[5], [], [6]⟩, ⟨[6, 2], [], [7]⟩, ⟨[7], [], [8]⟩, ⟨[8], [], [9]⟩, ⟨[0, 9], [], [10]⟩, ⟨[9, 10], [], [11]⟩, ⟨[9, 11], [], [12]⟩, ⟨[9, 12, 2], [], [13]⟩, ⟨[0, 9], [], [14]⟩, ⟨[9, 14], [], [15]⟩, ⟨[9, 15], [], [16]⟩, ⟨[9, 16, 2], [], [17]⟩, ⟨[9, 17, 1], [], [18]⟩, ⟨[9, 13, 18], [], [19]⟩, ⟨[9, 19], [], [20]⟩, ⟨[20], [], [21]⟩]) (ini := [0, 1, 2, 3]) (fin := [21, 1, 2, 3]) (bf := [[], [0], [0, 1], [0, 1, 2], [0, 1, 2, 3], [0, 1, 2, 3, 4], [0, 1, 2, 3, 4, 5], [0, 1, 2, 3, 4, 5, 6], [0, 1, 2, 3, 4, 5, 6, 7], [0, 1, 2, 3, 4, 5, 6, 7, 8], [0, 1, 2, 3, 4, 5], [0, 1, 2, 3, 4, 5, 10], [0, 1, 2, 3, 4, 5, 10, 11], [0, 1, 2, 3, 4, 5, 10, 11, 12], [0, 1, 2, 3, 4, 5, 10, 11, 12, 13], [0, 1, 2, 3, 4, 5, 6, 7, 8, 9, 10, 11, 12, 13, 14], [0, 1, 2, 3, 4, 5, 6, 7, 8, 9, 10, 11, 12, 13, 14, 15], [0, 1, 2, 3, 4, 5, 6, 7, 8, 9, 10, 11, 12, 13, 14, 15, 16]]) (by kernel_rfl) (by kernel_rfl) (fun Q => by kernel_rfl) (fun x w h1 h2 => ⟨(), (), (), (), EnvAll.of h1 ⟨rfl, trivial⟩, h2⟩) (fun Q => by kernel_rfl) ⟨?_, ?_, ?_, ?_, ?_, ?_, ?_, ?_, ?_, ?_, ?_, ?_, ?_, ?_, ?_, ?_, ?_, ?_, trivial⟩ ?_
      · rintro Fr _
        refine SO.v rfl (opv_move rfl) ?_
        exact SO.nilZ fun a w h1 h2 h3 h4 h5 => PZ.of h1 h3 h5 (.cons () (.cons () (.nil ⟨EnvAll.of h2 ⟨rfl, rfl, trivial⟩, h4⟩)))
      · rintro Fr _
        refine SO.v rfl (opv_nilCheck rfl) ?_
        exact SO.nilZ fun a w h1 h2 h3 h4 h5 => PZ.of h1 h3 h5 (.cons () (.cons () (.nil ⟨EnvAll.of h2 ⟨rfl, rfl, trivial⟩, h4⟩)))
      · rintro Fr _
        refine SO.v rfl (opv_fieldAddr Try.underlying64 rfl Try.sizeOf3 rfl rfl) ?_
        exact SO.nilZ fun a w h1 h2 h3 h4 h5 => PZ.of h1 h3 h5 (.cons () (.cons () (.nil ⟨EnvAll.of h2 ⟨rfl, rfl, trivial⟩, h4⟩)))
      · rintro Fr _ _
        refine SO.load1 rfl Try.isAgg3 rfl rfl ?_
        exact SO.nilZ fun a w h1 h2 h3 h4 h5 => PZ.of h1 h3 h5 (.cons () (.cons () (.cons () (.nil ⟨EnvAll.of h2 ⟨rfl, rfl, trivial⟩, h4⟩))))
      · rintro Fr _
        refine SO.v rfl (opv_neq rfl rfl) ?_
        exact SO.nilZ fun a w h1 h2 h3 h4 h5 => PZ.of h1 h3 h5 (.cons () (.cons () (.nil ⟨EnvAll.of h2 ⟨rfl, rfl, trivial⟩, h4⟩)))
      · rintro Fr _
        refine SO.v rfl (opv_move rfl) ?_
        exact SO.nilZ fun a w h1 h2 h3 h4 h5 => PZ.of h1 h3 h5 (.cons () (.cons () (.nil ⟨EnvAll.of h2 ⟨rfl, rfl, trivial⟩, h4⟩)))
      · rintro Fr _ _
        refine SO.takeT rfl rfl rfl b2 ?_
        refine SO.v rfl (opv_move rfl) ?_
        exact SO.nilZ fun a w h1 h2 h3 h4 h5 => PZ.of h1 h3 h5 (.cons () (.cons () (.cons () (.nil ⟨EnvAll.of h2 ⟨rfl, rfl, rfl, trivial⟩, h4⟩))))
      · rintro Fr _ _
        refine SO.takeT rfl rfl rfl b2 ?_
        refine SO.v rfl (opv_nilCheck rfl) ?_
        exact SO.nilZ fun a w h1 h2 h3 h4 h5 => PZ.of h1 h3 h5 (.cons () (.cons () (.cons () (.nil ⟨EnvAll.of h2 ⟨rfl, rfl, rfl, trivial⟩, h4⟩))))
      · rintro Fr _ _
        refine SO.takeT rfl rfl rfl b2 ?_
        refine SO.v rfl (opv_fieldAddr Try.underlying64 rfl Try.sizeOf3 rfl rfl) ?_
        exact SO.nilZ fun a w h1 h2 h3 h4 h5 => PZ.of h1 h3 h5 (.cons () (.cons () (.cons () (.nil ⟨EnvAll.of h2 ⟨rfl, rfl, rfl, trivial⟩, h4⟩))))
      · rintro Fr _ _ _
        refine SO.takeT rfl rfl rfl b2 ?_
        refine SO.load1 rfl Try.isAgg3 rfl rfl ?_
        exact SO.nilZ fun a w h1 h2 h3 h4 h5 => PZ.of h1 h3 h5 (.cons () (.cons () (.cons () (.cons () (.nil ⟨EnvAll.of h2 ⟨rfl, rfl, rfl, trivial⟩, h4⟩)))))
      · rintro Fr _ _
        refine SO.takeT rfl rfl rfl b2 ?_
        refine SO.v rfl (opv_move rfl) ?_
        exact SO.nilZ fun a w h1 h2 h3 h4 h5 => PZ.of h1 h3 h5 (.cons () (.cons () (.cons () (.nil ⟨EnvAll.of h2 ⟨rfl, rfl, rfl, trivial⟩, h4⟩))))
      · rintro Fr _ _
        refine SO.takeT rfl rfl rfl b2 ?_
        refine SO.v rfl (opv_nilCheck rfl) ?_
        exact SO.nilZ fun a w h1 h2 h3 h4 h5 => PZ.of h1 h3 h5 (.cons () (.cons () (.cons () (.nil ⟨EnvAll.of h2 ⟨rfl, rfl, rfl, trivial⟩, h4⟩))))
      · rintro Fr _ _
        refine SO.takeT rfl rfl rfl b2 ?_
        refine SO.v rfl (opv_fieldAddr Try.underlying64 rfl Try.sizeOf37 rfl rfl) ?_
        exact SO.nilZ fun a w h1 h2 h3 h4 h5 => PZ.of h1 h3 h5 (.cons () (.cons () (.cons () (.nil ⟨EnvAll.of h2 ⟨rfl, rfl, rfl, trivial⟩, h4⟩))))
      · rintro Fr _ _ _
        refine SO.takeT rfl rfl rfl b2 ?_
        refine SO.load1 rfl Try.isAgg37 rfl rfl ?_
        exact SO.nilZ fun a w h1 h2 h3 h4 h5 => PZ.of h1 h3 h5 (.cons () (.cons () (.cons () (.cons () (.nil ⟨EnvAll.of h2 ⟨rfl, rfl, rfl, trivial⟩, h4⟩)))))
      · rintro Fr _ _ _
        refine SO.takeT rfl rfl rfl b2 ?_
        refine SO.v rfl (opv_lenR rfl Try.underlying37 hr1 rfl) ?_
        exact SO.nilZ fun a w h1 h2 h3 h4 h5 => PZ.of h1 h3 h5 (.cons () (.cons () (.cons () (.cons () (.nil ⟨EnvAll.of h2 ⟨rfl, rfl, rfl, trivial⟩, h4⟩)))))
      · rintro Fr _ _ _
        refine SO.takeT rfl rfl rfl b2 ?_
        refine SO.v rfl (opv_eql rfl rfl) ?_
        exact SO.nilZ fun a w h1 h2 h3 h4 h5 => PZ.of h1 h3 h5 (.cons () (.cons () (.cons () (.cons () (.nil ⟨EnvAll.of h2 ⟨rfl, rfl, rfl, rfl, trivial⟩, h4⟩)))))
      · rintro Fr _ _
        refine SO.v rfl (opv_pick_t' b2 rfl rfl) ?_
        exact SO.nilZ fun a w h1 h2 h3 h4 h5 => PZ.of h1 h3 h5 (.cons () (.cons () (.cons () (.nil ⟨EnvAll.of h2 ⟨rfl, rfl, rfl, trivial⟩, h4⟩))))
      · rintro Fr _
        refine SO.v rfl (opv_assign rfl) ?_
        exact SO.nilZ fun a w h1 h2 h3 h4 h5 => PZ.of h1 h3 h5 (.cons () (.cons () (.nil ⟨EnvAll.of h2 ⟨rfl, rfl, trivial⟩, h4⟩)))
      rintro _ _ _ _
      refine S.to (ρ' := [(2, .bool (a0.at_ == (a0.l.length : Int)))]) ⟨rfl, trivial⟩ ?_
      cases h
      refine S.b2 ?_
      refine S.b2 ?_
      refine S.b2 ?_
      refine S.to ?_ (hk1 () trivial)
      exact ⟨rfl, trivial⟩
    replace h := cond_f b2 h
    refine S.draw2 (Y := fun Q => ∃ (_ _ _ _ : Unit), Q [(0, bp bp0 0)] [Own 53 ek_tx_Entry v0_l a0.l, Box bp0 [.int .i64 a0.mark, v0_l, .int .i64 a0.status, .int .i64 a0.at_], F]) (Z := fun Q => ∀ (_ _ _ _ : Unit), Q [(2, .bool false)] [Own 53 ek_tx_Entry v0_l a0.l, Box bp0 [.int .i64 a0.mark, v0_l, .int .i64 a0.status, .int .i64 a0.at_], F]) (T := [tS 0 (bp bp0 0), tR (Own 53 ek_tx_Entry v0_l a0.l), tR (Box bp0 [.int .i64 a0.mark, v0_l, .int .i64 a0.status, .int .i64 a0.at_]), tR (F), tS 3 (bp bp0 0), tS 4 (bp bp0 0), tS 5 (bp bp0 2), tS 6 (.int .i64 a0.status), tS 7 (.bool (a0.status != 0)), tS 8 (.bool (a0.status != 0)), tS 9 (undef), tS 10 (undef), tS 11 (undef), tS 12 (undef), tS 13 (undef), tS 14 (undef), tS 15 (undef), tS 16 (undef), tS 17 (undef), tS 18 (undef), tS 19 (.bool false), tS 2 (.bool false)]) (D := [⟨[0], [], [4]⟩, ⟨[4], [], [5]⟩, ⟨[5], [], [6]⟩, ⟨[6, 2], [], [7]⟩, ⟨[7], [], [8]⟩, ⟨[8], [], [9]⟩, ⟨[9], [], [10]⟩, ⟨[9], [], [11]⟩, ⟨[9], [], [12]⟩, ⟨[9], [], [13]⟩, ⟨[9], [], [14]⟩, ⟨[9], [], [15]⟩, ⟨[9], [], [16]⟩, ⟨[9], [], [17]⟩, ⟨[9], [], [18]⟩, ⟨[9], [], [19]⟩, ⟨[9, 19], [], [20]⟩, ⟨[20], [], [21]⟩]) (ini := [0, 1, 2, 3]) (fin := [21, 1, 2, 3]) (bf := [[], [0], [0, 1], [0, 1, 2], [0, 1, 2, 3], [0, 1, 2, 3, 4], [0, 1, 2, 3, 4, 5], [0, 1, 2, 3, 4, 5, 6], [0, 1, 2, 3, 4, 5, 6, 7], [0, 1, 2, 3, 4, 5, 6, 7, 8], [0, 1, 2, 3, 4, 5], [0, 1, 2, 3, 4, 5, 10], [0, 1, 2, 3, 4, 5, 10, 11], [0, 1, 2, 3, 4, 5, 10, 11, 12], [0, 1, 2, 3, 4, 5, 10, 11, 12, 13], [0, 1, 2, 3, 4, 5, 6, 7, 8, 9, 10, 11, 12, 13, 14], [0, 1, 2, 3, 4, 5, 6, 7, 8, 9, 10, 11, 12, 13, 14, 15], [0, 1, 2, 3, 4, 5, 6, 7, 8, 9, 10, 11, 12, 13, 14, 15, 16]]) (by kernel_rfl) (by kernel_rfl) (fun Q => by kernel_rfl) (fun x w h1 h2 => ⟨(), (), (), (), EnvAll.of h1 ⟨rfl, trivial⟩, h2⟩) (fun Q => by kernel_rfl) ⟨?_, ?_, ?_, ?_, ?_, ?_, ?_, ?_, ?_, ?_, ?_, ?_, ?_, ?_, ?_, ?_, ?_, ?_, trivial⟩ ?_
    · rintro Fr _
      refine SO.v rfl (opv_move rfl) ?_
      exact SO.nilZ fun a w h1 h2 h3 h4 h5 => PZ.of h1 h3 h5 (.cons () (.cons () (.nil ⟨EnvAll.of h2 ⟨rfl, rfl, trivial⟩, h4⟩)))
    · rintro Fr _
      refine SO.v rfl (opv_nilCheck rfl) ?_
      exact SO.nilZ fun a w h1 h2 h3 h4 h5 => PZ.of h1 h3 h5 (.cons () (.cons () (.nil ⟨EnvAll.of h2 ⟨rfl, rfl, trivial⟩, h4⟩)))
    · rintro Fr _
      refine SO.v rfl (opv_fieldAddr Try.underlying64 rfl Try.sizeOf3 rfl rfl) ?_
      exact SO.nilZ fun a w h1 h2 h3 h4 h5 => PZ.of h1 h3 h5 (.cons () (.cons () (.nil ⟨EnvAll.of h2 ⟨rfl, rfl, trivial⟩, h4⟩)))
    · rintro Fr _ _
      refine SO.load1 rfl Try.isAgg3 rfl rfl ?_
      exact SO.nilZ fun a w h1 h2 h3 h4 h5 => PZ.of h1 h3 h5 (.cons () (.cons () (.cons () (.nil ⟨EnvAll.of h2 ⟨rfl, rfl, trivial⟩, h4⟩))))
    · rintro Fr _
      refine SO.v rfl (opv_neq rfl rfl) ?_
      exact SO.nilZ fun a w h1 h2 h3 h4 h5 => PZ.of h1 h3 h5 (.cons () (.cons () (.nil ⟨EnvAll.of h2 ⟨rfl, rfl, trivial⟩, h4⟩)))
    · rintro Fr _
      refine SO.v rfl (opv_move rfl) ?_
      exact SO.nilZ fun a w h1 h2 h3 h4 h5 => PZ.of h1 h3 h5 (.cons () (.cons () (.nil ⟨EnvAll.of h2 ⟨rfl, rfl, trivial⟩, h4⟩)))
    · rintro Fr _
      refine SO.passF rfl rfl rfl b2 rfl rfl ?_
      exact SO.nilZ fun a w h1 h2 h3 h4 h5 => PZ.of h1 h3 h5 (.cons () (.cons () (.nil ⟨EnvAll.of h2 ⟨rfl, rfl, trivial⟩, h4⟩)))
    · rintro Fr _
      refine SO.passF rfl rfl rfl b2 rfl rfl ?_
      exact SO.nilZ fun a w h1 h2 h3 h4 h5 => PZ.of h1 h3 h5 (.cons () (.cons () (.nil ⟨EnvAll.of h2 ⟨rfl, rfl, trivial⟩, h4⟩)))
    · rintro Fr _
      refine SO.passF rfl rfl rfl b2 rfl rfl ?_
      exact SO.nilZ fun a w h1 h2 h3 h4 h5 => PZ.of h1 h3 h5 (.cons () (.cons () (.nil ⟨EnvAll.of h2 ⟨rfl, rfl, trivial⟩, h4⟩)))
    · rintro Fr _
      refine SO.passF rfl rfl rfl b2 rfl rfl ?_
      exact SO.nilZ fun a w h1 h2 h3 h4 h5 => PZ.of h1 h3 h5 (.cons () (.cons () (.nil ⟨EnvAll.of h2 ⟨rfl, rfl, trivial⟩, h4⟩)))
    · rintro Fr _
      refine SO.passF rfl rfl rfl b2 rfl rfl ?_
      exact SO.nilZ fun a w h1 h2 h3 h4 h5 => PZ.of h1 h3 h5 (.cons () (.cons () (.nil ⟨EnvAll.of h2 ⟨rfl, rfl, trivial⟩, h4⟩)))
    · rintro Fr _
      refine SO.passF rfl rfl rfl b2 rfl rfl ?_
      exact SO.nilZ fun a w h1 h2 h3 h4 h5 => PZ.of h1 h3 h5 (.cons () (.cons () (.nil ⟨EnvAll.of h2 ⟨rfl, rfl, trivial⟩, h4⟩)))
    · rintro Fr _
      refine SO.passF rfl rfl rfl b2 rfl rfl ?_
      exact SO.nilZ fun a w h1 h2 h3 h4 h5 => PZ.of h1 h3 h5 (.cons () (.cons () (.nil ⟨EnvAll.of h2 ⟨rfl, rfl, trivial⟩, h4⟩)))
    · rintro Fr _
      refine SO.passF rfl rfl rfl b2 rfl rfl ?_
      exact SO.nilZ fun a w h1 h2 h3 h4 h5 => PZ.of h1 h3 h5 (.cons () (.cons () (.nil ⟨EnvAll.of h2 ⟨rfl, rfl, trivial⟩, h4⟩)))
    · rintro Fr _
      refine SO.passF rfl rfl rfl b2 rfl rfl ?_
      exact SO.nilZ fun a w h1 h2 h3 h4 h5 => PZ.of h1 h3 h5 (.cons () (.cons () (.nil ⟨EnvAll.of h2 ⟨rfl, rfl, trivial⟩, h4⟩)))
    · rintro Fr _
      refine SO.passF rfl rfl rfl b2 rfl rfl ?_
      exact SO.nilZ fun a w h1 h2 h3 h4 h5 => PZ.of h1 h3 h5 (.cons () (.cons () (.nil ⟨EnvAll.of h2 ⟨rfl, rfl, trivial⟩, h4⟩)))
    · rintro Fr _ _
      refine SO.v rfl (opv_pick_f' b2 rfl rfl) ?_
      exact SO.nilZ fun a w h1 h2 h3 h4 h5 => PZ.of h1 h3 h5 (.cons () (.cons () (.cons () (.nil ⟨EnvAll.of h2 ⟨rfl, rfl, rfl, trivial⟩, h4⟩))))
    · rintro Fr _
      refine SO.v rfl (opv_assign rfl) ?_
      exact SO.nilZ fun a w h1 h2 h3 h4 h5 => PZ.of h1 h3 h5 (.cons () (.cons () (.nil ⟨EnvAll.of h2 ⟨rfl, rfl, trivial⟩, h4⟩)))
    rintro _ _ _ _
    refine S.to (ρ' := [(2, .bool false)]) ⟨rfl, trivial⟩ ?_
    cases h
    refine S.b2 ?_
    refine S.b2 ?_
    refine S.b2 ?_
    refine S.to ?_ (hk1 () trivial)
    exact ⟨rfl, trivial⟩
  rintro _ -
  replace h := hJ1
  cases h
  refine S.b2 ?_
  refine S.b1 ?_
  refine S.b2 ?_
  exact S.ret1 Try.func12 rfl rfl (fun w hs hk => hR w _ _ ⟨rfl, rfl⟩ hs hk)
end Go.Proofs
namespace Go.Proofs
open Go.Sl Go.RowKit
/-! 11 (*padstone/desc.Desc).Status -/
def desc_Desc_Status.f (a0 : desc_Desc) : Option (Int) :=
  some a0.status
set_option maxHeartbeats 8000000 in
set_option maxRecDepth 100000 in
theorem desc_Desc_Status.ct (bp0 : Nat) (v0_l : Value) (a0 : desc_Desc) (r0 : Int) (h : desc_Desc_Status.f a0 = some r0) :
    Ct Try.prog 11 [bp bp0 0] (fun _ => True) [Box bp0 [.int .i64 a0.mark, v0_l, .int .i64 a0.status, .int .i64 a0.at_], Own 53 ek_tx_Entry v0_l a0.l] (fun u H' => u = .int .i64 r0 ∧ H' = [Box bp0 [.int .i64 a0.mark, v0_l, .int .i64 a0.status, .int .i64 a0.at_], Own 53 ek_tx_Entry v0_l a0.l]) := by
  unfold desc_Desc_Status.f at h
  refine Ct.intro (n := 7) Try.func11 rfl rfl rfl ?_
  intro R w0 F hF hR
  refine S.b1 ?_
  refine S.rd fun hr1 => ?_
  refine S.seq ?_
  refine S.region ?_
  refine SO.v rfl (opv_assign rfl) ?_
  refine SO.nil ?_
  refine S.seq ?_
  refine S.region ?_
  refine SO.v rfl (opv_move rfl) ?_
  refine SO.v rfl (opv_nilCheck rfl) ?_
  refine SO.v rfl (opv_fieldAddr Try.underlying64 rfl Try.sizeOf3 rfl rfl) ?_
  refine SO.b1 ?_
  refine SO.load1 rfl Try.isAgg3 rfl rfl ?_
  refine SO.v rfl (opv_assign rfl) ?_
  refine SO.nil ?_
  cases h
  refine S.b2 ?_
  refine S.b2 ?_
  refine S.b2 ?_
  exact S.ret1 Try.func11 rfl rfl (fun w hs hk => hR w _ _ ⟨rfl, rfl⟩ hs hk)
end Go.Proofs
namespace Go.Proofs
open Go.Sl Go.RowKit
/-! 25 (*padstone/word.Store).has -/
def word_Store_has.f (a0 : word_Store) (a1 : Int) : Option (Bool) :=
  (bif decide (0 ≤ a1) then (some (decide (a1 < (a0.l.length : Int)))) else (some false)).bind fun c3 => some c3
set_option maxHeartbeats 8000000 in
set_option maxRecDepth 100000 in
theorem word_Store_has.ct (bp0 : Nat) (v0_l : Value) (a0 : word_Store) (a1 : Int) (r0 : Bool) (h : word_Store_has.f a0 a1 = some r0) :
    Ct Try.prog 25 [bp bp0 0, .int .i64 a1] (fun _ => True) [Box bp0 [v0_l, .int .u32 a0.limit], Own 55 ek_api_Cell v0_l a0.l] (fun u H' => u = .bool r0 ∧ H' = [Box bp0 [v0_l, .int .u32 a0.limit], Own 55 ek_api_Cell v0_l a0.l]) := by
  unfold word_Store_has.f at h
  refine Ct.intro (n := 16) Try.func25 rfl rfl rfl ?_
  intro R w0 F hF hR
  refine S.b1 ?_
  refine S.rd fun hr1 => ?_
  refine S.seq ?_
  refine S.region ?_
  refine SO.v rfl (opv_assign rfl) ?_
  refine SO.nil ?_
  refine S.seq ?_
  refine S.region ?_
  refine SO.v rfl (opv_move rfl) ?_
  refine SO.v rfl (opv_geq rfl rfl) ?_
  refine SO.v rfl (opv_move rfl) ?_
  obtain ⟨c3, hc4, hgk⟩ := opt_bind h
  refine SO.cut 8 15 (.bool c3) [Own 55 ek_api_Cell v0_l a0.l, Box bp0 [v0_l, .int .u32 a0.limit], F] (fun l2 hk2 => ?_) ?_
  · clear hgk
    replace h := hc4
    rcases bool_or (decide (0 ≤ a1)) with b2 | b2
    · replace h := cond_t b2 h
      refine SO.takeT rfl rfl rfl b2 ?_
      refine SO.v rfl (opv_move rfl) ?_
      refine SO.takeT rfl rfl rfl b2 ?_
      refine SO.v rfl (opv_move rfl) ?_
      refine SO.takeT rfl rfl rfl b2 ?_
      refine SO.v rfl (opv_nilCheck rfl) ?_
      refine SO.takeT rfl rfl rfl b2 ?_
      refine SO.v rfl (opv_fieldAddr Try.underlying61 rfl Try.sizeOf32 rfl rfl) ?_
      refine SO.takeT rfl rfl rfl b2 ?_
      refine SO.b1 ?_
      refine SO.load1 rfl Try.isAgg32 rfl rfl ?_
      refine SO.takeT rfl rfl rfl b2 ?_
      refine SO.v rfl (opv_lenR rfl Try.underlying32 hr1 rfl) ?_
      refine SO.takeT rfl rfl rfl b2 ?_
      refine SO.v rfl (opv_lss rfl rfl) ?_
      cases h
      refine SO.v rfl (opv_pick_t' b2 rfl rfl) ?_
      refine SO.b2 ?_
      refine SO.b1 ?_
      refine SO.b2 ?_
      exact hk2.fitc (m := 8) rfl (rfl) rfl
    replace h := cond_f b2 h
    refine SO.passF rfl rfl rfl b2 rfl rfl ?_
    refine SO.passF rfl rfl rfl b2 rfl rfl ?_
    refine SO.passF rfl rfl rfl b2 rfl rfl ?_
    refine SO.passF rfl rfl rfl b2 rfl rfl ?_
    refine SO.passF rfl rfl rfl b2 rfl rfl ?_
    refine SO.passF rfl rfl rfl b2 rfl rfl ?_
    refine SO.passF rfl rfl rfl b2 rfl rfl ?_
    cases h
    refine SO.v rfl (opv_pick_f' b2 rfl rfl) ?_
    refine SO.b2 ?_
    refine SO.b2 ?_
    refine SO.b2 ?_
    exact hk2.fitc (m := 8) rfl (rfl) rfl
  clear hc4
  replace h := hgk
  refine SO.v rfl (opv_assign rfl) ?_
  refine SO.nil ?_
  cases h
  refine S.b2 ?_
  refine S.b1 ?_
  refine S.b2 ?_
  exact S.ret1 Try.func25 rfl rfl (fun w hs hk => hR w _ _ ⟨rfl, rfl⟩ hs hk)
end Go.Proofs
namespace Go.Proofs
open Go.Sl Go.RowKit
/-! 33 (*padstone/word.Store).own -/
def word_Store_own.f (a0 : word_Store) (a1 : Int) (a2 : Int) : Option ((Option Int)) :=
  (word_Store_has.f a0 a1).bind fun t2 => bif !t2 then (some (some 2)) else ((bif decide (a2 < 1) then (some true) else ((at_ a0.l a1).bind fun x8 => some (x8.Mark != a2))).bind fun c6 => bif c6 then (some (some 12)) else (some none))
set_option maxHeartbeats 8000000 in
set_option maxRecDepth 100000 in
theorem word_Store_own.ct (bp0 : Nat) (v0_l : Value) (a0 : word_Store) (a1 : Int) (a2 : Int) (r0 : Option Int) (h : word_Store_own.f a0 a1 a2 = some r0) :
    Ct Try.prog 33 [bp bp0 0, .int .i64 a1, .int .i64 a2] (fun _ => True) [Box bp0 [v0_l, .int .u32 a0.limit], Own 55 ek_api_Cell v0_l a0.l] (fun u H' => u = errV 59 r0 ∧ H' = [Box bp0 [v0_l, .int .u32 a0.limit], Own 55 ek_api_Cell v0_l a0.l]) := by
  unfold word_Store_own.f at h
  refine Ct.intro (n := 29) Try.func33 rfl rfl rfl ?_
  intro R w0 F hF hR
  refine S.b1 ?_
  refine S.rd fun hr1 => ?_
  refine S.seq ?_
  refine S.region ?_
  refine SO.v rfl (opv_assign rfl) ?_
  refine SO.nil ?_
  refine S.seq ?_
  refine S.block ?_
  refine S.seq ?_
  refine S.region ?_
  refine SO.v rfl (opv_move rfl) ?_
  refine SO.v rfl (opv_move rfl) ?_
  obtain ⟨t2, ht3, h⟩ := opt_bind h
  refine SO.b1 ?_
  refine SO.call (pre := [Box _ _, Own _ _ _ _]) rfl Try.call25 rfl rfl rfl (word_Store_has.ct bp0 v0_l _ _ _ ht3) trivial ?_
  rintro _ _ ⟨rfl, rfl⟩
  refine SO.v rfl (opv_not rfl) ?_
  refine SO.v rfl (opv_assign rfl) ?_
  refine SO.nil ?_
  rcases bool_or (!t2) with b4 | b4
  · replace h := cond_t b4 h
    refine S.condT rfl b4 ?_
    refine S.seq ?_
    refine S.region ?_
    refine SO.v rfl (opv_iface Try.underlying59 rfl rfl) ?_
    refine SO.v rfl (opv_assign rfl) ?_
    refine SO.nil ?_
    refine S.to (ρ' := [(6, errV 59 (some 2))]) ⟨rfl, trivial⟩ ?_
    cases h
    refine S.b2 ?_
    refine S.b2 ?_
    refine S.b2 ?_
    exact S.ret1 Try.func33 rfl rfl (fun w hs hk => hR w _ _ ⟨rfl, rfl⟩ hs hk)
  replace h := cond_f b4 h
  refine S.condF rfl b4 ?_
  refine S.seq ?_
  refine S.region ?_
  refine SO.v rfl (opv_move rfl) ?_
  refine SO.v rfl (opv_lss rfl rfl) ?_
  refine SO.v rfl (opv_move rfl) ?_
  obtain ⟨c6, hc7, hgk⟩ := opt_bind h
  refine SO.cut 11 27 (.bool c6) [Box bp0 [v0_l, .int .u32 a0.limit], Own 55 ek_api_Cell v0_l a0.l, F] (fun l2 hk2 => ?_) ?_
  · clear hgk
    replace h := hc7
    rcases bool_or (decide (a2 < 1)) with b5 | b5
    · replace h := cond_t b5 h
      refine SO.passF rfl rfl rfl b5 rfl rfl ?_
      refine SO.passF rfl rfl rfl b5 rfl rfl ?_
      refine SO.passF rfl rfl rfl b5 rfl rfl ?_
      refine SO.passF rfl rfl rfl b5 rfl rfl ?_
      refine SO.passF rfl rfl rfl b5 rfl rfl ?_
      refine SO.passF rfl rfl rfl b5 rfl rfl ?_
      refine SO.passF rfl rfl rfl b5 rfl rfl ?_
      refine SO.passF rfl rfl rfl b5 rfl rfl ?_
      refine SO.passF rfl rfl rfl b5 rfl rfl ?_
      refine SO.passF rfl rfl rfl b5 rfl rfl ?_
      cases h
      refine SO.v rfl (opv_pick_t' b5 rfl rfl) ?_
      refine SO.b2 ?_
      refine SO.b2 ?_
      refine SO.b2 ?_
      exact hk2.fitc (m := 11) rfl (rfl) rfl
    replace h := cond_f b5 h
    refine SO.takeT rfl rfl rfl b5 ?_
    refine SO.v rfl (opv_move rfl) ?_
    refine SO.takeT rfl rfl rfl b5 ?_
    refine SO.v rfl (opv_nilCheck rfl) ?_
    refine SO.takeT rfl rfl rfl b5 ?_
    refine SO.v rfl (opv_fieldAddr Try.underlying61 rfl Try.sizeOf32 rfl rfl) ?_
    refine SO.takeT rfl rfl rfl b5 ?_
    refine SO.load1 rfl Try.isAgg32 rfl rfl ?_
    refine SO.takeT rfl rfl rfl b5 ?_
    refine SO.v rfl (opv_move rfl) ?_
    refine SO.takeT rfl rfl rfl b5 ?_
    obtain ⟨x8, hx9, h⟩ := opt_bind h
    refine SO.v rfl (opv_idx Try.underlying32 Try.sizeOf55 hr1 rfl rfl hx9) ?_
    refine SO.takeT rfl rfl rfl b5 ?_
    refine SO.v rfl (opv_fieldIdx Try.underlying55 rfl Try.sizeOf3 hr1 hx9 rfl rfl) ?_
    refine SO.takeT rfl rfl rfl b5 ?_
    refine SO.loadI1 (j := 2) rfl Try.isAgg3 (Rd.tail (Rd.head hr1)) hx9 rfl rfl rfl rfl ?_
    refine SO.takeT rfl rfl rfl b5 ?_
    refine SO.v rfl (opv_move rfl) ?_
    refine SO.takeT rfl rfl rfl b5 ?_
    refine SO.v rfl (opv_neq rfl rfl) ?_
    cases h
    refine SO.v rfl (opv_pick_f' b5 rfl rfl) ?_
    refine SO.b2 ?_
    refine SO.b2 ?_
    refine SO.b2 ?_
    exact hk2.fitc (m := 11) rfl (rfl) rfl
  clear hc7
  replace h := hgk
  refine SO.v rfl (opv_assign rfl) ?_
  refine SO.nil ?_
  refine S.to (ρ' := [(6, errV 59 none), (13, .bool c6)]) ⟨rfl, rfl, trivial⟩ ?_
  rcases bool_or c6 with b10 | b10
  · replace h := cond_t b10 h
    refine S.condT rfl b10 ?_
    refine S.seq ?_
    refine S.region ?_
    refine SO.v rfl (opv_iface Try.underlying59 rfl rfl) ?_
    refine SO.v rfl (opv_assign rfl) ?_
    refine SO.nil ?_
    cases h
    refine S.b2 ?_
    refine S.b2 ?_
    refine S.b2 ?_
    exact S.ret1 Try.func33 rfl rfl (fun w hs hk => hR w _ _ ⟨rfl, rfl⟩ hs hk)
  replace h := cond_f b10 h
  refine S.condF rfl b10 ?_
  refine S.skip ?_
  refine S.inBlock ?_
  refine S.seq ?_
  refine S.region ?_
  refine SO.v rfl (opv_assign rfl) ?_
  refine SO.nil ?_
  cases h
  refine S.b2 ?_
  refine S.b2 ?_
  refine S.b2 ?_
  exact S.ret1 Try.func33 rfl rfl (fun w hs hk => hR w _ _ ⟨rfl, rfl⟩ hs hk)
end Go.Proofs
namespace Go.Proofs
open Go.Sl Go.RowKit
/-! 27 (*padstone/word.Store).Release -/
def word_Store_Release.f (a0 : word_Store) (a1 : Int) (a2 : Int) : Option (((Option Int) × word_Store)) :=
  (word_Store_own.f a0 a1 a2).bind fun t2 => bif t2.isSome then (some (t2, a0)) else ((at_ a0.l a1).bind fun x5 => some (none, (⟨a0.l.set a1.toNat ({ x5 with Mark := 0 } : api_Cell), a0.limit⟩ : word_Store)))
set_option maxHeartbeats 8000000 in
set_option maxRecDepth 100000 in
theorem word_Store_Release.ct (bp0 : Nat) (v0_l : Value) (a0 : word_Store) (a1 : Int) (a2 : Int) (r0 : Option Int) (rp0 : word_Store) (h : word_Store_Release.f a0 a1 a2 = some (r0, rp0)) :
    Ct Try.prog 27 [bp bp0 0, .int .i64 a1, .int .i64 a2] (fun _ => True) [Box bp0 [v0_l, .int .u32 a0.limit], Own 55 ek_api_Cell v0_l a0.l] (fun u H' => ∃ rw0_l, u = errV 59 r0 ∧ H' = [Box bp0 [rw0_l, .int .u32 rp0.limit], Own 55 ek_api_Cell rw0_l rp0.l]) := by
  unfold word_Store_Release.f at h
  refine Ct.intro (n := 22) Try.func27 rfl rfl rfl ?_
  intro R w0 F hF hR
  refine S.b1 ?_
  refine S.rd fun hr1 => ?_
  refine S.seq ?_
  refine S.region ?_
  refine SO.v rfl (opv_assign rfl) ?_
  refine SO.nil ?_
  refine S.seq ?_
  refine S.seq ?_
  refine S.region ?_
  refine SO.v rfl (opv_move rfl) ?_
  refine SO.v rfl (opv_move rfl) ?_
  refine SO.v rfl (opv_move rfl) ?_
  obtain ⟨t2, ht3, h⟩ := opt_bind h
  refine SO.b1 ?_
  refine SO.call (pre := [Box _ _, Own _ _ _ _]) rfl Try.call33 rfl rfl rfl (word_Store_own.ct bp0 v0_l _ _ _ _ ht3) trivial ?_
  rintro _ _ ⟨rfl, rfl⟩
  refine SO.v rfl (opv_assign rfl) ?_
  refine SO.nil ?_
  refine S.seq ?_
  refine S.region ?_
  refine SO.v rfl (opv_move rfl) ?_
  refine SO.v rfl (opv_neqN (e := t2) Try.underlying28 rfl) ?_
  refine SO.nil ?_
  rcases bool_or t2.isSome with b4 | b4
  · replace h := cond_t b4 h
    refine S.condT rfl b4 ?_
    refine S.seq ?_
    refine S.region ?_
    refine SO.v rfl (opv_move rfl) ?_
    refine SO.v rfl (opv_assign rfl) ?_
    refine SO.nil ?_
    refine S.to (ρ' := [(6, errV 59 t2)]) ⟨rfl, trivial⟩ ?_
    cases h
    refine S.b2 ?_
    refine S.b2 ?_
    refine S.b2 ?_
    exact S.ret1 Try.func27 rfl rfl (fun w hs hk => hR w _ _ ⟨v0_l, rfl, rfl⟩ hs hk)
  replace h := cond_f b4 h
  refine S.condF rfl b4 ?_
  refine S.skip ?_
  refine S.seq ?_
  refine S.region ?_
  refine SO.v rfl (opv_move rfl) ?_
  refine SO.v rfl (opv_nilCheck rfl) ?_
  refine SO.v rfl (opv_fieldAddr Try.underlying61 rfl Try.sizeOf32 rfl rfl) ?_
  refine SO.load1 rfl Try.isAgg32 rfl rfl ?_
  refine SO.v rfl (opv_move rfl) ?_
  obtain ⟨x5, hx6, h⟩ := opt_bind h
  refine SO.v rfl (opv_idx Try.underlying32 Try.sizeOf55 hr1 rfl rfl hx6) ?_
  refine SO.v rfl (opv_fieldIdx Try.underlying55 rfl Try.sizeOf3 hr1 hx6 rfl rfl) ?_
  refine SO.b1 ?_
  refine SO.storeI1 (j := 2) (z' := ({ x5 with Mark := 0 } : api_Cell)) Try.sizeOf3 hx6 rfl rfl rfl rfl rfl rfl ?_
  refine SO.rd fun hr7 => ?_
  refine SO.nil ?_
  refine S.to (ρ' := [(6, errV 59 none)]) ⟨rfl, trivial⟩ ?_
  refine S.seq ?_
  refine S.region ?_
  refine SO.v rfl (opv_assign rfl) ?_
  refine SO.nil ?_
  cases h
  refine S.b2 ?_
  refine S.b1 ?_
  refine S.b2 ?_
  exact S.ret1 Try.func27 rfl rfl (fun w hs hk => hR w _ _ ⟨v0_l, rfl, rfl⟩ hs hk)
end Go.Proofs
namespace Go.Proofs
open Go.Sl Go.RowKit
/-! 26 (*padstone/desc.Desc).release$1 -/
def desc_Desc_release_1.f (a0 : word_Store) (a1 : tx_Entry) (a2 : desc_Desc) : Option (((Option Int) × word_Store)) :=
  (word_Store_Release.f a0 a1.Cell a2.mark).bind fun (t3, p4) => some (t3, p4)
set_option maxHeartbeats 8000000 in
set_option maxRecDepth 100000 in
theorem desc_Desc_release_1.ct (bp0 : Nat) (bq0 : Nat) (v0_l : Value) (bp1 : Nat) (bp2 : Nat) (bq2 : Nat) (v2_l : Value) (a0 : word_Store) (a1 : tx_Entry) (a2 : desc_Desc) (r0 : Option Int) (rp0 : word_Store) (h : desc_Desc_release_1.f a0 a1 a2 = some (r0, rp0)) :
    Ct Try.prog 26 [bp bp0 0, bp bp1 0, bp bp2 0] (fun _ => True) [Box bp0 [bp bq0 0], Box bq0 [v0_l, .int .u32 a0.limit], Own 55 ek_api_Cell v0_l a0.l, Box bp1 [.int .i64 a1.Cell, .int .u32 a1.Version, .int .u64 a1.Old, .int .u64 a1.New, .bool a1.Write], Box bp2 [bp bq2 0], Box bq2 [.int .i64 a2.mark, v2_l, .int .i64 a2.status, .int .i64 a2.at_], Own 53 ek_tx_Entry v2_l a2.l] (fun u H' => ∃ rw0_l, u = errV 59 r0 ∧ H' = [Box bp0 [bp bq0 0], Box bq0 [rw0_l, .int .u32 rp0.limit], Own 55 ek_api_Cell rw0_l rp0.l, Box bp1 [.int .i64 a1.Cell, .int .u32 a1.Version, .int .u64 a1.Old, .int .u64 a1.New, .bool a1.Write], Box bp2 [bp bq2 0], Box bq2 [.int .i64 a2.mark, v2_l, .int .i64 a2.status, .int .i64 a2.at_], Own 53 ek_tx_Entry v2_l a2.l]) := by
  unfold desc_Desc_release_1.f at h
  refine Ct.intro (n := 12) Try.func26 rfl rfl rfl ?_
  intro R w0 F hF hR
  refine S.b2 ?_
  refine S.rd fun hr1 => ?_
  refine S.b6 ?_
  refine S.rd fun hr2 => ?_
  refine S.seq ?_
  refine S.region ?_
  refine SO.v rfl (opv_assign rfl) ?_
  refine SO.nil ?_
  refine S.seq ?_
  obtain ⟨⟨t3, p4⟩, ht5, h⟩ := opt_bind h
  refine S.draw2 (Y := fun Q => ∃ (_ _ _ _ _ _ _ _ _ _ _ : Unit), Q [(0, bp bp0 0), (1, bp bp1 0), (2, bp bp2 0)] [Own 53 ek_tx_Entry v2_l a2.l, Own 55 ek_api_Cell v0_l a0.l, Box bp0 [bp bq0 0], Box bq0 [v0_l, .int .u32 a0.limit], Box bp1 [.int .i64 a1.Cell, .int .u32 a1.Version, .int .u64 a1.Old, .int .u64 a1.New, .bool a1.Write], Box bp2 [bp bq2 0], Box bq2 [.int .i64 a2.mark, v2_l, .int .i64 a2.status, .int .i64 a2.at_], F]) (Z := fun Q => ∀ (_ : Unit) (u6_l : Value) (_ _ _ _ _ _ : Unit), Q [(3, errV 59 t3), (11, errV 59 t3)] [Own 55 ek_api_Cell u6_l p4.l, Box bq0 [u6_l, .int .u32 p4.limit], Own 53 ek_tx_Entry v2_l a2.l, Box bp0 [bp bq0 0], Box bp1 [.int .i64 a1.Cell, .int .u32 a1.Version, .int .u64 a1.Old, .int .u64 a1.New, .bool a1.Write], Box bp2 [bp bq2 0], Box bq2 [.int .i64 a2.mark, v2_l, .int .i64 a2.status, .int .i64 a2.at_], F]) (T := [tS 0 (bp bp0 0), tS 1 (bp bp1 0), tS 2 (bp bp2 0), tR (Own 53 ek_tx_Entry v2_l a2.l), tR (Own 55 ek_api_Cell v0_l a0.l), tR (Box bp0 [bp bq0 0]), tR (Box bq0 [v0_l, .int .u32 a0.limit]), tR (Box bp1 [.int .i64 a1.Cell, .int .u32 a1.Version, .int .u64 a1.Old, .int .u64 a1.New, .bool a1.Write]), tR (Box bp2 [bp bq2 0]), tR (Box bq2 [.int .i64 a2.mark, v2_l, .int .i64 a2.status, .int .i64 a2.at_]), tR (F), tS 4 (bp bq0 0), tS 5 (bp bp1 0), tS 6 (.int .i64 a1.Cell), tS 7 (bp bq2 0), tS 8 (bp bq2 0), tS 9 (bp bq2 0), tS 10 (.int .i64 a2.mark), ⟨Value, [11], (fun u6_l => [(11, errV 59 t3)]), (fun u6_l => [Own 55 ek_api_Cell u6_l p4.l, Box bq0 [u6_l, .int .u32 p4.limit]]), fun _ => rfl⟩, tS 3 (errV 59 t3)]) (D := [⟨[0, 5], [], [11]⟩, ⟨[1], [], [12]⟩, ⟨[12, 7], [], [13]⟩, ⟨[2, 8], [], [14]⟩, ⟨[14], [], [15]⟩, ⟨[15], [], [16]⟩, ⟨[16, 9], [], [17]⟩, ⟨[11, 13, 17], [6, 4], [18]⟩, ⟨[18], [], [19]⟩]) (ini := [0, 1, 2, 3, 4, 5, 6, 7, 8, 9, 10]) (fin := [19, 18, 3, 5, 7, 8, 9, 10]) (bf := [[], [], [1], [], [3], [3, 4], [3, 4, 5], [0, 1, 2, 3, 4, 5, 6], [0, 1, 2, 3, 4, 5, 6, 7]]) (by kernel_rfl) (by kernel_rfl) (fun Q => by kernel_rfl) (fun x w h1 h2 => ⟨(), (), (), (), (), (), (), (), (), (), (), EnvAll.of h1 ⟨rfl, rfl, rfl, trivial⟩, h2⟩) (fun Q => by kernel_rfl) ⟨?_, ?_, ?_, ?_, ?_, ?_, ?_, ?_, ?_, trivial⟩ ?_
  · rintro Fr _ _
    refine SO.load1 rfl Try.isAgg26 rfl rfl ?_
    exact SO.nilZ fun a w h1 h2 h3 h4 h5 => PZ.of h1 h3 h5 (.cons () (.cons () (.cons () (.nil ⟨EnvAll.of h2 ⟨rfl, rfl, trivial⟩, h4⟩))))
  · rintro Fr _
    refine SO.v rfl (opv_fieldAddr Try.underlying53 rfl Try.sizeOf3 rfl rfl) ?_
    exact SO.nilZ fun a w h1 h2 h3 h4 h5 => PZ.of h1 h3 h5 (.cons () (.cons () (.nil ⟨EnvAll.of h2 ⟨rfl, rfl, trivial⟩, h4⟩)))
  · rintro Fr _ _
    refine SO.load1 rfl Try.isAgg3 rfl rfl ?_
    exact SO.nilZ fun a w h1 h2 h3 h4 h5 => PZ.of h1 h3 h5 (.cons () (.cons () (.cons () (.nil ⟨EnvAll.of h2 ⟨rfl, rfl, trivial⟩, h4⟩))))
  · rintro Fr _ _
    refine SO.load1 rfl Try.isAgg38 rfl rfl ?_
    exact SO.nilZ fun a w h1 h2 h3 h4 h5 => PZ.of h1 h3 h5 (.cons () (.cons () (.cons () (.nil ⟨EnvAll.of h2 ⟨rfl, rfl, trivial⟩, h4⟩))))
  · rintro Fr _
    refine SO.v rfl (opv_nilCheck rfl) ?_
    exact SO.nilZ fun a w h1 h2 h3 h4 h5 => PZ.of h1 h3 h5 (.cons () (.cons () (.nil ⟨EnvAll.of h2 ⟨rfl, rfl, trivial⟩, h4⟩)))
  · rintro Fr _
    refine SO.v rfl (opv_fieldAddr Try.underlying64 rfl Try.sizeOf3 rfl rfl) ?_
    exact SO.nilZ fun a w h1 h2 h3 h4 h5 => PZ.of h1 h3 h5 (.cons () (.cons () (.nil ⟨EnvAll.of h2 ⟨rfl, rfl, trivial⟩, h4⟩)))
  · rintro Fr _ _
    refine SO.load1 rfl Try.isAgg3 rfl rfl ?_
    exact SO.nilZ fun a w h1 h2 h3 h4 h5 => PZ.of h1 h3 h5 (.cons () (.cons () (.cons () (.nil ⟨EnvAll.of h2 ⟨rfl, rfl, trivial⟩, h4⟩))))
  · refine spec2 (X := fun Q => ∀ (_ _ _ _ _ : Unit), Q [(4, bp bq0 0), (6, .int .i64 a1.Cell), (10, .int .i64 a2.mark)] [Box bq0 [v0_l, .int .u32 a0.limit], Own 55 ek_api_Cell v0_l a0.l]) (fun Q => by kernel_rfl) ?_
    rintro Fr _ _ _ _ _
    refine SO.b1 ?_
    refine SO.b1 ?_
    refine SO.call (pre := [Box _ _, Own _ _ _ _]) rfl Try.call27 rfl rfl rfl (word_Store_Release.ct bq0 v0_l _ _ _ _ _ ht5) trivial ?_
    rintro _ _ ⟨u6_l, rfl, rfl⟩
    refine SO.b1 ?_
    refine SO.rd fun hr7 => ?_
    refine SO.b1 ?_
    refine SO.b1 ?_
    exact SO.nilZ fun a w h1 h2 h3 h4 h5 => PZ.of h1 h3 h5 (.cons () (.cons () (.cons () (.cons u6_l (.nil ⟨EnvAll.of h2 ⟨rfl, rfl, rfl, rfl, trivial⟩, h4⟩)))))
  · rintro Fr u6_l
    refine SO.rd fun hr8 => ?_
    refine SO.v rfl (opv_assign rfl) ?_
    refine SO.b1 ?_
    refine SO.b1 ?_
    exact SO.nilZ fun a w h1 h2 h3 h4 h5 => PZ.of h1 h3 h5 (.cons u6_l (.cons () (.nil ⟨EnvAll.of h2 ⟨rfl, rfl, trivial⟩, h4⟩)))
  rintro _ u6_l _ _ _ _ _ _
  refine S.to (ρ' := [(3, errV 59 t3)]) ⟨rfl, trivial⟩ ?_
  refine S.rd fun hr9 => ?_
  cases h
  refine S.b7 ?_
  refine S.b3 ?_
  refine S.b7 ?_
  refine S.b7 ?_
  refine S.b7 ?_
  refine S.b5 ?_
  refine S.b6 ?_
  refine S.b7 ?_
  exact S.ret1 Try.func26 rfl rfl (fun w hs hk => hR w _ _ ⟨u6_l, rfl, rfl⟩ hs hk)
end Go.Proofs
namespace Go.Proofs
open Go.Sl Go.RowKit
/-! 29 (*padstone/word.Store).Put -/
def word_Store_Put.f (a0 : word_Store) (a1 : Int) (a2 : Int) (a3 : Int) : Option (((Option Int) × word_Store)) :=
  (word_Store_own.f a0 a1 a2).bind fun t2 => bif t2.isSome then (some (t2, a0)) else ((at_ a0.l a1).bind fun x5 => bif x5.Version == a0.limit then (some ((some 11), a0)) else ((at_ a0.l a1).bind fun x8 => (at_ a0.l a1).bind fun x10 => some (none, (⟨a0.l.set a1.toNat (⟨a3, wu32 (x8.Version + 1), 0⟩ : api_Cell), a0.limit⟩ : word_Store))))
set_option maxHeartbeats 8000000 in
set_option maxRecDepth 100000 in
theorem word_Store_Put.ct (bp0 : Nat) (v0_l : Value) (a0 : word_Store) (a1 : Int) (a2 : Int) (a3 : Int) (r0 : Option Int) (rp0 : word_Store) (h : word_Store_Put.f a0 a1 a2 a3 = some (r0, rp0)) :
    Ct Try.prog 29 [bp bp0 0, .int .i64 a1, .int .i64 a2, .int .u64 a3] (fun _ => True) [Box bp0 [v0_l, .int .u32 a0.limit], Own 55 ek_api_Cell v0_l a0.l] (fun u H' => ∃ rw0_l, u = errV 59 r0 ∧ H' = [Box bp0 [rw0_l, .int .u32 rp0.limit], Own 55 ek_api_Cell rw0_l rp0.l]) := by
  unfold word_Store_Put.f at h
  refine Ct.intro (n := 48) Try.func29 rfl rfl rfl ?_
  intro R w0 F hF hR
  refine S.b1 ?_
  refine S.rd fun hr1 => ?_
  refine S.seq ?_
  refine S.region ?_
  refine SO.v rfl (opv_assign rfl) ?_
  refine SO.nil ?_
  refine S.seq ?_
  refine S.seq ?_
  refine S.region ?_
  refine SO.v rfl (opv_move rfl) ?_
  refine SO.v rfl (opv_move rfl) ?_
  refine SO.v rfl (opv_move rfl) ?_
  obtain ⟨t2, ht3, h⟩ := opt_bind h
  refine SO.b1 ?_
  refine SO.call (pre := [Box _ _, Own _ _ _ _]) rfl Try.call33 rfl rfl rfl (word_Store_own.ct bp0 v0_l _ _ _ _ ht3) trivial ?_
  rintro _ _ ⟨rfl, rfl⟩
  refine SO.v rfl (opv_assign rfl) ?_
  refine SO.nil ?_
  refine S.seq ?_
  refine S.region ?_
  refine SO.v rfl (opv_move rfl) ?_
  refine SO.v rfl (opv_neqN (e := t2) Try.underlying28 rfl) ?_
  refine SO.nil ?_
  rcases bool_or t2.isSome with b4 | b4
  · replace h := cond_t b4 h
    refine S.condT rfl b4 ?_
    refine S.seq ?_
    refine S.region ?_
    refine SO.v rfl (opv_move rfl) ?_
    refine SO.v rfl (opv_assign rfl) ?_
    refine SO.nil ?_
    refine S.to (ρ' := [(8, errV 59 t2)]) ⟨rfl, trivial⟩ ?_
    cases h
    refine S.b2 ?_
    refine S.b2 ?_
    refine S.b2 ?_
    exact S.ret1 Try.func29 rfl rfl (fun w hs hk => hR w _ _ ⟨v0_l, rfl, rfl⟩ hs hk)
  replace h := cond_f b4 h
  refine S.condF rfl b4 ?_
  refine S.skip ?_
  refine S.seq ?_
  refine S.seq ?_
  obtain ⟨x5, hx6, h⟩ := opt_bind h
  refine S.draw2 (Y := fun Q => ∃ (_ _ _ _ _ _ : Unit), Q [(0, bp bp0 0), (1, .int .i64 a1), (8, errV 59 none), (3, .int .u64 a3)] [Box bp0 [v0_l, .int .u32 a0.limit], Own 55 ek_api_Cell v0_l a0.l, F]) (Z := fun Q => ∀ (_ _ _ _ _ _ _ : Unit), Q [(0, bp bp0 0), (1, .int .i64 a1), (8, errV 59 none), (3, .int .u64 a3), (29, .bool (x5.Version == a0.limit))] [Box bp0 [v0_l, .int .u32 a0.limit], Own 55 ek_api_Cell v0_l a0.l, F]) (T := [tS 0 (bp bp0 0), tS 1 (.int .i64 a1), tE [(8, errV 59 none), (3, .int .u64 a3)], tR (Box bp0 [v0_l, .int .u32 a0.limit]), tR (Own 55 ek_api_Cell v0_l a0.l), tR (F), tS 17 (bp bp0 0), tS 18 (bp bp0 0), tS 19 (bp bp0 0), tS 20 (v0_l), tS 21 (.int .i64 a1), tS 22 (idxp v0_l (a1.toNat * ek_api_Cell.sz)), tS 23 (idxp v0_l (a1.toNat * ek_api_Cell.sz + 1)), tS 24 (.int .u32 x5.Version), tS 25 (bp bp0 0), tS 26 (bp bp0 0), tS 27 (bp bp0 1), tS 28 (.int .u32 a0.limit), tS 29 (.bool (x5.Version == a0.limit))]) (D := [⟨[0], [], [6]⟩, ⟨[6], [], [7]⟩, ⟨[7], [], [8]⟩, ⟨[8, 3], [], [9]⟩, ⟨[1], [], [10]⟩, ⟨[9, 10, 4], [], [11]⟩, ⟨[11, 4], [], [12]⟩, ⟨[12, 4], [], [13]⟩, ⟨[0], [], [14]⟩, ⟨[14], [], [15]⟩, ⟨[15], [], [16]⟩, ⟨[16, 3], [], [17]⟩, ⟨[13, 17], [], [18]⟩]) (ini := [0, 1, 2, 3, 4, 5]) (fin := [0, 1, 2, 18, 3, 4, 5]) (bf := [[], [0], [0, 1], [0, 1, 2], [], [0, 1, 2, 3, 4], [0, 1, 2, 3, 4, 5], [0, 1, 2, 3, 4, 5, 6], [], [8], [8, 9], [8, 9, 10], [0, 1, 2, 3, 4, 5, 6, 7, 8, 9, 10, 11]]) (by kernel_rfl) (by kernel_rfl) (fun Q => by kernel_rfl) (fun x w h1 h2 => ⟨(), (), (), (), (), (), EnvAll.of h1 ⟨rfl, rfl, rfl, rfl, trivial⟩, h2⟩) (fun Q => by kernel_rfl) ⟨?_, ?_, ?_, ?_, ?_, ?_, ?_, ?_, ?_, ?_, ?_, ?_, ?_, trivial⟩ ?_
  · rintro Fr _
    refine SO.v rfl (opv_move rfl) ?_
    exact SO.nilZ fun a w h1 h2 h3 h4 h5 => PZ.of h1 h3 h5 (.cons () (.cons () (.nil ⟨EnvAll.of h2 ⟨rfl, rfl, trivial⟩, h4⟩)))
  · rintro Fr _
    refine SO.v rfl (opv_nilCheck rfl) ?_
    exact SO.nilZ fun a w h1 h2 h3 h4 h5 => PZ.of h1 h3 h5 (.cons () (.cons () (.nil ⟨EnvAll.of h2 ⟨rfl, rfl, trivial⟩, h4⟩)))
  · rintro Fr _
    refine SO.v rfl (opv_fieldAddr Try.underlying61 rfl Try.sizeOf32 rfl rfl) ?_
    exact SO.nilZ fun a w h1 h2 h3 h4 h5 => PZ.of h1 h3 h5 (.cons () (.cons () (.nil ⟨EnvAll.of h2 ⟨rfl, rfl, trivial⟩, h4⟩)))
  · rintro Fr _ _
    refine SO.load1 rfl Try.isAgg32 rfl rfl ?_
    exact SO.nilZ fun a w h1 h2 h3 h4 h5 => PZ.of h1 h3 h5 (.cons () (.cons () (.cons () (.nil ⟨EnvAll.of h2 ⟨rfl, rfl, trivial⟩, h4⟩))))
  · rintro Fr _
    refine SO.v rfl (opv_move rfl) ?_
    exact SO.nilZ fun a w h1 h2 h3 h4 h5 => PZ.of h1 h3 h5 (.cons () (.cons () (.nil ⟨EnvAll.of h2 ⟨rfl, rfl, trivial⟩, h4⟩)))
  · rintro Fr _ _ _
    refine SO.v rfl (opv_idx Try.underlying32 Try.sizeOf55 hr1 rfl rfl hx6) ?_
    exact SO.nilZ fun a w h1 h2 h3 h4 h5 => PZ.of h1 h3 h5 (.cons () (.cons () (.cons () (.cons () (.nil ⟨EnvAll.of h2 ⟨rfl, rfl, rfl, trivial⟩, h4⟩)))))
  · rintro Fr _ _
    refine SO.v rfl (opv_fieldIdx Try.underlying55 rfl Try.sizeOf22 hr1 hx6 rfl rfl) ?_
    exact SO.nilZ fun a w h1 h2 h3 h4 h5 => PZ.of h1 h3 h5 (.cons () (.cons () (.cons () (.nil ⟨EnvAll.of h2 ⟨rfl, rfl, trivial⟩, h4⟩))))
  · rintro Fr _ _
    refine SO.loadI1 (j := 1) rfl Try.isAgg22 (Rd.head hr1) hx6 rfl rfl rfl rfl ?_
    exact SO.nilZ fun a w h1 h2 h3 h4 h5 => PZ.of h1 h3 h5 (.cons () (.cons () (.cons () (.nil ⟨EnvAll.of h2 ⟨rfl, rfl, trivial⟩, h4⟩))))
  · rintro Fr _
    refine SO.v rfl (opv_move rfl) ?_
    exact SO.nilZ fun a w h1 h2 h3 h4 h5 => PZ.of h1 h3 h5 (.cons () (.cons () (.nil ⟨EnvAll.of h2 ⟨rfl, rfl, trivial⟩, h4⟩)))
  · rintro Fr _
    refine SO.v rfl (opv_nilCheck rfl) ?_
    exact SO.nilZ fun a w h1 h2 h3 h4 h5 => PZ.of h1 h3 h5 (.cons () (.cons () (.nil ⟨EnvAll.of h2 ⟨rfl, rfl, trivial⟩, h4⟩)))
  · rintro Fr _
    refine SO.v rfl (opv_fieldAddr Try.underlying61 rfl Try.sizeOf22 rfl rfl) ?_
    exact SO.nilZ fun a w h1 h2 h3 h4 h5 => PZ.of h1 h3 h5 (.cons () (.cons () (.nil ⟨EnvAll.of h2 ⟨rfl, rfl, trivial⟩, h4⟩)))
  · rintro Fr _ _
    refine SO.load1 rfl Try.isAgg22 rfl rfl ?_
    exact SO.nilZ fun a w h1 h2 h3 h4 h5 => PZ.of h1 h3 h5 (.cons () (.cons () (.cons () (.nil ⟨EnvAll.of h2 ⟨rfl, rfl, trivial⟩, h4⟩))))
  · rintro Fr _ _
    refine SO.v rfl (opv_eql rfl rfl) ?_
    exact SO.nilZ fun a w h1 h2 h3 h4 h5 => PZ.of h1 h3 h5 (.cons () (.cons () (.cons () (.nil ⟨EnvAll.of h2 ⟨rfl, rfl, rfl, trivial⟩, h4⟩))))
  rintro _ _ _ _ _ _ _
  refine S.to (ρ' := [(0, bp bp0 0), (1, .int .i64 a1), (8, errV 59 none), (3, .int .u64 a3), (29, .bool (x5.Version == a0.limit))]) ⟨rfl, rfl, rfl, rfl, rfl, trivial⟩ ?_
  rcases bool_or (x5.Version == a0.limit) with b7 | b7
  · replace h := cond_t b7 h
    refine S.condT rfl b7 ?_
    refine S.seq ?_
    refine S.region ?_
    refine SO.v rfl (opv_iface Try.underlying59 rfl rfl) ?_
    refine SO.v rfl (opv_assign rfl) ?_
    refine SO.nil ?_
    cases h
    refine S.b2 ?_
    refine S.b2 ?_
    refine S.b2 ?_
    exact S.ret1 Try.func29 rfl rfl (fun w hs hk => hR w _ _ ⟨v0_l, rfl, rfl⟩ hs hk)
  replace h := cond_f b7 h
  refine S.condF rfl b7 ?_
  refine S.skip ?_
  refine S.seq ?_
  obtain ⟨x8, hx9, h⟩ := opt_bind h
  obtain ⟨x10, hx11, h⟩ := opt_bind h
  refine S.draw2 (Y := fun Q => ∃ (_ _ _ _ _ _ _ : Unit), Q [(0, bp bp0 0), (1, .int .i64 a1), (3, .int .u64 a3), (8, errV 59 none)] [Box bp0 [v0_l, .int .u32 a0.limit], Own 55 ek_api_Cell v0_l a0.l, F]) (Z := fun Q => ∀ (_ _ _ _ : Unit), Q [(8, errV 59 none)] [Box bp0 [v0_l, .int .u32 a0.limit], Own 55 ek_api_Cell v0_l (a0.l.set a1.toNat (⟨a3, wu32 (x8.Version + 1), 0⟩ : api_Cell)), F]) (T := [tS 0 (bp bp0 0), tS 1 (.int .i64 a1), tS 3 (.int .u64 a3), tS 8 (errV 59 none), tR (Box bp0 [v0_l, .int .u32 a0.limit]), tR (Own 55 ek_api_Cell v0_l a0.l), tR (F), tS 31 (bp bp0 0), tS 32 (bp bp0 0), tS 33 (bp bp0 0), tS 34 (v0_l), tS 35 (.int .i64 a1), tS 36 (.int .u64 a3), tS 37 (bp bp0 0), tS 38 (bp bp0 0), tS 39 (bp bp0 0), tS 40 (v0_l), tS 41 (.int .i64 a1), tS 42 (idxp v0_l (a1.toNat * ek_api_Cell.sz)), tS 43 (idxp v0_l (a1.toNat * ek_api_Cell.sz + 1)), tS 44 (.int .u32 x8.Version), tS 45 (.int .u32 (wu32 (x8.Version + 1))), tS 46 (.agg #[.int .u64 a3, .int .u32 (wu32 (x8.Version + 1)), .int .i64 0]), tS 47 (idxp v0_l (a1.toNat * ek_api_Cell.sz)), tR (Own 55 ek_api_Cell v0_l (a0.l.set a1.toNat (⟨a3, wu32 (x8.Version + 1), 0⟩ : api_Cell)))]) (D := [⟨[0], [], [7]⟩, ⟨[7], [], [8]⟩, ⟨[8], [], [9]⟩, ⟨[9, 4], [], [10]⟩, ⟨[1], [], [11]⟩, ⟨[2], [], [12]⟩, ⟨[0], [], [13]⟩, ⟨[13], [], [14]⟩, ⟨[14], [], [15]⟩, ⟨[15, 4], [], [16]⟩, ⟨[1], [], [17]⟩, ⟨[16, 17, 5], [], [18]⟩, ⟨[18, 5], [], [19]⟩, ⟨[19, 5], [], [20]⟩, ⟨[20], [], [21]⟩, ⟨[12, 21], [], [22]⟩, ⟨[10, 11, 5], [], [23]⟩, ⟨[22, 23], [5], [24]⟩]) (ini := [0, 1, 2, 3, 4, 5, 6]) (fin := [3, 4, 24, 6]) (bf := [[], [0], [0, 1], [0, 1, 2], [], [], [], [6], [6, 7], [6, 7, 8], [], [6, 7, 8, 9, 10], [6, 7, 8, 9, 10, 11], [6, 7, 8, 9, 10, 11, 12], [6, 7, 8, 9, 10, 11, 12, 13], [5, 6, 7, 8, 9, 10, 11, 12, 13, 14], [0, 1, 2, 3, 4, 5, 6, 7, 8, 9, 10, 11, 12, 13, 14, 15], [0, 1, 2, 3, 4, 5, 6, 7, 8, 9, 10, 11, 12, 13, 14, 15, 16]]) (by kernel_rfl) (by kernel_rfl) (fun Q => by kernel_rfl) (fun x w h1 h2 => ⟨(), (), (), (), (), (), (), EnvAll.of h1 ⟨rfl, rfl, rfl, rfl, trivial⟩, h2⟩) (fun Q => by kernel_rfl) ⟨?_, ?_, ?_, ?_, ?_, ?_, ?_, ?_, ?_, ?_, ?_, ?_, ?_, ?_, ?_, ?_, ?_, ?_, trivial⟩ ?_
  · rintro Fr _
    refine SO.v rfl (opv_move rfl) ?_
    exact SO.nilZ fun a w h1 h2 h3 h4 h5 => PZ.of h1 h3 h5 (.cons () (.cons () (.nil ⟨EnvAll.of h2 ⟨rfl, rfl, trivial⟩, h4⟩)))
  · rintro Fr _
    refine SO.v rfl (opv_nilCheck rfl) ?_
    exact SO.nilZ fun a w h1 h2 h3 h4 h5 => PZ.of h1 h3 h5 (.cons () (.cons () (.nil ⟨EnvAll.of h2 ⟨rfl, rfl, trivial⟩, h4⟩)))
  · rintro Fr _
    refine SO.v rfl (opv_fieldAddr Try.underlying61 rfl Try.sizeOf32 rfl rfl) ?_
    exact SO.nilZ fun a w h1 h2 h3 h4 h5 => PZ.of h1 h3 h5 (.cons () (.cons () (.nil ⟨EnvAll.of h2 ⟨rfl, rfl, trivial⟩, h4⟩)))
  · rintro Fr _ _
    refine SO.load1 rfl Try.isAgg32 rfl rfl ?_
    exact SO.nilZ fun a w h1 h2 h3 h4 h5 => PZ.of h1 h3 h5 (.cons () (.cons () (.cons () (.nil ⟨EnvAll.of h2 ⟨rfl, rfl, trivial⟩, h4⟩))))
  · rintro Fr _
    refine SO.v rfl (opv_move rfl) ?_
    exact SO.nilZ fun a w h1 h2 h3 h4 h5 => PZ.of h1 h3 h5 (.cons () (.cons () (.nil ⟨EnvAll.of h2 ⟨rfl, rfl, trivial⟩, h4⟩)))
  · rintro Fr _
    refine SO.v rfl (opv_move rfl) ?_
    exact SO.nilZ fun a w h1 h2 h3 h4 h5 => PZ.of h1 h3 h5 (.cons () (.cons () (.nil ⟨EnvAll.of h2 ⟨rfl, rfl, trivial⟩, h4⟩)))
  · rintro Fr _
    refine SO.v rfl (opv_move rfl) ?_
    exact SO.nilZ fun a w h1 h2 h3 h4 h5 => PZ.of h1 h3 h5 (.cons () (.cons () (.nil ⟨EnvAll.of h2 ⟨rfl, rfl, trivial⟩, h4⟩)))
  · rintro Fr _
    refine SO.v rfl (opv_nilCheck rfl) ?_
    exact SO.nilZ fun a w h1 h2 h3 h4 h5 => PZ.of h1 h3 h5 (.cons () (.cons () (.nil ⟨EnvAll.of h2 ⟨rfl, rfl, trivial⟩, h4⟩)))
  · rintro Fr _
    refine SO.v rfl (opv_fieldAddr Try.underlying61 rfl Try.sizeOf32 rfl rfl) ?_
    exact SO.nilZ fun a w h1 h2 h3 h4 h5 => PZ.of h1 h3 h5 (.cons () (.cons () (.nil ⟨EnvAll.of h2 ⟨rfl, rfl, trivial⟩, h4⟩)))
  · rintro Fr _ _
    refine SO.load1 rfl Try.isAgg32 rfl rfl ?_
    exact SO.nilZ fun a w h1 h2 h3 h4 h5 => PZ.of h1 h3 h5 (.cons () (.cons () (.cons () (.nil ⟨EnvAll.of h2 ⟨rfl, rfl, trivial⟩, h4⟩))))
  · rintro Fr _
    refine SO.v rfl (opv_move rfl) ?_
    exact SO.nilZ fun a w h1 h2 h3 h4 h5 => PZ.of h1 h3 h5 (.cons () (.cons () (.nil ⟨EnvAll.of h2 ⟨rfl, rfl, trivial⟩, h4⟩)))
  · rintro Fr _ _ _
    refine SO.v rfl (opv_idx Try.underlying32 Try.sizeOf55 hr1 rfl rfl hx9) ?_
    exact SO.nilZ fun a w h1 h2 h3 h4 h5 => PZ.of h1 h3 h5 (.cons () (.cons () (.cons () (.cons () (.nil ⟨EnvAll.of h2 ⟨rfl, rfl, rfl, trivial⟩, h4⟩)))))
  · rintro Fr _ _
    refine SO.v rfl (opv_fieldIdx Try.underlying55 rfl Try.sizeOf22 hr1 hx9 rfl rfl) ?_
    exact SO.nilZ fun a w h1 h2 h3 h4 h5 => PZ.of h1 h3 h5 (.cons () (.cons () (.cons () (.nil ⟨EnvAll.of h2 ⟨rfl, rfl, trivial⟩, h4⟩))))
  · rintro Fr _ _
    refine SO.loadI1 (j := 1) rfl Try.isAgg22 (Rd.head hr1) hx9 rfl rfl rfl rfl ?_
    exact SO.nilZ fun a w h1 h2 h3 h4 h5 => PZ.of h1 h3 h5 (.cons () (.cons () (.cons () (.nil ⟨EnvAll.of h2 ⟨rfl, rfl, trivial⟩, h4⟩))))
  · rintro Fr _
    refine SO.v rfl (opv_add rfl rfl) ?_
    exact SO.nilZ fun a w h1 h2 h3 h4 h5 => PZ.of h1 h3 h5 (.cons () (.cons () (.nil ⟨EnvAll.of h2 ⟨rfl, rfl, trivial⟩, h4⟩)))
  · rintro Fr _ _
    refine SO.v rfl (opv_build (v := .agg #[.int .u64 a3, .int .u32 (wu32 (x8.Version + 1)), .int .i64 0]) rfl (by intro w; kernel_rfl)) ?_
    exact SO.nilZ fun a w h1 h2 h3 h4 h5 => PZ.of h1 h3 h5 (.cons () (.cons () (.cons () (.nil ⟨EnvAll.of h2 ⟨rfl, rfl, rfl, trivial⟩, h4⟩))))
  · rintro Fr _ _ _
    refine SO.v rfl (opv_idx Try.underlying32 Try.sizeOf55 hr1 rfl rfl hx11) ?_
    exact SO.nilZ fun a w h1 h2 h3 h4 h5 => PZ.of h1 h3 h5 (.cons () (.cons () (.cons () (.cons () (.nil ⟨EnvAll.of h2 ⟨rfl, rfl, rfl, trivial⟩, h4⟩)))))
  · rintro Fr _ _ _
    refine SO.storeIN (z' := (⟨a3, wu32 (x8.Version + 1), 0⟩ : api_Cell)) Try.sizeOf55 hx11 rfl rfl rfl rfl ?_
    refine SO.rd fun hr12 => ?_
    exact SO.nilZ fun a w h1 h2 h3 h4 h5 => PZ.of h1 h3 h5 (.cons () (.cons () (.cons () (.nil ⟨EnvAll.of h2 ⟨rfl, rfl, trivial⟩, h4⟩))))
  rintro _ _ _ _
  refine S.to (ρ' := [(8, errV 59 none)]) ⟨rfl, trivial⟩ ?_
  refine S.b1 ?_
  refine S.rd fun hr13 => ?_
  refine S.seq ?_
  refine S.region ?_
  refine SO.v rfl (opv_assign rfl) ?_
  refine SO.nil ?_
  cases h
  refine S.b2 ?_
  refine S.b1 ?_
  refine S.b2 ?_
  exact S.ret1 Try.func29 rfl rfl (fun w hs hk => hR w _ _ ⟨v0_l, rfl, rfl⟩ hs hk)
end Go.Proofs
namespace Go.Proofs
open Go.Sl Go.RowKit
/-! 28 (*padstone/desc.Desc).release$2 -/
def desc_Desc_release_2.f (a0 : word_Store) (a1 : tx_Entry) (a2 : desc_Desc) : Option (((Option Int) × word_Store)) :=
  (word_Store_Put.f a0 a1.Cell a2.mark a1.New).bind fun (t3, p4) => some (t3, p4)
set_option maxHeartbeats 8000000 in
set_option maxRecDepth 100000 in
theorem desc_Desc_release_2.ct (bp0 : Nat) (bq0 : Nat) (v0_l : Value) (bp1 : Nat) (bp2 : Nat) (bq2 : Nat) (v2_l : Value) (a0 : word_Store) (a1 : tx_Entry) (a2 : desc_Desc) (r0 : Option Int) (rp0 : word_Store) (h : desc_Desc_release_2.f a0 a1 a2 = some (r0, rp0)) :
    Ct Try.prog 28 [bp bp0 0, bp bp1 0, bp bp2 0] (fun _ => True) [Box bp0 [bp bq0 0], Box bq0 [v0_l, .int .u32 a0.limit], Own 55 ek_api_Cell v0_l a0.l, Box bp1 [.int .i64 a1.Cell, .int .u32 a1.Version, .int .u64 a1.Old, .int .u64 a1.New, .bool a1.Write], Box bp2 [bp bq2 0], Box bq2 [.int .i64 a2.mark, v2_l, .int .i64 a2.status, .int .i64 a2.at_], Own 53 ek_tx_Entry v2_l a2.l] (fun u H' => ∃ rw0_l, u = errV 59 r0 ∧ H' = [Box bp0 [bp bq0 0], Box bq0 [rw0_l, .int .u32 rp0.limit], Own 55 ek_api_Cell rw0_l rp0.l, Box bp1 [.int .i64 a1.Cell, .int .u32 a1.Version, .int .u64 a1.Old, .int .u64 a1.New, .bool a1.Write], Box bp2 [bp bq2 0], Box bq2 [.int .i64 a2.mark, v2_l, .int .i64 a2.status, .int .i64 a2.at_], Own 53 ek_tx_Entry v2_l a2.l]) := by
  unfold desc_Desc_release_2.f at h
  refine Ct.intro (n := 14) Try.func28 rfl rfl rfl ?_
  intro R w0 F hF hR
  refine S.b2 ?_
  refine S.rd fun hr1 => ?_
  refine S.b6 ?_
  refine S.rd fun hr2 => ?_
  refine S.seq ?_
  refine S.region ?_
  refine SO.v rfl (opv_assign rfl) ?_
  refine SO.nil ?_
  refine S.seq ?_
  obtain ⟨⟨t3, p4⟩, ht5, h⟩ := opt_bind h
  refine S.draw2 (Y := fun Q => ∃ (_ _ _ _ _ _ _ _ _ _ _ : Unit), Q [(0, bp bp0 0), (1, bp bp1 0), (2, bp bp2 0)] [Own 53 ek_tx_Entry v2_l a2.l, Own 55 ek_api_Cell v0_l a0.l, Box bp0 [bp bq0 0], Box bq0 [v0_l, .int .u32 a0.limit], Box bp1 [.int .i64 a1.Cell, .int .u32 a1.Version, .int .u64 a1.Old, .int .u64 a1.New, .bool a1.Write], Box bp2 [bp bq2 0], Box bq2 [.int .i64 a2.mark, v2_l, .int .i64 a2.status, .int .i64 a2.at_], F]) (Z := fun Q => ∀ (_ : Unit) (u6_l : Value) (_ _ _ _ _ _ : Unit), Q [(3, errV 59 t3), (13, errV 59 t3)] [Own 55 ek_api_Cell u6_l p4.l, Box bq0 [u6_l, .int .u32 p4.limit], Own 53 ek_tx_Entry v2_l a2.l, Box bp0 [bp bq0 0], Box bp1 [.int .i64 a1.Cell, .int .u32 a1.Version, .int .u64 a1.Old, .int .u64 a1.New, .bool a1.Write], Box bp2 [bp bq2 0], Box bq2 [.int .i64 a2.mark, v2_l, .int .i64 a2.status, .int .i64 a2.at_], F]) (T := [tS 0 (bp bp0 0), tS 1 (bp bp1 0), tS 2 (bp bp2 0), tR (Own 53 ek_tx_Entry v2_l a2.l), tR (Own 55 ek_api_Cell v0_l a0.l), tR (Box bp0 [bp bq0 0]), tR (Box bq0 [v0_l, .int .u32 a0.limit]), tR (Box bp1 [.int .i64 a1.Cell, .int .u32 a1.Version, .int .u64 a1.Old, .int .u64 a1.New, .bool a1.Write]), tR (Box bp2 [bp bq2 0]), tR (Box bq2 [.int .i64 a2.mark, v2_l, .int .i64 a2.status, .int .i64 a2.at_]), tR (F), tS 4 (bp bq0 0), tS 5 (bp bp1 0), tS 6 (.int .i64 a1.Cell), tS 7 (bp bq2 0), tS 8 (bp bq2 0), tS 9 (bp bq2 0), tS 10 (.int .i64 a2.mark), tS 11 (bp bp1 3), tS 12 (.int .u64 a1.New), ⟨Value, [13], (fun u6_l => [(13, errV 59 t3)]), (fun u6_l => [Own 55 ek_api_Cell u6_l p4.l, Box bq0 [u6_l, .int .u32 p4.limit]]), fun _ => rfl⟩, tS 3 (errV 59 t3)]) (D := [⟨[0, 5], [], [11]⟩, ⟨[1], [], [12]⟩, ⟨[12, 7], [], [13]⟩, ⟨[2, 8], [], [14]⟩, ⟨[14], [], [15]⟩, ⟨[15], [], [16]⟩, ⟨[16, 9], [], [17]⟩, ⟨[1], [], [18]⟩, ⟨[18, 7], [], [19]⟩, ⟨[11, 13, 17, 19], [6, 4], [20]⟩, ⟨[20], [], [21]⟩]) (ini := [0, 1, 2, 3, 4, 5, 6, 7, 8, 9, 10]) (fin := [21, 20, 3, 5, 7, 8, 9, 10]) (bf := [[], [], [1], [], [3], [3, 4], [3, 4, 5], [], [7], [0, 1, 2, 3, 4, 5, 6, 7, 8], [0, 1, 2, 3, 4, 5, 6, 7, 8, 9]]) (by kernel_rfl) (by kernel_rfl) (fun Q => by kernel_rfl) (fun x w h1 h2 => ⟨(), (), (), (), (), (), (), (), (), (), (), EnvAll.of h1 ⟨rfl, rfl, rfl, trivial⟩, h2⟩) (fun Q => by kernel_rfl) ⟨?_, ?_, ?_, ?_, ?_, ?_, ?_, ?_, ?_, ?_, ?_, trivial⟩ ?_
  · rintro Fr _ _
    refine SO.load1 rfl Try.isAgg26 rfl rfl ?_
    exact SO.nilZ fun a w h1 h2 h3 h4 h5 => PZ.of h1 h3 h5 (.cons () (.cons () (.cons () (.nil ⟨EnvAll.of h2 ⟨rfl, rfl, trivial⟩, h4⟩))))
  · rintro Fr _
    refine SO.v rfl (opv_fieldAddr Try.underlying53 rfl Try.sizeOf3 rfl rfl) ?_
    exact SO.nilZ fun a w h1 h2 h3 h4 h5 => PZ.of h1 h3 h5 (.cons () (.cons () (.nil ⟨EnvAll.of h2 ⟨rfl, rfl, trivial⟩, h4⟩)))
  · rintro Fr _ _
    refine SO.load1 rfl Try.isAgg3 rfl rfl ?_
    exact SO.nilZ fun a w h1 h2 h3 h4 h5 => PZ.of h1 h3 h5 (.cons () (.cons () (.cons () (.nil ⟨EnvAll.of h2 ⟨rfl, rfl, trivial⟩, h4⟩))))
  · rintro Fr _ _
    refine SO.load1 rfl Try.isAgg38 rfl rfl ?_
    exact SO.nilZ fun a w h1 h2 h3 h4 h5 => PZ.of h1 h3 h5 (.cons () (.cons () (.cons () (.nil ⟨EnvAll.of h2 ⟨rfl, rfl, trivial⟩, h4⟩))))
  · rintro Fr _
    refine SO.v rfl (opv_nilCheck rfl) ?_
    exact SO.nilZ fun a w h1 h2 h3 h4 h5 => PZ.of h1 h3 h5 (.cons () (.cons () (.nil ⟨EnvAll.of h2 ⟨rfl, rfl, trivial⟩, h4⟩)))
  · rintro Fr _
    refine SO.v rfl (opv_fieldAddr Try.underlying64 rfl Try.sizeOf3 rfl rfl) ?_
    exact SO.nilZ fun a w h1 h2 h3 h4 h5 => PZ.of h1 h3 h5 (.cons () (.cons () (.nil ⟨EnvAll.of h2 ⟨rfl, rfl, trivial⟩, h4⟩)))
  · rintro Fr _ _
    refine SO.load1 rfl Try.isAgg3 rfl rfl ?_
    exact SO.nilZ fun a w h1 h2 h3 h4 h5 => PZ.of h1 h3 h5 (.cons () (.cons () (.cons () (.nil ⟨EnvAll.of h2 ⟨rfl, rfl, trivial⟩, h4⟩))))
  · rintro Fr _
    refine SO.v rfl (opv_fieldAddr Try.underlying53 rfl Try.sizeOf51 rfl rfl) ?_
    exact SO.nilZ fun a w h1 h2 h3 h4 h5 => PZ.of h1 h3 h5 (.cons () (.cons () (.nil ⟨EnvAll.of h2 ⟨rfl, rfl, trivial⟩, h4⟩)))
  · rintro Fr _ _
    refine SO.load1 rfl Try.isAgg51 rfl rfl ?_
    exact SO.nilZ fun a w h1 h2 h3 h4 h5 => PZ.of h1 h3 h5 (.cons () (.cons () (.cons () (.nil ⟨EnvAll.of h2 ⟨rfl, rfl, trivial⟩, h4⟩))))
  · refine spec2 (X := fun Q => ∀ (_ _ _ _ _ _ : Unit), Q [(4, bp bq0 0), (6, .int .i64 a1.Cell), (10, .int .i64 a2.mark), (12, .int .u64 a1.New)] [Box bq0 [v0_l, .int .u32 a0.limit], Own 55 ek_api_Cell v0_l a0.l]) (fun Q => by kernel_rfl) ?_
    rintro Fr _ _ _ _ _ _
    refine SO.b1 ?_
    refine SO.b1 ?_
    refine SO.call (pre := [Box _ _, Own _ _ _ _]) rfl Try.call29 rfl rfl rfl (word_Store_Put.ct bq0 v0_l _ _ _ _ _ _ ht5) trivial ?_
    rintro _ _ ⟨u6_l, rfl, rfl⟩
    refine SO.b1 ?_
    refine SO.rd fun hr7 => ?_
    refine SO.b1 ?_
    refine SO.b1 ?_
    exact SO.nilZ fun a w h1 h2 h3 h4 h5 => PZ.of2 (Y := fun Q => ∃ (_ _ _ _ : Unit) (u6_l : Value), Q [(4, bp bq0 0), (6, .int .i64 a1.Cell), (10, .int .i64 a2.mark), (12, .int .u64 a1.New), (13, errV 59 t3)] [Own 55 ek_api_Cell u6_l p4.l, Box bq0 [u6_l, .int .u32 p4.limit]]) (fun Q => by kernel_rfl) h1 h3 h5 ⟨(), (), (), (), u6_l, EnvAll.of h2 ⟨rfl, rfl, rfl, rfl, rfl, trivial⟩, h4⟩
  · rintro Fr u6_l
    refine SO.rd fun hr8 => ?_
    refine SO.v rfl (opv_assign rfl) ?_
    refine SO.b1 ?_
    refine SO.b1 ?_
    exact SO.nilZ fun a w h1 h2 h3 h4 h5 => PZ.of h1 h3 h5 (.cons u6_l (.cons () (.nil ⟨EnvAll.of h2 ⟨rfl, rfl, trivial⟩, h4⟩)))
  rintro _ u6_l _ _ _ _ _ _
  refine S.to (ρ' := [(3, errV 59 t3)]) ⟨rfl, trivial⟩ ?_
  refine S.rd fun hr9 => ?_
  cases h
  refine S.b7 ?_
  refine S.b3 ?_
  refine S.b7 ?_
  refine S.b7 ?_
  refine S.b7 ?_
  refine S.b5 ?_
  refine S.b6 ?_
  refine S.b7 ?_
  exact S.ret1 Try.func28 rfl rfl (fun w hs hk => hR w _ _ ⟨u6_l, rfl, rfl⟩ hs hk)
end Go.Proofs
namespace Go.Proofs
open Go.Sl Go.RowKit
/-! 17 (*padstone/word.Store).Read -/
def word_Store_Read.f (a0 : word_Store) (a1 : Int) : Option ((api_Cell × (Option Int))) :=
  (word_Store_has.f a0 a1).bind fun t3 => bif !t3 then (some ((⟨0, 0, 0⟩ : api_Cell), (some 2))) else ((at_ a0.l a1).bind fun x6 => some (x6, none))
set_option maxHeartbeats 8000000 in
set_option maxRecDepth 100000 in
theorem word_Store_Read.ct (bp0 : Nat) (v0_l : Value) (a0 : word_Store) (a1 : Int) (r0 : api_Cell) (r1 : Option Int) (h : word_Store_Read.f a0 a1 = some (r0, r1)) :
    Ct Try.prog 17 [bp bp0 0, .int .i64 a1] (fun _ => True) [Box bp0 [v0_l, .int .u32 a0.limit], Own 55 ek_api_Cell v0_l a0.l] (fun u H' => u = .tuple #[.agg #[.int .u64 r0.Value, .int .u32 r0.Version, .int .i64 r0.Mark], errV 59 r1] ∧ H' = [Box bp0 [v0_l, .int .u32 a0.limit], Own 55 ek_api_Cell v0_l a0.l]) := by
  unfold word_Store_Read.f at h
  refine Ct.intro (n := 19) Try.func17 rfl rfl rfl ?_
  intro R w0 F hF hR
  refine S.b1 ?_
  refine S.rd fun hr1 => ?_
  refine S.seq ?_
  refine S.region ?_
  refine SO.alloc rfl Try.zeroValue55 rfl (fun b2 => ?_)
  refine SO.v rfl (opv_assign rfl) ?_
  refine SO.nil ?_
  refine S.seq ?_
  refine S.seq ?_
  refine S.region ?_
  refine SO.v rfl (opv_move rfl) ?_
  refine SO.v rfl (opv_move rfl) ?_
  obtain ⟨t3, ht4, h⟩ := opt_bind h
  refine SO.b1 ?_
  refine SO.b2 ?_
  refine SO.call (pre := [Box _ _, Own _ _ _ _]) rfl Try.call25 rfl rfl rfl (word_Store_has.ct bp0 v0_l _ _ _ ht4) trivial ?_
  rintro _ _ ⟨rfl, rfl⟩
  refine SO.v rfl (opv_not rfl) ?_
  refine SO.nil ?_
  rcases bool_or (!t3) with b5 | b5
  · replace h := cond_t b5 h
    refine S.condT rfl b5 ?_
    refine S.seq ?_
    refine S.region ?_
    refine SO.v rfl (opv_build (v := .agg #[.int .u64 0, .int .u32 0, .int .i64 0]) rfl (by intro w; kernel_rfl)) ?_
    refine SO.v rfl (opv_iface Try.underlying59 rfl rfl) ?_
    refine SO.b2 ?_
    refine SO.storeN Try.sizeOf55 rfl rfl rfl rfl rfl rfl ?_
    refine SO.v rfl (opv_assign rfl) ?_
    refine SO.nil ?_
    refine S.to (ρ' := [(4, bp b2 0), (5, errV 59 (some 2))]) ⟨rfl, rfl, trivial⟩ ?_
    cases h
    refine S.b3 ?_
    refine S.b3 ?_
    refine S.b3 ?_
    refine S.b3 ?_
    exact S.retC1 Try.func17 rfl rfl rfl Try.isAgg55 Try.sizeOf55 rfl rfl (fun w hs hk => hR w _ _ ⟨rfl, rfl⟩ hs.drop hk)
  replace h := cond_f b5 h
  refine S.condF rfl b5 ?_
  refine S.skip ?_
  refine S.seq ?_
  refine S.region ?_
  refine SO.v rfl (opv_move rfl) ?_
  refine SO.v rfl (opv_nilCheck rfl) ?_
  refine SO.v rfl (opv_fieldAddr Try.underlying61 rfl Try.sizeOf32 rfl rfl) ?_
  refine SO.load1 rfl Try.isAgg32 rfl rfl ?_
  refine SO.v rfl (opv_move rfl) ?_
  obtain ⟨x6, hx7, h⟩ := opt_bind h
  refine SO.v rfl (opv_idx Try.underlying32 Try.sizeOf55 hr1 rfl rfl hx7) ?_
  refine SO.loadIN rfl Try.isAgg55 Try.sizeOf55 (Rd.tail (Rd.head hr1)) hx7 rfl rfl rfl ?_
  refine SO.b2 ?_
  refine SO.storeN Try.sizeOf55 rfl rfl rfl rfl rfl rfl ?_
  refine SO.v rfl (opv_assign rfl) ?_
  refine SO.nil ?_
  refine S.to (ρ' := [(4, bp b2 0), (5, errV 59 none)]) ⟨rfl, rfl, trivial⟩ ?_
  cases h
  refine S.b3 ?_
  refine S.b3 ?_
  refine S.b3 ?_
  refine S.b3 ?_
  exact S.retC1 Try.func17 rfl rfl rfl Try.isAgg55 Try.sizeOf55 rfl rfl (fun w hs hk => hR w _ _ ⟨rfl, rfl⟩ hs.drop hk)
end Go.Proofs
namespace Go.Proofs
open Go.Sl Go.RowKit
/-! 19 (*padstone/desc.Desc).release -/
def desc_Desc_release.f (a0 : desc_Desc) (a1 : word_Store) : Option ((desc_Desc × word_Store)) :=
  (at_ a0.l a0.at_).bind fun x5 => (word_Store_Read.f a1 x5.Cell).bind fun (t8, t9) => (bif t9.isSome then (some true) else (bif decide (a0.mark < 1) then (some true) else (some (t8.Mark != a0.mark)))).bind fun j50_1 => bif j50_1 then (some (({ a0 with at_ := w64 (a0.at_ + 1) } : desc_Desc), a1)) else ((bif a0.status == 1 then (some x5.Write) else (some false)).bind fun c16 => bif c16 then ((desc_Desc_release_2.f a1 x5 ({ a0 with at_ := w64 (a0.at_ + 1) } : desc_Desc)).bind fun (t19, p20) => bif t19.isSome then (none) else (some (({ a0 with at_ := w64 (a0.at_ + 1) } : desc_Desc), p20))) else ((desc_Desc_release_1.f a1 x5 ({ a0 with at_ := w64 (a0.at_ + 1) } : desc_Desc)).bind fun (t26, p27) => bif t26.isSome then (none) else (some (({ a0 with at_ := w64 (a0.at_ + 1) } : desc_Desc), p27))))
set_option maxHeartbeats 8000000 in
set_option maxRecDepth 100000 in
theorem desc_Desc_release.ct (bp0 : Nat) (v0_l : Value) (bp1 : Nat) (v1_l : Value) (a0 : desc_Desc) (a1 : word_Store) (rp0 : desc_Desc) (rp1 : word_Store) (h : desc_Desc_release.f a0 a1 = some (rp0, rp1)) :
    Ct Try.prog 19 [bp bp0 0, bp bp1 0] (fun _ => True) [Box bp0 [.int .i64 a0.mark, v0_l, .int .i64 a0.status, .int .i64 a0.at_], Own 53 ek_tx_Entry v0_l a0.l, Box bp1 [v1_l, .int .u32 a1.limit], Own 55 ek_api_Cell v1_l a1.l] (fun u H' => ∃ rw0_l rw1_l, u = .tuple #[] ∧ H' = [Box bp0 [.int .i64 rp0.mark, rw0_l, .int .i64 rp0.status, .int .i64 rp0.at_], Own 53 ek_tx_Entry rw0_l rp0.l, Box bp1 [rw1_l, .int .u32 rp1.limit], Own 55 ek_api_Cell rw1_l rp1.l]) := by
  unfold desc_Desc_release.f at h
  refine Ct.intro (n := 67) Try.func19 rfl rfl rfl ?_
  intro R w0 F hF hR
  refine S.b1 ?_
  refine S.rd fun hr1 => ?_
  refine S.b3 ?_
  refine S.rd fun hr2 => ?_
  refine S.seq ?_
  refine S.region ?_
  refine SO.box rfl rfl rfl (fun b3 => ?_)
  refine SO.box rfl rfl rfl (fun b4 => ?_)
  refine SO.nil ?_
  refine S.seq ?_
  obtain ⟨x5, hx6, h⟩ := opt_bind h
  refine S.draw2 (Y := fun Q => ∃ (_ _ _ _ _ _ _ _ _ : Unit), Q [(2, bp b3 0), (3, bp b4 0)] [Box b4 [bp bp1 0], Box b3 [bp bp0 0], Own 55 ek_api_Cell v1_l a1.l, Own 53 ek_tx_Entry v0_l a0.l, Box bp0 [.int .i64 a0.mark, v0_l, .int .i64 a0.status, .int .i64 a0.at_], Box bp1 [v1_l, .int .u32 a1.limit], F]) (Z := fun Q => ∀ (_ _ : Unit) (b7 : Nat) (_ _ _ _ _ _ _ : Unit), Q [(2, bp b3 0), (3, bp b4 0), (4, bp b7 0)] [Box b7 [.int .i64 x5.Cell, .int .u32 x5.Version, .int .u64 x5.Old, .int .u64 x5.New, .bool x5.Write], Box b4 [bp bp1 0], Box b3 [bp bp0 0], Own 55 ek_api_Cell v1_l a1.l, Own 53 ek_tx_Entry v0_l a0.l, Box bp0 [.int .i64 a0.mark, v0_l, .int .i64 a0.status, .int .i64 a0.at_], Box bp1 [v1_l, .int .u32 a1.limit], F]) (T := [tS 2 (bp b3 0), tS 3 (bp b4 0), tR (Box b4 [bp bp1 0]), tR (Box b3 [bp bp0 0]), tR (Own 55 ek_api_Cell v1_l a1.l), tR (Own 53 ek_tx_Entry v0_l a0.l), tR (Box bp0 [.int .i64 a0.mark, v0_l, .int .i64 a0.status, .int .i64 a0.at_]), tR (Box bp1 [v1_l, .int .u32 a1.limit]), tR (F), tS 9 (bp bp0 0), tS 10 (bp bp0 0), tS 11 (bp bp0 1), tS 12 (v0_l), tS 13 (bp bp0 0), tS 14 (bp bp0 0), tS 15 (bp bp0 3), tS 16 (.int .i64 a0.at_), tS 17 (idxp v0_l (a0.at_.toNat * ek_tx_Entry.sz)), tS 18 (.agg #[.int .i64 x5.Cell, .int .u32 x5.Version, .int .u64 x5.Old, .int .u64 x5.New, .bool x5.Write]), ⟨Nat, [4], (fun b7 => [(4, bp b7 0)]), (fun b7 => [Box b7 [.int .i64 0, .int .u32 0, .int .u64 0, .int .u64 0, .bool false]]), fun _ => rfl⟩, ⟨Nat, [4], (fun b7 => [(4, bp b7 0)]), (fun b7 => [Box b7 [.int .i64 x5.Cell, .int .u32 x5.Version, .int .u64 x5.Old, .int .u64 x5.New, .bool x5.Write]]), fun _ => rfl⟩]) (D := [⟨[0, 3], [], [9]⟩, ⟨[9], [], [10]⟩, ⟨[10], [], [11]⟩, ⟨[11, 6], [], [12]⟩, ⟨[0, 3], [], [13]⟩, ⟨[13], [], [14]⟩, ⟨[14], [], [15]⟩, ⟨[15, 6], [], [16]⟩, ⟨[12, 16, 5], [], [17]⟩, ⟨[17, 5], [], [18]⟩, ⟨[], [], [19]⟩, ⟨[18], [19], [20]⟩]) (ini := [0, 1, 2, 3, 4, 5, 6, 7, 8]) (fin := [0, 1, 20, 2, 3, 4, 5, 6, 7, 8]) (bf := [[], [0], [0, 1], [0, 1, 2], [], [4], [4, 5], [4, 5, 6], [0, 1, 2, 3, 4, 5, 6, 7], [0, 1, 2, 3, 4, 5, 6, 7, 8], [], [0, 1, 2, 3, 4, 5, 6, 7, 8, 9, 10]]) (by kernel_rfl) (by kernel_rfl) (fun Q => by kernel_rfl) (fun x w h1 h2 => ⟨(), (), (), (), (), (), (), (), (), EnvAll.of h1 ⟨rfl, rfl, trivial⟩, h2⟩) (fun Q => by kernel_rfl) ⟨?_, ?_, ?_, ?_, ?_, ?_, ?_, ?_, ?_, ?_, ?_, ?_, trivial⟩ ?_
  · rintro Fr _ _
    refine SO.load1 rfl Try.isAgg38 rfl rfl ?_
    exact SO.nilZ fun a w h1 h2 h3 h4 h5 => PZ.of h1 h3 h5 (.cons () (.cons () (.cons () (.nil ⟨EnvAll.of h2 ⟨rfl, rfl, trivial⟩, h4⟩))))
  · rintro Fr _
    refine SO.v rfl (opv_nilCheck rfl) ?_
    exact SO.nilZ fun a w h1 h2 h3 h4 h5 => PZ.of h1 h3 h5 (.cons () (.cons () (.nil ⟨EnvAll.of h2 ⟨rfl, rfl, trivial⟩, h4⟩)))
  · rintro Fr _
    refine SO.v rfl (opv_fieldAddr Try.underlying64 rfl Try.sizeOf37 rfl rfl) ?_
    exact SO.nilZ fun a w h1 h2 h3 h4 h5 => PZ.of h1 h3 h5 (.cons () (.cons () (.nil ⟨EnvAll.of h2 ⟨rfl, rfl, trivial⟩, h4⟩)))
  · rintro Fr _ _
    refine SO.load1 rfl Try.isAgg37 rfl rfl ?_
    exact SO.nilZ fun a w h1 h2 h3 h4 h5 => PZ.of h1 h3 h5 (.cons () (.cons () (.cons () (.nil ⟨EnvAll.of h2 ⟨rfl, rfl, trivial⟩, h4⟩))))
  · rintro Fr _ _
    refine SO.load1 rfl Try.isAgg38 rfl rfl ?_
    exact SO.nilZ fun a w h1 h2 h3 h4 h5 => PZ.of h1 h3 h5 (.cons () (.cons () (.cons () (.nil ⟨EnvAll.of h2 ⟨rfl, rfl, trivial⟩, h4⟩))))
  · rintro Fr _
    refine SO.v rfl (opv_nilCheck rfl) ?_
    exact SO.nilZ fun a w h1 h2 h3 h4 h5 => PZ.of h1 h3 h5 (.cons () (.cons () (.nil ⟨EnvAll.of h2 ⟨rfl, rfl, trivial⟩, h4⟩)))
  · rintro Fr _
    refine SO.v rfl (opv_fieldAddr Try.underlying64 rfl Try.sizeOf3 rfl rfl) ?_
    exact SO.nilZ fun a w h1 h2 h3 h4 h5 => PZ.of h1 h3 h5 (.cons () (.cons () (.nil ⟨EnvAll.of h2 ⟨rfl, rfl, trivial⟩, h4⟩)))
  · rintro Fr _ _
    refine SO.load1 rfl Try.isAgg3 rfl rfl ?_
    exact SO.nilZ fun a w h1 h2 h3 h4 h5 => PZ.of h1 h3 h5 (.cons () (.cons () (.cons () (.nil ⟨EnvAll.of h2 ⟨rfl, rfl, trivial⟩, h4⟩))))
  · rintro Fr _ _ _
    refine SO.v rfl (opv_idx Try.underlying37 Try.sizeOf53 hr1 rfl rfl hx6) ?_
    exact SO.nilZ fun a w h1 h2 h3 h4 h5 => PZ.of h1 h3 h5 (.cons () (.cons () (.cons () (.cons () (.nil ⟨EnvAll.of h2 ⟨rfl, rfl, rfl, trivial⟩, h4⟩)))))
  · rintro Fr _ _
    refine SO.loadIN rfl Try.isAgg53 Try.sizeOf53 (Rd.head hr1) hx6 rfl rfl rfl ?_
    exact SO.nilZ fun a w h1 h2 h3 h4 h5 => PZ.of h1 h3 h5 (.cons () (.cons () (.cons () (.nil ⟨EnvAll.of h2 ⟨rfl, rfl, trivial⟩, h4⟩))))
  · rintro Fr 
    refine SO.alloc rfl Try.zeroValue53 rfl (fun b7 => ?_)
    exact SO.nilZ fun a w h1 h2 h3 h4 h5 => PZ.of h1 h3 h5 (.cons b7 (.nil ⟨EnvAll.of h2 ⟨rfl, trivial⟩, h4⟩))
  · rintro Fr _ b7
    refine SO.storeN Try.sizeOf53 rfl rfl rfl rfl rfl rfl ?_
    exact SO.nilZ fun a w h1 h2 h3 h4 h5 => PZ.of h1 h3 h5 (.cons () (.cons b7 (.nil ⟨EnvAll.of h2 ⟨rfl, rfl, trivial⟩, h4⟩)))
  rintro _ _ b7 _ _ _ _ _ _ _
  refine S.to (ρ' := [(2, bp b3 0), (3, bp b4 0), (4, bp b7 0)]) ⟨rfl, rfl, rfl, trivial⟩ ?_
  refine S.seq ?_
  refine S.region ?_
  refine SO.b2 ?_
  refine SO.load1 rfl Try.isAgg38 rfl rfl ?_
  refine SO.v rfl (opv_nilCheck rfl) ?_
  refine SO.v rfl (opv_fieldAddr Try.underlying64 rfl Try.sizeOf3 rfl rfl) ?_
  refine SO.b5 ?_
  refine SO.load1 rfl Try.isAgg3 rfl rfl ?_
  refine SO.v rfl (opv_add rfl rfl) ?_
  refine SO.v rfl (opv_nilCheck rfl) ?_
  refine SO.v rfl (opv_fieldAddr Try.underlying64 rfl Try.sizeOf3 rfl rfl) ?_
  refine SO.store1 Try.sizeOf3 rfl rfl rfl rfl ?_
  refine SO.nil ?_
  refine S.to (ρ' := [(2, bp b3 0), (3, bp b4 0), (4, bp b7 0)]) ⟨rfl, rfl, rfl, trivial⟩ ?_
  refine S.seq ?_
  refine S.seq ?_
  refine S.region ?_
  refine SO.b3 ?_
  refine SO.load1 rfl Try.isAgg26 rfl rfl ?_
  refine SO.v rfl (opv_fieldAddr Try.underlying53 rfl Try.sizeOf3 rfl rfl) ?_
  refine SO.b3 ?_
  refine SO.load1 rfl Try.isAgg3 rfl rfl ?_
  obtain ⟨⟨t8, t9⟩, ht10, h⟩ := opt_bind h
  refine SO.b4 ?_
  refine SO.b6 ?_
  refine SO.call (pre := [Box _ _, Own _ _ _ _]) rfl Try.call17 rfl rfl rfl (word_Store_Read.ct bp1 v1_l _ _ _ _ ht10) trivial ?_
  rintro _ _ ⟨rfl, rfl⟩
  refine SO.v rfl (opv_move rfl) ?_
  refine SO.v rfl (opv_extract rfl rfl) ?_
  refine SO.v rfl (opv_extract rfl rfl) ?_
  refine SO.alloc rfl Try.zeroValue55 rfl (fun b11 => ?_)
  refine SO.storeN Try.sizeOf55 rfl rfl rfl rfl rfl rfl ?_
  refine SO.v rfl (opv_assign rfl) ?_
  refine SO.nil ?_
  refine S.to (ρ' := [(2, bp b3 0), (3, bp b4 0), (4, bp b7 0), (5, bp b11 0), (6, errV 59 t9)]) ⟨rfl, rfl, rfl, rfl, rfl, trivial⟩ ?_
  refine S.seq ?_
  obtain ⟨j50_1, hC1, hJ1⟩ := opt_bind h
  clear h
  refine S.cutP (G := Unit) (fun _ => True) (fun _ => [(2, bp b3 0), (3, bp b4 0), (4, bp b7 0), (50, .bool j50_1)]) (fun _ => [Box b11 [.int .u64 t8.Value, .int .u32 t8.Version, .int .i64 t8.Mark], Box bp1 [v1_l, .int .u32 a1.limit], Own 55 ek_api_Cell v1_l a1.l, Box b7 [.int .i64 x5.Cell, .int .u32 x5.Version, .int .u64 x5.Old, .int .u64 x5.New, .bool x5.Write], Box b4 [bp bp1 0], Box bp0 [.int .i64 a0.mark, v0_l, .int .i64 a0.status, .int .i64 (w64 (a0.at_ + 1))], Box b3 [bp bp0 0], Own 53 ek_tx_Entry v0_l a0.l, F]) (fun hk1 => ?_) ?_
  · replace h := hC1
    rcases bool_or t9.isSome with b12 | b12
    · replace h := cond_t b12 h
      refine S.draw2 (Y := fun Q => ∃ (_ _ _ _ _ _ _ _ _ _ _ _ _ : Unit), Q [(6, errV 59 t9), (2, bp b3 0), (5, bp b11 0), (3, bp b4 0), (4, bp b7 0)] [Box b11 [.int .u64 t8.Value, .int .u32 t8.Version, .int .i64 t8.Mark], Box bp1 [v1_l, .int .u32 a1.limit], Own 55 ek_api_Cell v1_l a1.l, Box b7 [.int .i64 x5.Cell, .int .u32 x5.Version, .int .u64 x5.Old, .int .u64 x5.New, .bool x5.Write], Box b4 [bp bp1 0], Box bp0 [.int .i64 a0.mark, v0_l, .int .i64 a0.status, .int .i64 (w64 (a0.at_ + 1))], Box b3 [bp bp0 0], Own 53 ek_tx_Entry v0_l a0.l, F]) (Z := fun Q => ∀ (_ _ _ _ _ _ _ _ _ _ _ _ : Unit), Q [(2, bp b3 0), (3, bp b4 0), (4, bp b7 0), (50, .bool true)] [Box b11 [.int .u64 t8.Value, .int .u32 t8.Version, .int .i64 t8.Mark], Box bp1 [v1_l, .int .u32 a1.limit], Own 55 ek_api_Cell v1_l a1.l, Box b7 [.int .i64 x5.Cell, .int .u32 x5.Version, .int .u64 x5.Old, .int .u64 x5.New, .bool x5.Write], Box b4 [bp bp1 0], Box bp0 [.int .i64 a0.mark, v0_l, .int .i64 a0.status, .int .i64 (w64 (a0.at_ + 1))], Box b3 [bp bp0 0], Own 53 ek_tx_Entry v0_l a0.l, F]) (T := [tS 6 (errV 59 t9), tS 2 (bp b3 0), tS 5 (bp b11 0), tE [(3, bp b4 0), (4, bp b7 0)], tR (Box b11 [.int .u64 t8.Value, .int .u32 t8.Version, .int .i64 t8.Mark]), tR (Box bp1 [v1_l, .int .u32 a1.limit]), tR (Own 55 ek_api_Cell v1_l a1.l), tR (Box b7 [.int .i64 x5.Cell, .int .u32 x5.Version, .int .u64 x5.Old, .int .u64 x5.New, .bool x5.Write]), tR (Box b4 [bp bp1 0]), tR (Box bp0 [.int .i64 a0.mark, v0_l, .int .i64 a0.status, .int .i64 (w64 (a0.at_ + 1))]), tR (Box b3 [bp bp0 0]), tR (Own 53 ek_tx_Entry v0_l a0.l), tR (F), tS 33 (errV 59 t9), tS 34 (.bool t9.isSome), tS 35 (.bool t9.isSome), tS 36 (undef), tS 37 (undef), tS 38 (undef), tS 39 (undef), tS 40 (undef), tS 41 (.bool true), tS 42 (.bool true), tS 43 (undef), tS 44 (undef), tS 45 (undef), tS 46 (undef), tS 47 (undef), tS 48 (undef), tS 49 (undef), tS 50 (.bool true)]) (D := [⟨[0], [], [13]⟩, ⟨[13], [], [14]⟩, ⟨[14], [], [15]⟩, ⟨[15], [], [16]⟩, ⟨[15], [], [17]⟩, ⟨[15], [], [18]⟩, ⟨[15], [], [19]⟩, ⟨[15], [], [20]⟩, ⟨[15, 20], [], [21]⟩, ⟨[21], [], [22]⟩, ⟨[22], [], [23]⟩, ⟨[22], [], [24]⟩, ⟨[22], [], [25]⟩, ⟨[22], [], [26]⟩, ⟨[22], [], [27]⟩, ⟨[22], [], [28]⟩, ⟨[22], [], [29]⟩, ⟨[22, 29], [], [30]⟩]) (ini := [0, 1, 2, 3, 4, 5, 6, 7, 8, 9, 10, 11, 12]) (fin := [1, 3, 30, 4, 5, 6, 7, 8, 9, 10, 11, 12]) (bf := [[], [0], [0, 1], [0, 1, 2], [0, 1, 2, 3], [0, 1, 2, 3, 4], [0, 1, 2, 3, 4, 5], [0, 1, 2, 3, 4, 5, 6], [0, 1, 2, 3, 4, 5, 6, 7], [0, 1, 2, 3, 4, 5, 6, 7, 8], [0, 1, 2, 3, 4, 5, 6, 7, 8, 9], [0, 1, 2, 3, 4, 5, 6, 7, 8, 9, 10], [0, 1, 2, 3, 4, 5, 6, 7, 8, 9], [0, 1, 2, 3, 4, 5, 6, 7, 8, 9, 12], [0, 1, 2, 3, 4, 5, 6, 7, 8, 9, 12, 13], [0, 1, 2, 3, 4, 5, 6, 7, 8, 9, 12, 13, 14], [0, 1, 2, 3, 4, 5, 6, 7, 8, 9, 10, 11, 12, 13, 14, 15], [0, 1, 2, 3, 4, 5, 6, 7, 8, 9, 10, 11, 12, 13, 14, 15, 16]]) (by kernel_rfl) (by kernel_rfl) (fun Q => by kernel_rfl) (fun x w h1 h2 => ⟨(), (), (), (), (), (), (), (), (), (), (), (), (), EnvAll.of h1 ⟨rfl, rfl, rfl, rfl, rfl, trivial⟩, h2⟩) (fun Q => by kernel_rfl) ⟨?_, ?_, ?_, ?_, ?_, ?_, ?_, ?_, ?_, ?_, ?_, ?_, ?_, ?_, ?_, ?_, ?_, ?_, trivial⟩ ?_
      · rintro Fr _
        refine SO.v rfl (opv_move rfl) ?_
        exact SO.nilZ fun a w h1 h2 h3 h4 h5 => PZ.of h1 h3 h5 (.cons () (.cons () (.nil ⟨EnvAll.of h2 ⟨rfl, rfl, trivial⟩, h4⟩)))
      · rintro Fr _
        refine SO.v rfl (opv_neqN (e := t9) Try.underlying28 rfl) ?_
        exact SO.nilZ fun a w h1 h2 h3 h4 h5 => PZ.of h1 h3 h5 (.cons () (.cons () (.nil ⟨EnvAll.of h2 ⟨rfl, rfl, trivial⟩, h4⟩)))
      · rintro Fr _
        refine SO.v rfl (opv_move rfl) ?_
        exact SO.nilZ fun a w h1 h2 h3 h4 h5 => PZ.of h1 h3 h5 (.cons () (.cons () (.nil ⟨EnvAll.of h2 ⟨rfl, rfl, trivial⟩, h4⟩)))
      · rintro Fr _
        refine SO.passF rfl rfl rfl b12 rfl rfl ?_
        exact SO.nilZ fun a w h1 h2 h3 h4 h5 => PZ.of h1 h3 h5 (.cons () (.cons () (.nil ⟨EnvAll.of h2 ⟨rfl, rfl, trivial⟩, h4⟩)))
      · rintro Fr _
        refine SO.passF rfl rfl rfl b12 rfl rfl ?_
        exact SO.nilZ fun a w h1 h2 h3 h4 h5 => PZ.of h1 h3 h5 (.cons () (.cons () (.nil ⟨EnvAll.of h2 ⟨rfl, rfl, trivial⟩, h4⟩)))
      · rintro Fr _
        refine SO.passF rfl rfl rfl b12 rfl rfl ?_
        exact SO.nilZ fun a w h1 h2 h3 h4 h5 => PZ.of h1 h3 h5 (.cons () (.cons () (.nil ⟨EnvAll.of h2 ⟨rfl, rfl, trivial⟩, h4⟩)))
      · rintro Fr _
        refine SO.passF rfl rfl rfl b12 rfl rfl ?_
        exact SO.nilZ fun a w h1 h2 h3 h4 h5 => PZ.of h1 h3 h5 (.cons () (.cons () (.nil ⟨EnvAll.of h2 ⟨rfl, rfl, trivial⟩, h4⟩)))
      · rintro Fr _
        refine SO.passF rfl rfl rfl b12 rfl rfl ?_
        exact SO.nilZ fun a w h1 h2 h3 h4 h5 => PZ.of h1 h3 h5 (.cons () (.cons () (.nil ⟨EnvAll.of h2 ⟨rfl, rfl, trivial⟩, h4⟩)))
      · rintro Fr _ _
        refine SO.v rfl (opv_pick_t' b12 rfl rfl) ?_
        exact SO.nilZ fun a w h1 h2 h3 h4 h5 => PZ.of h1 h3 h5 (.cons () (.cons () (.cons () (.nil ⟨EnvAll.of h2 ⟨rfl, rfl, rfl, trivial⟩, h4⟩))))
      · rintro Fr _
        refine SO.v rfl (opv_move rfl) ?_
        exact SO.nilZ fun a w h1 h2 h3 h4 h5 => PZ.of h1 h3 h5 (.cons () (.cons () (.nil ⟨EnvAll.of h2 ⟨rfl, rfl, trivial⟩, h4⟩)))
      · rintro Fr _
        refine SO.passF rfl rfl rfl rfl rfl rfl ?_
        exact SO.nilZ fun a w h1 h2 h3 h4 h5 => PZ.of h1 h3 h5 (.cons () (.cons () (.nil ⟨EnvAll.of h2 ⟨rfl, rfl, trivial⟩, h4⟩)))
      · rintro Fr _
        refine SO.passF rfl rfl rfl rfl rfl rfl ?_
        exact SO.nilZ fun a w h1 h2 h3 h4 h5 => PZ.of h1 h3 h5 (.cons () (.cons () (.nil ⟨EnvAll.of h2 ⟨rfl, rfl, trivial⟩, h4⟩)))
      · rintro Fr _
        refine SO.passF rfl rfl rfl rfl rfl rfl ?_
        exact SO.nilZ fun a w h1 h2 h3 h4 h5 => PZ.of h1 h3 h5 (.cons () (.cons () (.nil ⟨EnvAll.of h2 ⟨rfl, rfl, trivial⟩, h4⟩)))
      · rintro Fr _
        refine SO.passF rfl rfl rfl rfl rfl rfl ?_
        exact SO.nilZ fun a w h1 h2 h3 h4 h5 => PZ.of h1 h3 h5 (.cons () (.cons () (.nil ⟨EnvAll.of h2 ⟨rfl, rfl, trivial⟩, h4⟩)))
      · rintro Fr _
        refine SO.passF rfl rfl rfl rfl rfl rfl ?_
        exact SO.nilZ fun a w h1 h2 h3 h4 h5 => PZ.of h1 h3 h5 (.cons () (.cons () (.nil ⟨EnvAll.of h2 ⟨rfl, rfl, trivial⟩, h4⟩)))
      · rintro Fr _
        refine SO.passF rfl rfl rfl rfl rfl rfl ?_
        exact SO.nilZ fun a w h1 h2 h3 h4 h5 => PZ.of h1 h3 h5 (.cons () (.cons () (.nil ⟨EnvAll.of h2 ⟨rfl, rfl, trivial⟩, h4⟩)))
      · rintro Fr _
        refine SO.passF rfl rfl rfl rfl rfl rfl ?_
        exact SO.nilZ fun a w h1 h2 h3 h4 h5 => PZ.of h1 h3 h5 (.cons () (.cons () (.nil ⟨EnvAll.of h2 ⟨rfl, rfl, trivial⟩, h4⟩)))
      · rintro Fr _ _
        refine SO.v rfl (opv_pick_tt rfl rfl) ?_
        exact SO.nilZ fun a w h1 h2 h3 h4 h5 => PZ.of h1 h3 h5 (.cons () (.cons () (.cons () (.nil ⟨EnvAll.of h2 ⟨rfl, rfl, rfl, trivial⟩, h4⟩))))
      rintro _ _ _ _ _ _ _ _ _ _ _ _
      refine S.to (ρ' := [(2, bp b3 0), (3, bp b4 0), (4, bp b7 0), (50, .bool true)]) ⟨rfl, rfl, rfl, rfl, trivial⟩ ?_
      cases h
      refine S.b8 ?_
      refine S.b8 ?_
      refine S.b8 ?_
      refine S.b8 ?_
      refine S.b8 ?_
      refine S.b8 ?_
      refine S.b8 ?_
      refine S.b8 ?_
      refine S.b8 ?_
      refine S.to ?_ (hk1 () trivial)
      exact ⟨rfl, rfl, rfl, rfl, trivial⟩
    replace h := cond_f b12 h
    rcases bool_or (decide (a0.mark < 1)) with b13 | b13
    · replace h := cond_t b13 h
      refine S.draw2 (Y := fun Q => ∃ (_ _ _ _ _ _ _ _ _ _ _ _ _ : Unit), Q [(6, errV 59 t9), (2, bp b3 0), (5, bp b11 0), (3, bp b4 0), (4, bp b7 0)] [Box b11 [.int .u64 t8.Value, .int .u32 t8.Version, .int .i64 t8.Mark], Box bp1 [v1_l, .int .u32 a1.limit], Own 55 ek_api_Cell v1_l a1.l, Box b7 [.int .i64 x5.Cell, .int .u32 x5.Version, .int .u64 x5.Old, .int .u64 x5.New, .bool x5.Write], Box b4 [bp bp1 0], Box bp0 [.int .i64 a0.mark, v0_l, .int .i64 a0.status, .int .i64 (w64 (a0.at_ + 1))], Box b3 [bp bp0 0], Own 53 ek_tx_Entry v0_l a0.l, F]) (Z := fun Q => ∀ (_ _ _ _ _ _ _ _ _ _ _ _ : Unit), Q [(2, bp b3 0), (3, bp b4 0), (4, bp b7 0), (50, .bool true)] [Box b11 [.int .u64 t8.Value, .int .u32 t8.Version, .int .i64 t8.Mark], Box bp1 [v1_l, .int .u32 a1.limit], Own 55 ek_api_Cell v1_l a1.l, Box b7 [.int .i64 x5.Cell, .int .u32 x5.Version, .int .u64 x5.Old, .int .u64 x5.New, .bool x5.Write], Box b4 [bp bp1 0], Box bp0 [.int .i64 a0.mark, v0_l, .int .i64 a0.status, .int .i64 (w64 (a0.at_ + 1))], Box b3 [bp bp0 0], Own 53 ek_tx_Entry v0_l a0.l, F]) (T := [tS 6 (errV 59 t9), tS 2 (bp b3 0), tS 5 (bp b11 0), tE [(3, bp b4 0), (4, bp b7 0)], tR (Box b11 [.int .u64 t8.Value, .int .u32 t8.Version, .int .i64 t8.Mark]), tR (Box bp1 [v1_l, .int .u32 a1.limit]), tR (Own 55 ek_api_Cell v1_l a1.l), tR (Box b7 [.int .i64 x5.Cell, .int .u32 x5.Version, .int .u64 x5.Old, .int .u64 x5.New, .bool x5.Write]), tR (Box b4 [bp bp1 0]), tR (Box bp0 [.int .i64 a0.mark, v0_l, .int .i64 a0.status, .int .i64 (w64 (a0.at_ + 1))]), tR (Box b3 [bp bp0 0]), tR (Own 53 ek_tx_Entry v0_l a0.l), tR (F), tS 33 (errV 59 t9), tS 34 (.bool t9.isSome), tS 35 (.bool t9.isSome), tS 36 (bp bp0 0), tS 37 (bp bp0 0), tS 38 (bp bp0 0), tS 39 (.int .i64 a0.mark), tS 40 (.bool (decide (a0.mark < 1))), tS 41 (.bool (decide (a0.mark < 1))), tS 42 (.bool (decide (a0.mark < 1))), tS 43 (undef), tS 44 (undef), tS 45 (undef), tS 46 (undef), tS 47 (undef), tS 48 (undef), tS 49 (undef), tS 50 (.bool true)]) (D := [⟨[0], [], [13]⟩, ⟨[13], [], [14]⟩, ⟨[14], [], [15]⟩, ⟨[1, 15, 10], [], [16]⟩, ⟨[15, 16], [], [17]⟩, ⟨[15, 17], [], [18]⟩, ⟨[15, 18, 9], [], [19]⟩, ⟨[15, 19], [], [20]⟩, ⟨[15, 20], [], [21]⟩, ⟨[21], [], [22]⟩, ⟨[22], [], [23]⟩, ⟨[22], [], [24]⟩, ⟨[22], [], [25]⟩, ⟨[22], [], [26]⟩, ⟨[22], [], [27]⟩, ⟨[22], [], [28]⟩, ⟨[22], [], [29]⟩, ⟨[22, 29], [], [30]⟩]) (ini := [0, 1, 2, 3, 4, 5, 6, 7, 8, 9, 10, 11, 12]) (fin := [1, 3, 30, 4, 5, 6, 7, 8, 9, 10, 11, 12]) (bf := [[], [0], [0, 1], [0, 1, 2], [0, 1, 2, 3], [0, 1, 2, 3, 4], [0, 1, 2, 3, 4, 5], [0, 1, 2, 3, 4, 5, 6], [0, 1, 2, 3, 4, 5, 6, 7], [0, 1, 2, 3, 4, 5, 6, 7, 8], [0, 1, 2, 3, 4, 5, 6, 7, 8, 9], [0, 1, 2, 3, 4, 5, 6, 7, 8, 9, 10], [0, 1, 2, 3, 4, 5, 6, 7, 8, 9], [0, 1, 2, 3, 4, 5, 6, 7, 8, 9, 12], [0, 1, 2, 3, 4, 5, 6, 7, 8, 9, 12, 13], [0, 1, 2, 3, 4, 5, 6, 7, 8, 9, 12, 13, 14], [0, 1, 2, 3, 4, 5, 6, 7, 8, 9, 10, 11, 12, 13, 14, 15], [0, 1, 2, 3, 4, 5, 6, 7, 8, 9, 10, 11, 12, 13, 14, 15, 16]]) (by kernel_rfl) (by kernel_rfl) (fun Q => by kernel_rfl) (fun x w h1 h2 => ⟨(), (), (), (), (), (), (), (), (), (), (), (), (), EnvAll.of h1 ⟨rfl, rfl, rfl, rfl, rfl, trivial⟩, h2⟩) (fun Q => by kernel_rfl) ⟨?_, ?_, ?_, ?_, ?_, ?_, ?_, ?_, ?_, ?_, ?_, ?_, ?_, ?_, ?_, ?_, ?_, ?_, trivial⟩ ?_
      · rintro Fr _
        refine SO.v rfl (opv_move rfl) ?_
        exact SO.nilZ fun a w h1 h2 h3 h4 h5 => PZ.of h1 h3 h5 (.cons () (.cons () (.nil ⟨EnvAll.of h2 ⟨rfl, rfl, trivial⟩, h4⟩)))
      · rintro Fr _
        refine SO.v rfl (opv_neqN (e := t9) Try.underlying28 rfl) ?_
        exact SO.nilZ fun a w h1 h2 h3 h4 h5 => PZ.of h1 h3 h5 (.cons () (.cons () (.nil ⟨EnvAll.of h2 ⟨rfl, rfl, trivial⟩, h4⟩)))
      · rintro Fr _
        refine SO.v rfl (opv_move rfl) ?_
        exact SO.nilZ fun a w h1 h2 h3 h4 h5 => PZ.of h1 h3 h5 (.cons () (.cons () (.nil ⟨EnvAll.of h2 ⟨rfl, rfl, trivial⟩, h4⟩)))
      · rintro Fr _ _ _
        refine SO.takeT rfl rfl rfl b12 ?_
        refine SO.load1 rfl Try.isAgg38 rfl rfl ?_
        exact SO.nilZ fun a w h1 h2 h3 h4 h5 => PZ.of h1 h3 h5 (.cons () (.cons () (.cons () (.cons () (.nil ⟨EnvAll.of h2 ⟨rfl, rfl, rfl, trivial⟩, h4⟩)))))
      · rintro Fr _ _
        refine SO.takeT rfl rfl rfl b12 ?_
        refine SO.v rfl (opv_nilCheck rfl) ?_
        exact SO.nilZ fun a w h1 h2 h3 h4 h5 => PZ.of h1 h3 h5 (.cons () (.cons () (.cons () (.nil ⟨EnvAll.of h2 ⟨rfl, rfl, rfl, trivial⟩, h4⟩))))
      · rintro Fr _ _
        refine SO.takeT rfl rfl rfl b12 ?_
        refine SO.v rfl (opv_fieldAddr Try.underlying64 rfl Try.sizeOf3 rfl rfl) ?_
        exact SO.nilZ fun a w h1 h2 h3 h4 h5 => PZ.of h1 h3 h5 (.cons () (.cons () (.cons () (.nil ⟨EnvAll.of h2 ⟨rfl, rfl, rfl, trivial⟩, h4⟩))))
      · rintro Fr _ _ _
        refine SO.takeT rfl rfl rfl b12 ?_
        refine SO.load1 rfl Try.isAgg3 rfl rfl ?_
        exact SO.nilZ fun a w h1 h2 h3 h4 h5 => PZ.of h1 h3 h5 (.cons () (.cons () (.cons () (.cons () (.nil ⟨EnvAll.of h2 ⟨rfl, rfl, rfl, trivial⟩, h4⟩)))))
      · rintro Fr _ _
        refine SO.takeT rfl rfl rfl b12 ?_
        refine SO.v rfl (opv_lss rfl rfl) ?_
        exact SO.nilZ fun a w h1 h2 h3 h4 h5 => PZ.of h1 h3 h5 (.cons () (.cons () (.cons () (.nil ⟨EnvAll.of h2 ⟨rfl, rfl, rfl, trivial⟩, h4⟩))))
      · rintro Fr _ _
        refine SO.v rfl (opv_pick_f' b12 rfl rfl) ?_
        exact SO.nilZ fun a w h1 h2 h3 h4 h5 => PZ.of h1 h3 h5 (.cons () (.cons () (.cons () (.nil ⟨EnvAll.of h2 ⟨rfl, rfl, rfl, trivial⟩, h4⟩))))
      · rintro Fr _
        refine SO.v rfl (opv_move rfl) ?_
        exact SO.nilZ fun a w h1 h2 h3 h4 h5 => PZ.of h1 h3 h5 (.cons () (.cons () (.nil ⟨EnvAll.of h2 ⟨rfl, rfl, trivial⟩, h4⟩)))
      · rintro Fr _
        refine SO.passF rfl rfl rfl b13 rfl rfl ?_
        exact SO.nilZ fun a w h1 h2 h3 h4 h5 => PZ.of h1 h3 h5 (.cons () (.cons () (.nil ⟨EnvAll.of h2 ⟨rfl, rfl, trivial⟩, h4⟩)))
      · rintro Fr _
        refine SO.passF rfl rfl rfl b13 rfl rfl ?_
        exact SO.nilZ fun a w h1 h2 h3 h4 h5 => PZ.of h1 h3 h5 (.cons () (.cons () (.nil ⟨EnvAll.of h2 ⟨rfl, rfl, trivial⟩, h4⟩)))
      · rintro Fr _
        refine SO.passF rfl rfl rfl b13 rfl rfl ?_
        exact SO.nilZ fun a w h1 h2 h3 h4 h5 => PZ.of h1 h3 h5 (.cons () (.cons () (.nil ⟨EnvAll.of h2 ⟨rfl, rfl, trivial⟩, h4⟩)))
      · rintro Fr _
        refine SO.passF rfl rfl rfl b13 rfl rfl ?_
        exact SO.nilZ fun a w h1 h2 h3 h4 h5 => PZ.of h1 h3 h5 (.cons () (.cons () (.nil ⟨EnvAll.of h2 ⟨rfl, rfl, trivial⟩, h4⟩)))
      · rintro Fr _
        refine SO.passF rfl rfl rfl b13 rfl rfl ?_
        exact SO.nilZ fun a w h1 h2 h3 h4 h5 => PZ.of h1 h3 h5 (.cons () (.cons () (.nil ⟨EnvAll.of h2 ⟨rfl, rfl, trivial⟩, h4⟩)))
      · rintro Fr _
        refine SO.passF rfl rfl rfl b13 rfl rfl ?_
        exact SO.nilZ fun a w h1 h2 h3 h4 h5 => PZ.of h1 h3 h5 (.cons () (.cons () (.nil ⟨EnvAll.of h2 ⟨rfl, rfl, trivial⟩, h4⟩)))
      · rintro Fr _
        refine SO.passF rfl rfl rfl b13 rfl rfl ?_
        exact SO.nilZ fun a w h1 h2 h3 h4 h5 => PZ.of h1 h3 h5 (.cons () (.cons () (.nil ⟨EnvAll.of h2 ⟨rfl, rfl, trivial⟩, h4⟩)))
      · rintro Fr _ _
        refine SO.v rfl (opv_pick_t' b13 rfl rfl) ?_
        exact SO.nilZ fun a w h1 h2 h3 h4 h5 => PZ.of h1 h3 h5 (.cons () (.cons () (.cons () (.nil ⟨EnvAll.of h2 ⟨rfl, rfl, rfl, trivial⟩, h4⟩))))
      rintro _ _ _ _ _ _ _ _ _ _ _ _
      refine S.to (ρ' := [(2, bp b3 0), (3, bp b4 0), (4, bp b7 0), (50, .bool true)]) ⟨rfl, rfl, rfl, rfl, trivial⟩ ?_
      cases h
      refine S.b8 ?_
      refine S.b8 ?_
      refine S.b8 ?_
      refine S.b8 ?_
      refine S.b8 ?_
      refine S.b8 ?_
      refine S.b8 ?_
      refine S.b8 ?_
      refine S.b8 ?_
      refine S.to ?_ (hk1 () trivial)
      exact ⟨rfl, rfl, rfl, rfl, trivial⟩
    replace h := cond_f b13 h
    refine S.draw2 (Y := fun Q => ∃ (_ _ _ _ _ _ _ _ _ _ _ _ _ : Unit), Q [(6, errV 59 t9), (2, bp b3 0), (5, bp b11 0), (3, bp b4 0), (4, bp b7 0)] [Box b11 [.int .u64 t8.Value, .int .u32 t8.Version, .int .i64 t8.Mark], Box bp1 [v1_l, .int .u32 a1.limit], Own 55 ek_api_Cell v1_l a1.l, Box b7 [.int .i64 x5.Cell, .int .u32 x5.Version, .int .u64 x5.Old, .int .u64 x5.New, .bool x5.Write], Box b4 [bp bp1 0], Box bp0 [.int .i64 a0.mark, v0_l, .int .i64 a0.status, .int .i64 (w64 (a0.at_ + 1))], Box b3 [bp bp0 0], Own 53 ek_tx_Entry v0_l a0.l, F]) (Z := fun Q => ∀ (_ _ _ _ _ _ _ _ _ _ _ _ : Unit), Q [(2, bp b3 0), (3, bp b4 0), (4, bp b7 0), (50, .bool (t8.Mark != a0.mark))] [Box b11 [.int .u64 t8.Value, .int .u32 t8.Version, .int .i64 t8.Mark], Box bp1 [v1_l, .int .u32 a1.limit], Own 55 ek_api_Cell v1_l a1.l, Box b7 [.int .i64 x5.Cell, .int .u32 x5.Version, .int .u64 x5.Old, .int .u64 x5.New, .bool x5.Write], Box b4 [bp bp1 0], Box bp0 [.int .i64 a0.mark, v0_l, .int .i64 a0.status, .int .i64 (w64 (a0.at_ + 1))], Box b3 [bp bp0 0], Own 53 ek_tx_Entry v0_l a0.l, F]) (T := [tS 6 (errV 59 t9), tS 2 (bp b3 0), tS 5 (bp b11 0), tE [(3, bp b4 0), (4, bp b7 0)], tR (Box b11 [.int .u64 t8.Value, .int .u32 t8.Version, .int .i64 t8.Mark]), tR (Box bp1 [v1_l, .int .u32 a1.limit]), tR (Own 55 ek_api_Cell v1_l a1.l), tR (Box b7 [.int .i64 x5.Cell, .int .u32 x5.Version, .int .u64 x5.Old, .int .u64 x5.New, .bool x5.Write]), tR (Box b4 [bp bp1 0]), tR (Box bp0 [.int .i64 a0.mark, v0_l, .int .i64 a0.status, .int .i64 (w64 (a0.at_ + 1))]), tR (Box b3 [bp bp0 0]), tR (Own 53 ek_tx_Entry v0_l a0.l), tR (F), tS 33 (errV 59 t9), tS 34 (.bool t9.isSome), tS 35 (.bool t9.isSome), tS 36 (bp bp0 0), tS 37 (bp bp0 0), tS 38 (bp bp0 0), tS 39 (.int .i64 a0.mark), tS 40 (.bool (decide (a0.mark < 1))), tS 41 (.bool (decide (a0.mark < 1))), tS 42 (.bool (decide (a0.mark < 1))), tS 43 (bp b11 2), tS 44 (.int .i64 t8.Mark), tS 45 (bp bp0 0), tS 46 (bp bp0 0), tS 47 (bp bp0 0), tS 48 (.int .i64 a0.mark), tS 49 (.bool (t8.Mark != a0.mark)), tS 50 (.bool (t8.Mark != a0.mark))]) (D := [⟨[0], [], [13]⟩, ⟨[13], [], [14]⟩, ⟨[14], [], [15]⟩, ⟨[1, 15, 10], [], [16]⟩, ⟨[15, 16], [], [17]⟩, ⟨[15, 17], [], [18]⟩, ⟨[15, 18, 9], [], [19]⟩, ⟨[15, 19], [], [20]⟩, ⟨[15, 20], [], [21]⟩, ⟨[21], [], [22]⟩, ⟨[2, 22], [], [23]⟩, ⟨[22, 23, 4], [], [24]⟩, ⟨[1, 22, 10], [], [25]⟩, ⟨[22, 25], [], [26]⟩, ⟨[22, 26], [], [27]⟩, ⟨[22, 27, 9], [], [28]⟩, ⟨[22, 24, 28], [], [29]⟩, ⟨[22, 29], [], [30]⟩]) (ini := [0, 1, 2, 3, 4, 5, 6, 7, 8, 9, 10, 11, 12]) (fin := [1, 3, 30, 4, 5, 6, 7, 8, 9, 10, 11, 12]) (bf := [[], [0], [0, 1], [0, 1, 2], [0, 1, 2, 3], [0, 1, 2, 3, 4], [0, 1, 2, 3, 4, 5], [0, 1, 2, 3, 4, 5, 6], [0, 1, 2, 3, 4, 5, 6, 7], [0, 1, 2, 3, 4, 5, 6, 7, 8], [0, 1, 2, 3, 4, 5, 6, 7, 8, 9], [0, 1, 2, 3, 4, 5, 6, 7, 8, 9, 10], [0, 1, 2, 3, 4, 5, 6, 7, 8, 9], [0, 1, 2, 3, 4, 5, 6, 7, 8, 9, 12], [0, 1, 2, 3, 4, 5, 6, 7, 8, 9, 12, 13], [0, 1, 2, 3, 4, 5, 6, 7, 8, 9, 12, 13, 14], [0, 1, 2, 3, 4, 5, 6, 7, 8, 9, 10, 11, 12, 13, 14, 15], [0, 1, 2, 3, 4, 5, 6, 7, 8, 9, 10, 11, 12, 13, 14, 15, 16]]) (by kernel_rfl) (by kernel_rfl) (fun Q => by kernel_rfl) (fun x w h1 h2 => ⟨(), (), (), (), (), (), (), (), (), (), (), (), (), EnvAll.of h1 ⟨rfl, rfl, rfl, rfl, rfl, trivial⟩, h2⟩) (fun Q => by kernel_rfl) ⟨?_, ?_, ?_, ?_, ?_, ?_, ?_, ?_, ?_, ?_, ?_, ?_, ?_, ?_, ?_, ?_, ?_, ?_, trivial⟩ ?_
    · rintro Fr _
      refine SO.v rfl (opv_move rfl) ?_
      exact SO.nilZ fun a w h1 h2 h3 h4 h5 => PZ.of h1 h3 h5 (.cons () (.cons () (.nil ⟨EnvAll.of h2 ⟨rfl, rfl, trivial⟩, h4⟩)))
    · rintro Fr _
      refine SO.v rfl (opv_neqN (e := t9) Try.underlying28 rfl) ?_
      exact SO.nilZ fun a w h1 h2 h3 h4 h5 => PZ.of h1 h3 h5 (.cons () (.cons () (.nil ⟨EnvAll.of h2 ⟨rfl, rfl, trivial⟩, h4⟩)))
    · rintro Fr _
      refine SO.v rfl (opv_move rfl) ?_
      exact SO.nilZ fun a w h1 h2 h3 h4 h5 => PZ.of h1 h3 h5 (.cons () (.cons () (.nil ⟨EnvAll.of h2 ⟨rfl, rfl, trivial⟩, h4⟩)))
    · rintro Fr _ _ _
      refine SO.takeT rfl rfl rfl b12 ?_
      refine SO.load1 rfl Try.isAgg38 rfl rfl ?_
      exact SO.nilZ fun a w h1 h2 h3 h4 h5 => PZ.of h1 h3 h5 (.cons () (.cons () (.cons () (.cons () (.nil ⟨EnvAll.of h2 ⟨rfl, rfl, rfl, trivial⟩, h4⟩)))))
    · rintro Fr _ _
      refine SO.takeT rfl rfl rfl b12 ?_
      refine SO.v rfl (opv_nilCheck rfl) ?_
      exact SO.nilZ fun a w h1 h2 h3 h4 h5 => PZ.of h1 h3 h5 (.cons () (.cons () (.cons () (.nil ⟨EnvAll.of h2 ⟨rfl, rfl, rfl, trivial⟩, h4⟩))))
    · rintro Fr _ _
      refine SO.takeT rfl rfl rfl b12 ?_
      refine SO.v rfl (opv_fieldAddr Try.underlying64 rfl Try.sizeOf3 rfl rfl) ?_
      exact SO.nilZ fun a w h1 h2 h3 h4 h5 => PZ.of h1 h3 h5 (.cons () (.cons () (.cons () (.nil ⟨EnvAll.of h2 ⟨rfl, rfl, rfl, trivial⟩, h4⟩))))
    · rintro Fr _ _ _
      refine SO.takeT rfl rfl rfl b12 ?_
      refine SO.load1 rfl Try.isAgg3 rfl rfl ?_
      exact SO.nilZ fun a w h1 h2 h3 h4 h5 => PZ.of h1 h3 h5 (.cons () (.cons () (.cons () (.cons () (.nil ⟨EnvAll.of h2 ⟨rfl, rfl, rfl, trivial⟩, h4⟩)))))
    · rintro Fr _ _
      refine SO.takeT rfl rfl rfl b12 ?_
      refine SO.v rfl (opv_lss rfl rfl) ?_
      exact SO.nilZ fun a w h1 h2 h3 h4 h5 => PZ.of h1 h3 h5 (.cons () (.cons () (.cons () (.nil ⟨EnvAll.of h2 ⟨rfl, rfl, rfl, trivial⟩, h4⟩))))
    · rintro Fr _ _
      refine SO.v rfl (opv_pick_f' b12 rfl rfl) ?_
      exact SO.nilZ fun a w h1 h2 h3 h4 h5 => PZ.of h1 h3 h5 (.cons () (.cons () (.cons () (.nil ⟨EnvAll.of h2 ⟨rfl, rfl, rfl, trivial⟩, h4⟩))))
    · rintro Fr _
      refine SO.v rfl (opv_move rfl) ?_
      exact SO.nilZ fun a w h1 h2 h3 h4 h5 => PZ.of h1 h3 h5 (.cons () (.cons () (.nil ⟨EnvAll.of h2 ⟨rfl, rfl, trivial⟩, h4⟩)))
    · rintro Fr _ _
      refine SO.takeT rfl rfl rfl b13 ?_
      refine SO.v rfl (opv_fieldAddr Try.underlying55 rfl Try.sizeOf3 rfl rfl) ?_
      exact SO.nilZ fun a w h1 h2 h3 h4 h5 => PZ.of h1 h3 h5 (.cons () (.cons () (.cons () (.nil ⟨EnvAll.of h2 ⟨rfl, rfl, rfl, trivial⟩, h4⟩))))
    · rintro Fr _ _ _
      refine SO.takeT rfl rfl rfl b13 ?_
      refine SO.load1 rfl Try.isAgg3 rfl rfl ?_
      exact SO.nilZ fun a w h1 h2 h3 h4 h5 => PZ.of h1 h3 h5 (.cons () (.cons () (.cons () (.cons () (.nil ⟨EnvAll.of h2 ⟨rfl, rfl, rfl, trivial⟩, h4⟩)))))
    · rintro Fr _ _ _
      refine SO.takeT rfl rfl rfl b13 ?_
      refine SO.load1 rfl Try.isAgg38 rfl rfl ?_
      exact SO.nilZ fun a w h1 h2 h3 h4 h5 => PZ.of h1 h3 h5 (.cons () (.cons () (.cons () (.cons () (.nil ⟨EnvAll.of h2 ⟨rfl, rfl, rfl, trivial⟩, h4⟩)))))
    · rintro Fr _ _
      refine SO.takeT rfl rfl rfl b13 ?_
      refine SO.v rfl (opv_nilCheck rfl) ?_
      exact SO.nilZ fun a w h1 h2 h3 h4 h5 => PZ.of h1 h3 h5 (.cons () (.cons () (.cons () (.nil ⟨EnvAll.of h2 ⟨rfl, rfl, rfl, trivial⟩, h4⟩))))
    · rintro Fr _ _
      refine SO.takeT rfl rfl rfl b13 ?_
      refine SO.v rfl (opv_fieldAddr Try.underlying64 rfl Try.sizeOf3 rfl rfl) ?_
      exact SO.nilZ fun a w h1 h2 h3 h4 h5 => PZ.of h1 h3 h5 (.cons () (.cons () (.cons () (.nil ⟨EnvAll.of h2 ⟨rfl, rfl, rfl, trivial⟩, h4⟩))))
    · rintro Fr _ _ _
      refine SO.takeT rfl rfl rfl b13 ?_
      refine SO.load1 rfl Try.isAgg3 rfl rfl ?_
      exact SO.nilZ fun a w h1 h2 h3 h4 h5 => PZ.of h1 h3 h5 (.cons () (.cons () (.cons () (.cons () (.nil ⟨EnvAll.of h2 ⟨rfl, rfl, rfl, trivial⟩, h4⟩)))))
    · rintro Fr _ _ _
      refine SO.takeT rfl rfl rfl b13 ?_
      refine SO.v rfl (opv_neq rfl rfl) ?_
      exact SO.nilZ fun a w h1 h2 h3 h4 h5 => PZ.of h1 h3 h5 (.cons () (.cons () (.cons () (.cons () (.nil ⟨EnvAll.of h2 ⟨rfl, rfl, rfl, rfl, trivial⟩, h4⟩)))))
    · rintro Fr _ _
      refine SO.v rfl (opv_pick_f' b13 rfl rfl) ?_
      exact SO.nilZ fun a w h1 h2 h3 h4 h5 => PZ.of h1 h3 h5 (.cons () (.cons () (.cons () (.nil ⟨EnvAll.of h2 ⟨rfl, rfl, rfl, trivial⟩, h4⟩))))
    rintro _ _ _ _ _ _ _ _ _ _ _ _
    refine S.to (ρ' := [(2, bp b3 0), (3, bp b4 0), (4, bp b7 0), (50, .bool (t8.Mark != a0.mark))]) ⟨rfl, rfl, rfl, rfl, trivial⟩ ?_
    cases h
    refine S.b8 ?_
    refine S.b8 ?_
    refine S.b8 ?_
    refine S.b8 ?_
    refine S.b8 ?_
    refine S.b8 ?_
    refine S.b8 ?_
    refine S.b8 ?_
    refine S.b8 ?_
    refine S.to ?_ (hk1 () trivial)
    exact ⟨rfl, rfl, rfl, rfl, trivial⟩
  rintro _ -
  replace h := hJ1
  rcases bool_or j50_1 with b14 | b14
  · replace h := cond_t b14 h
    refine S.condT rfl b14 ?_
    cases h
    refine S.drop ?_
    refine S.b2 ?_
    refine S.drop ?_
    refine S.b2 ?_
    refine S.drop ?_
    refine S.b3 ?_
    refine S.drop ?_
    refine S.b4 ?_
    refine S.b2 ?_
    refine S.b2 ?_
    refine S.b4 ?_
    refine S.b4 ?_
    exact S.ret0 Try.func19 rfl (fun w hs hk => hR w _ _ ⟨v0_l, v1_l, rfl, rfl⟩ hs hk)
  replace h := cond_f b14 h
  refine S.condF rfl b14 ?_
  refine S.skip ?_
  refine S.seq ?_
  refine S.region ?_
  refine SO.v rfl (opv_makeFunc rfl rfl) ?_
  refine SO.v rfl (opv_assign rfl) ?_
  refine SO.nil ?_
  refine S.seq ?_
  refine S.seq ?_
  refine S.region ?_
  refine SO.b6 ?_
  refine SO.load1 rfl Try.isAgg38 rfl rfl ?_
  refine SO.v rfl (opv_nilCheck rfl) ?_
  refine SO.v rfl (opv_fieldAddr Try.underlying64 rfl Try.sizeOf3 rfl rfl) ?_
  refine SO.b6 ?_
  refine SO.load1 rfl Try.isAgg3 rfl rfl ?_
  refine SO.v rfl (opv_eql rfl rfl) ?_
  refine SO.v rfl (opv_move rfl) ?_
  obtain ⟨c16, hc17, hgk⟩ := opt_bind h
  refine SO.cut 3 60 (.bool c16) [Box bp0 [.int .i64 a0.mark, v0_l, .int .i64 a0.status, .int .i64 (w64 (a0.at_ + 1))], Box b3 [bp bp0 0], Box b11 [.int .u64 t8.Value, .int .u32 t8.Version, .int .i64 t8.Mark], Box bp1 [v1_l, .int .u32 a1.limit], Own 55 ek_api_Cell v1_l a1.l, Box b7 [.int .i64 x5.Cell, .int .u32 x5.Version, .int .u64 x5.Old, .int .u64 x5.New, .bool x5.Write], Box b4 [bp bp1 0], Own 53 ek_tx_Entry v0_l a0.l, F] (fun l2 hk2 => ?_) ?_
  · clear hgk
    replace h := hc17
    rcases bool_or (a0.status == 1) with b15 | b15
    · replace h := cond_t b15 h
      refine SO.takeT rfl rfl rfl b15 ?_
      refine SO.v rfl (opv_fieldAddr Try.underlying53 rfl Try.sizeOf4 rfl rfl) ?_
      refine SO.takeT rfl rfl rfl b15 ?_
      refine SO.b5 ?_
      refine SO.load1 rfl Try.isAgg4 rfl rfl ?_
      cases h
      refine SO.v rfl (opv_pick_t' b15 rfl rfl) ?_
      refine SO.b8 ?_
      refine SO.b8 ?_
      refine SO.b8 ?_
      refine SO.b3 ?_
      refine SO.b8 ?_
      refine SO.b8 ?_
      refine SO.b8 ?_
      refine SO.b8 ?_
      refine SO.b8 ?_
      exact hk2.fitc (m := 3) rfl (rfl) rfl
    replace h := cond_f b15 h
    refine SO.passF rfl rfl rfl b15 rfl rfl ?_
    refine SO.passF rfl rfl rfl b15 rfl rfl ?_
    cases h
    refine SO.v rfl (opv_pick_f' b15 rfl rfl) ?_
    refine SO.b8 ?_
    refine SO.b8 ?_
    refine SO.b8 ?_
    refine SO.b8 ?_
    refine SO.b8 ?_
    refine SO.b8 ?_
    refine SO.b8 ?_
    refine SO.b8 ?_
    refine SO.b8 ?_
    exact hk2.fitc (m := 3) rfl (rfl) rfl
  clear hc17
  replace h := hgk
  refine SO.nil ?_
  refine S.to (ρ' := [(2, bp b3 0), (3, bp b4 0), (4, bp b7 0), (7, .func (.func 26) #[] #[bp b4 0, bp b7 0, bp b3 0]), (60, .bool c16)]) ⟨rfl, rfl, rfl, rfl, rfl, trivial⟩ ?_
  rcases bool_or c16 with b18 | b18
  · replace h := cond_t b18 h
    refine S.condT rfl b18 ?_
    refine S.region ?_
    refine SO.v rfl (opv_makeFunc rfl rfl) ?_
    refine SO.v rfl (opv_assign rfl) ?_
    refine SO.nil ?_
    refine S.seq ?_
    refine S.region ?_
    refine SO.v rfl (opv_move rfl) ?_
    obtain ⟨⟨t19, p20⟩, ht21, h⟩ := opt_bind h
    refine SO.b7 ?_
    refine SO.b1 ?_
    refine SO.b2 ?_
    refine SO.b6 ?_
    refine SO.b6 ?_
    refine SO.b6 ?_
    refine SO.b7 ?_
    have ct25 := desc_Desc_release_2.ct b4 bp1 v1_l b7 b3 bp0 v0_l _ _ _ _ _ ht21
    try dsimp only at ct25
    refine SO.call (pre := [Box _ _, Box _ _, Own _ _ _ _, Box _ _, Box _ _, Box _ _, Own _ _ _ _]) rfl Try.call28 rfl rfl rfl ct25 trivial ?_
    rintro _ _ ⟨u22_l, rfl, rfl⟩
    refine SO.b2 ?_
    refine SO.rd fun hr23 => ?_
    refine SO.v rfl (opv_assign rfl) ?_
    refine SO.nil ?_
    refine S.to (ρ' := [(8, errV 59 t19)]) ⟨rfl, trivial⟩ ?_
    refine S.seq ?_
    refine S.region ?_
    refine SO.v rfl (opv_move rfl) ?_
    refine SO.v rfl (opv_neqN (e := t19) Try.underlying28 rfl) ?_
    refine SO.nil ?_
    rcases bool_or t19.isSome with b24 | b24
    · replace h := cond_t b24 h
      refine S.condT rfl b24 ?_
      refine S.region ?_
      refine SO.v rfl (opv_move rfl) ?_
      cases h
    replace h := cond_f b24 h
    refine S.condF rfl b24 ?_
    refine S.skip ?_
    cases h
    refine S.b1 ?_
    refine S.drop ?_
    refine S.b2 ?_
    refine S.drop ?_
    refine S.b2 ?_
    refine S.drop ?_
    refine S.b4 ?_
    refine S.drop ?_
    refine S.b4 ?_
    refine S.b1 ?_
    refine S.b2 ?_
    refine S.b4 ?_
    refine S.b4 ?_
    exact S.fin0 Try.func19 rfl (fun w hs hk => hR w _ _ ⟨v0_l, u22_l, rfl, rfl⟩ hs hk)
  replace h := cond_f b18 h
  refine S.condF rfl b18 ?_
  refine S.skip ?_
  refine S.seq ?_
  refine S.region ?_
  refine SO.v rfl (opv_move rfl) ?_
  obtain ⟨⟨t26, p27⟩, ht28, h⟩ := opt_bind h
  refine SO.b7 ?_
  refine SO.b1 ?_
  refine SO.b2 ?_
  refine SO.b6 ?_
  refine SO.b6 ?_
  refine SO.b6 ?_
  refine SO.b7 ?_
  have ct32 := desc_Desc_release_1.ct b4 bp1 v1_l b7 b3 bp0 v0_l _ _ _ _ _ ht28
  try dsimp only at ct32
  refine SO.call (pre := [Box _ _, Box _ _, Own _ _ _ _, Box _ _, Box _ _, Box _ _, Own _ _ _ _]) rfl Try.call26 rfl rfl rfl ct32 trivial ?_
  rintro _ _ ⟨u29_l, rfl, rfl⟩
  refine SO.b2 ?_
  refine SO.rd fun hr30 => ?_
  refine SO.v rfl (opv_assign rfl) ?_
  refine SO.nil ?_
  refine S.to (ρ' := [(8, errV 59 t26)]) ⟨rfl, trivial⟩ ?_
  refine S.seq ?_
  refine S.region ?_
  refine SO.v rfl (opv_move rfl) ?_
  refine SO.v rfl (opv_neqN (e := t26) Try.underlying28 rfl) ?_
  refine SO.nil ?_
  rcases bool_or t26.isSome with b31 | b31
  · replace h := cond_t b31 h
    refine S.condT rfl b31 ?_
    refine S.region ?_
    refine SO.v rfl (opv_move rfl) ?_
    cases h
  replace h := cond_f b31 h
  refine S.condF rfl b31 ?_
  refine S.skip ?_
  cases h
  refine S.b1 ?_
  refine S.drop ?_
  refine S.b2 ?_
  refine S.drop ?_
  refine S.b2 ?_
  refine S.drop ?_
  refine S.b4 ?_
  refine S.drop ?_
  refine S.b4 ?_
  refine S.b1 ?_
  refine S.b2 ?_
  refine S.b4 ?_
  refine S.b4 ?_
  exact S.fin0 Try.func19 rfl (fun w hs hk => hR w _ _ ⟨v0_l, u29_l, rfl, rfl⟩ hs hk)
end Go.Proofs
namespace Go.Proofs
open Go.Sl Go.RowKit
/-! 20 (*padstone/desc.Desc).turn -/
def desc_Desc_turn.f (a0 : desc_Desc) (a1 : Int) : Option (desc_Desc) :=
  some ({ a0 with status := a1, at_ := 0 } : desc_Desc)
set_option maxHeartbeats 8000000 in
set_option maxRecDepth 100000 in
theorem desc_Desc_turn.ct (bp0 : Nat) (v0_l : Value) (a0 : desc_Desc) (a1 : Int) (rp0 : desc_Desc) (h : desc_Desc_turn.f a0 a1 = some rp0) :
    Ct Try.prog 20 [bp bp0 0, .int .i64 a1] (fun _ => True) [Box bp0 [.int .i64 a0.mark, v0_l, .int .i64 a0.status, .int .i64 a0.at_], Own 53 ek_tx_Entry v0_l a0.l] (fun u H' => ∃ rw0_l, u = .tuple #[] ∧ H' = [Box bp0 [.int .i64 rp0.mark, rw0_l, .int .i64 rp0.status, .int .i64 rp0.at_], Own 53 ek_tx_Entry rw0_l rp0.l]) := by
  unfold desc_Desc_turn.f at h
  refine Ct.intro (n := 11) Try.func20 rfl rfl rfl ?_
  intro R w0 F hF hR
  refine S.b1 ?_
  refine S.rd fun hr1 => ?_
  refine S.region ?_
  refine SO.v rfl (opv_move rfl) ?_
  refine SO.v rfl (opv_move rfl) ?_
  refine SO.v rfl (opv_move rfl) ?_
  refine SO.v rfl (opv_nilCheck rfl) ?_
  refine SO.v rfl (opv_fieldAddr Try.underlying64 rfl Try.sizeOf3 rfl rfl) ?_
  refine SO.b1 ?_
  refine SO.store1 Try.sizeOf3 rfl rfl rfl rfl ?_
  refine SO.v rfl (opv_nilCheck rfl) ?_
  refine SO.v rfl (opv_fieldAddr Try.underlying64 rfl Try.sizeOf3 rfl rfl) ?_
  refine SO.store1 Try.sizeOf3 rfl rfl rfl rfl ?_
  refine SO.nil ?_
  refine S.to (ρ' := []) trivial ?_
  cases h
  refine S.b2 ?_
  refine S.b2 ?_
  refine S.b2 ?_
  exact S.fin0 Try.func20 rfl (fun w hs hk => hR w _ _ ⟨v0_l, rfl, rfl⟩ hs hk)
end Go.Proofs
namespace Go.Proofs
open Go.Sl Go.RowKit
/-! 30 (*padstone/word.Store).Limit -/
def word_Store_Limit.f (a0 : word_Store) : Option (Int) :=
  some a0.limit
set_option maxHeartbeats 8000000 in
set_option maxRecDepth 100000 in
theorem word_Store_Limit.ct (bp0 : Nat) (v0_l : Value) (a0 : word_Store) (r0 : Int) (h : word_Store_Limit.f a0 = some r0) :
    Ct Try.prog 30 [bp bp0 0] (fun _ => True) [Box bp0 [v0_l, .int .u32 a0.limit], Own 55 ek_api_Cell v0_l a0.l] (fun u H' => u = .int .u32 r0 ∧ H' = [Box bp0 [v0_l, .int .u32 a0.limit], Own 55 ek_api_Cell v0_l a0.l]) := by
  unfold word_Store_Limit.f at h
  refine Ct.intro (n := 7) Try.func30 rfl rfl rfl ?_
  intro R w0 F hF hR
  refine S.b1 ?_
  refine S.rd fun hr1 => ?_
  refine S.seq ?_
  refine S.region ?_
  refine SO.v rfl (opv_assign rfl) ?_
  refine SO.nil ?_
  refine S.seq ?_
  refine S.region ?_
  refine SO.v rfl (opv_move rfl) ?_
  refine SO.v rfl (opv_nilCheck rfl) ?_
  refine SO.v rfl (opv_fieldAddr Try.underlying61 rfl Try.sizeOf22 rfl rfl) ?_
  refine SO.b1 ?_
  refine SO.load1 rfl Try.isAgg22 rfl rfl ?_
  refine SO.v rfl (opv_assign rfl) ?_
  refine SO.nil ?_
  cases h
  refine S.b2 ?_
  refine S.b2 ?_
  refine S.b2 ?_
  exact S.ret1 Try.func30 rfl rfl (fun w hs hk => hR w _ _ ⟨rfl, rfl⟩ hs hk)
end Go.Proofs
namespace Go.Proofs
open Go.Sl Go.RowKit
/-! 31 (*padstone/word.Store).Reserve -/
def word_Store_Reserve.f (a0 : word_Store) (a1 : Int) (a2 : Int) (a3 : Int) : Option (((Option Int) × word_Store)) :=
  (word_Store_has.f a0 a1).bind fun t2 => bif !t2 then (some ((some 2), a0)) else (bif decide (a3 < 1) then (some ((some 1), a0)) else ((at_ a0.l a1).bind fun x6 => (bif x6.Mark != 0 then ((at_ a0.l a1).bind fun x11 => some (x11.Mark != a3)) else (some false)).bind fun c9 => bif c9 then (some ((some 12), a0)) else ((at_ a0.l a1).bind fun x14 => bif x14.Version != a2 then (some ((some 10), a0)) else ((at_ a0.l a1).bind fun x17 => some (none, (⟨a0.l.set a1.toNat ({ x17 with Mark := a3 } : api_Cell), a0.limit⟩ : word_Store))))))
set_option maxHeartbeats 8000000 in
set_option maxRecDepth 100000 in
theorem word_Store_Reserve.ct (bp0 : Nat) (v0_l : Value) (a0 : word_Store) (a1 : Int) (a2 : Int) (a3 : Int) (r0 : Option Int) (rp0 : word_Store) (h : word_Store_Reserve.f a0 a1 a2 a3 = some (r0, rp0)) :
    Ct Try.prog 31 [bp bp0 0, .int .i64 a1, .int .u32 a2, .int .i64 a3] (fun _ => True) [Box bp0 [v0_l, .int .u32 a0.limit], Own 55 ek_api_Cell v0_l a0.l] (fun u H' => ∃ rw0_l, u = errV 59 r0 ∧ H' = [Box bp0 [rw0_l, .int .u32 rp0.limit], Own 55 ek_api_Cell rw0_l rp0.l]) := by
  unfold word_Store_Reserve.f at h
  refine Ct.intro (n := 62) Try.func31 rfl rfl rfl ?_
  intro R w0 F hF hR
  refine S.b1 ?_
  refine S.rd fun hr1 => ?_
  refine S.seq ?_
  refine S.region ?_
  refine SO.v rfl (opv_assign rfl) ?_
  refine SO.nil ?_
  refine S.seq ?_
  refine S.block ?_
  refine S.seq ?_
  refine S.region ?_
  refine SO.v rfl (opv_move rfl) ?_
  refine SO.v rfl (opv_move rfl) ?_
  obtain ⟨t2, ht3, h⟩ := opt_bind h
  refine SO.b1 ?_
  refine SO.call (pre := [Box _ _, Own _ _ _ _]) rfl Try.call25 rfl rfl rfl (word_Store_has.ct bp0 v0_l _ _ _ ht3) trivial ?_
  rintro _ _ ⟨rfl, rfl⟩
  refine SO.v rfl (opv_not rfl) ?_
  refine SO.v rfl (opv_assign rfl) ?_
  refine SO.nil ?_
  rcases bool_or (!t2) with b4 | b4
  · replace h := cond_t b4 h
    refine S.condT rfl b4 ?_
    refine S.seq ?_
    refine S.region ?_
    refine SO.v rfl (opv_iface Try.underlying59 rfl rfl) ?_
    refine SO.v rfl (opv_assign rfl) ?_
    refine SO.nil ?_
    refine S.to (ρ' := [(8, errV 59 (some 2))]) ⟨rfl, trivial⟩ ?_
    cases h
    refine S.b2 ?_
    refine S.b2 ?_
    refine S.b2 ?_
    exact S.ret1 Try.func31 rfl rfl (fun w hs hk => hR w _ _ ⟨v0_l, rfl, rfl⟩ hs hk)
  replace h := cond_f b4 h
  refine S.condF rfl b4 ?_
  refine S.seq ?_
  refine S.region ?_
  refine SO.v rfl (opv_move rfl) ?_
  refine SO.v rfl (opv_lss rfl rfl) ?_
  refine SO.v rfl (opv_assign rfl) ?_
  refine SO.nil ?_
  refine S.to (ρ' := [(0, bp bp0 0), (1, .int .i64 a1), (2, .int .u32 a2), (3, .int .i64 a3), (8, errV 59 none), (15, .bool (decide (a3 < 1)))]) ⟨rfl, rfl, rfl, rfl, rfl, rfl, trivial⟩ ?_
  rcases bool_or (decide (a3 < 1)) with b5 | b5
  · replace h := cond_t b5 h
    refine S.condT rfl b5 ?_
    refine S.seq ?_
    refine S.region ?_
    refine SO.v rfl (opv_iface Try.underlying59 rfl rfl) ?_
    refine SO.v rfl (opv_assign rfl) ?_
    refine SO.nil ?_
    cases h
    refine S.b2 ?_
    refine S.b2 ?_
    refine S.b2 ?_
    exact S.ret1 Try.func31 rfl rfl (fun w hs hk => hR w _ _ ⟨v0_l, rfl, rfl⟩ hs hk)
  replace h := cond_f b5 h
  refine S.condF rfl b5 ?_
  refine S.seq ?_
  refine S.region ?_
  refine SO.v rfl (opv_move rfl) ?_
  refine SO.v rfl (opv_nilCheck rfl) ?_
  refine SO.v rfl (opv_fieldAddr Try.underlying61 rfl Try.sizeOf32 rfl rfl) ?_
  refine SO.load1 rfl Try.isAgg32 rfl rfl ?_
  refine SO.v rfl (opv_move rfl) ?_
  obtain ⟨x6, hx7, h⟩ := opt_bind h
  refine SO.v rfl (opv_idx Try.underlying32 Try.sizeOf55 hr1 rfl rfl hx7) ?_
  refine SO.v rfl (opv_fieldIdx Try.underlying55 rfl Try.sizeOf3 hr1 hx7 rfl rfl) ?_
  refine SO.loadI1 (j := 2) rfl Try.isAgg3 (Rd.tail (Rd.head hr1)) hx7 rfl rfl rfl rfl ?_
  refine SO.v rfl (opv_neq rfl rfl) ?_
  refine SO.v rfl (opv_move rfl) ?_
  obtain ⟨c9, hc10, hgk⟩ := opt_bind h
  refine SO.cut 11 40 (.bool c9) [Box bp0 [v0_l, .int .u32 a0.limit], Own 55 ek_api_Cell v0_l a0.l, F] (fun l2 hk2 => ?_) ?_
  · clear hgk
    replace h := hc10
    rcases bool_or (x6.Mark != 0) with b8 | b8
    · replace h := cond_t b8 h
      refine SO.takeT rfl rfl rfl b8 ?_
      refine SO.v rfl (opv_move rfl) ?_
      refine SO.takeT rfl rfl rfl b8 ?_
      refine SO.v rfl (opv_nilCheck rfl) ?_
      refine SO.takeT rfl rfl rfl b8 ?_
      refine SO.v rfl (opv_fieldAddr Try.underlying61 rfl Try.sizeOf32 rfl rfl) ?_
      refine SO.takeT rfl rfl rfl b8 ?_
      refine SO.load1 rfl Try.isAgg32 rfl rfl ?_
      refine SO.takeT rfl rfl rfl b8 ?_
      refine SO.v rfl (opv_move rfl) ?_
      refine SO.takeT rfl rfl rfl b8 ?_
      obtain ⟨x11, hx12, h⟩ := opt_bind h
      refine SO.v rfl (opv_idx Try.underlying32 Try.sizeOf55 hr1 rfl rfl hx12) ?_
      refine SO.takeT rfl rfl rfl b8 ?_
      refine SO.v rfl (opv_fieldIdx Try.underlying55 rfl Try.sizeOf3 hr1 hx12 rfl rfl) ?_
      refine SO.takeT rfl rfl rfl b8 ?_
      refine SO.loadI1 (j := 2) rfl Try.isAgg3 (Rd.tail (Rd.head hr1)) hx12 rfl rfl rfl rfl ?_
      refine SO.takeT rfl rfl rfl b8 ?_
      refine SO.v rfl (opv_move rfl) ?_
      refine SO.takeT rfl rfl rfl b8 ?_
      refine SO.v rfl (opv_neq rfl rfl) ?_
      cases h
      refine SO.v rfl (opv_pick_t' b8 rfl rfl) ?_
      refine SO.b2 ?_
      refine SO.b2 ?_
      refine SO.b2 ?_
      exact hk2.fitc (m := 11) rfl (rfl) rfl
    replace h := cond_f b8 h
    refine SO.passF rfl rfl rfl b8 rfl rfl ?_
    refine SO.passF rfl rfl rfl b8 rfl rfl ?_
    refine SO.passF rfl rfl rfl b8 rfl rfl ?_
    refine SO.passF rfl rfl rfl b8 rfl rfl ?_
    refine SO.passF rfl rfl rfl b8 rfl rfl ?_
    refine SO.passF rfl rfl rfl b8 rfl rfl ?_
    refine SO.passF rfl rfl rfl b8 rfl rfl ?_
    refine SO.passF rfl rfl rfl b8 rfl rfl ?_
    refine SO.passF rfl rfl rfl b8 rfl rfl ?_
    refine SO.passF rfl rfl rfl b8 rfl rfl ?_
    cases h
    refine SO.v rfl (opv_pick_f' b8 rfl rfl) ?_
    refine SO.b2 ?_
    refine SO.b2 ?_
    refine SO.b2 ?_
    exact hk2.fitc (m := 11) rfl (rfl) rfl
  clear hc10
  replace h := hgk
  refine SO.v rfl (opv_assign rfl) ?_
  refine SO.nil ?_
  refine S.to (ρ' := [(0, bp bp0 0), (1, .int .i64 a1), (2, .int .u32 a2), (3, .int .i64 a3), (8, errV 59 none), (19, .bool c9)]) ⟨rfl, rfl, rfl, rfl, rfl, rfl, trivial⟩ ?_
  rcases bool_or c9 with b13 | b13
  · replace h := cond_t b13 h
    refine S.condT rfl b13 ?_
    refine S.seq ?_
    refine S.region ?_
    refine SO.v rfl (opv_iface Try.underlying59 rfl rfl) ?_
    refine SO.v rfl (opv_assign rfl) ?_
    refine SO.nil ?_
    cases h
    refine S.b2 ?_
    refine S.b2 ?_
    refine S.b2 ?_
    exact S.ret1 Try.func31 rfl rfl (fun w hs hk => hR w _ _ ⟨v0_l, rfl, rfl⟩ hs hk)
  replace h := cond_f b13 h
  refine S.condF rfl b13 ?_
  refine S.seq ?_
  refine S.region ?_
  refine SO.v rfl (opv_move rfl) ?_
  refine SO.v rfl (opv_nilCheck rfl) ?_
  refine SO.v rfl (opv_fieldAddr Try.underlying61 rfl Try.sizeOf32 rfl rfl) ?_
  refine SO.load1 rfl Try.isAgg32 rfl rfl ?_
  refine SO.v rfl (opv_move rfl) ?_
  obtain ⟨x14, hx15, h⟩ := opt_bind h
  refine SO.v rfl (opv_idx Try.underlying32 Try.sizeOf55 hr1 rfl rfl hx15) ?_
  refine SO.v rfl (opv_fieldIdx Try.underlying55 rfl Try.sizeOf22 hr1 hx15 rfl rfl) ?_
  refine SO.loadI1 (j := 1) rfl Try.isAgg22 (Rd.tail (Rd.head hr1)) hx15 rfl rfl rfl rfl ?_
  refine SO.v rfl (opv_move rfl) ?_
  refine SO.v rfl (opv_neq rfl rfl) ?_
  refine SO.v rfl (opv_assign rfl) ?_
  refine SO.nil ?_
  refine S.to (ρ' := [(0, bp bp0 0), (1, .int .i64 a1), (3, .int .i64 a3), (8, errV 59 none), (42, .bool (x14.Version != a2))]) ⟨rfl, rfl, rfl, rfl, rfl, trivial⟩ ?_
  rcases bool_or (x14.Version != a2) with b16 | b16
  · replace h := cond_t b16 h
    refine S.condT rfl b16 ?_
    refine S.seq ?_
    refine S.region ?_
    refine SO.v rfl (opv_iface Try.underlying59 rfl rfl) ?_
    refine SO.v rfl (opv_assign rfl) ?_
    refine SO.nil ?_
    cases h
    refine S.b2 ?_
    refine S.b2 ?_
    refine S.b2 ?_
    exact S.ret1 Try.func31 rfl rfl (fun w hs hk => hR w _ _ ⟨v0_l, rfl, rfl⟩ hs hk)
  replace h := cond_f b16 h
  refine S.condF rfl b16 ?_
  refine S.skip ?_
  refine S.inBlock ?_
  refine S.seq ?_
  refine S.region ?_
  refine SO.v rfl (opv_move rfl) ?_
  refine SO.v rfl (opv_nilCheck rfl) ?_
  refine SO.v rfl (opv_fieldAddr Try.underlying61 rfl Try.sizeOf32 rfl rfl) ?_
  refine SO.load1 rfl Try.isAgg32 rfl rfl ?_
  refine SO.v rfl (opv_move rfl) ?_
  refine SO.v rfl (opv_move rfl) ?_
  obtain ⟨x17, hx18, h⟩ := opt_bind h
  refine SO.v rfl (opv_idx Try.underlying32 Try.sizeOf55 hr1 rfl rfl hx18) ?_
  refine SO.v rfl (opv_fieldIdx Try.underlying55 rfl Try.sizeOf3 hr1 hx18 rfl rfl) ?_
  refine SO.b1 ?_
  refine SO.storeI1 (j := 2) (z' := ({ x17 with Mark := a3 } : api_Cell)) Try.sizeOf3 hx18 rfl rfl rfl rfl rfl rfl ?_
  refine SO.rd fun hr19 => ?_
  refine SO.nil ?_
  refine S.to (ρ' := [(8, errV 59 none)]) ⟨rfl, trivial⟩ ?_
  refine S.seq ?_
  refine S.region ?_
  refine SO.v rfl (opv_assign rfl) ?_
  refine SO.nil ?_
  cases h
  refine S.b2 ?_
  refine S.b1 ?_
  refine S.b2 ?_
  exact S.ret1 Try.func31 rfl rfl (fun w hs hk => hR w _ _ ⟨v0_l, rfl, rfl⟩ hs hk)
end Go.Proofs
namespace Go.Proofs
open Go.Sl Go.RowKit
/-! 21 (*padstone/desc.Desc).reserve -/
def desc_Desc_reserve.f (a0 : desc_Desc) (a1 : word_Store) : Option ((Int × desc_Desc × word_Store)) :=
  (at_ a0.l a0.at_).bind fun x3 => (word_Store_Read.f a1 x3.Cell).bind fun (t6, t7) => (bif t7.isNone then (bif t6.Mark != 0 then (some (t6.Mark != a0.mark)) else (some false)) else (some false)).bind fun j47_1 => bif j47_1 then (some (t6.Mark, a0, a1)) else ((bif t7.isSome then (some true) else (some (t6.Version != x3.Version))).bind fun c14 => bif c14 then ((desc_Desc_turn.f a0 2).bind fun p17 => some (0, p17, a1)) else ((bif x3.Write then ((word_Store_Limit.f a1).bind fun t22 => some (t6.Version == t22)) else (some false)).bind fun j78_2 => bif j78_2 then ((desc_Desc_turn.f a0 3).bind fun p25 => some (0, p25, a1)) else ((word_Store_Reserve.f a1 x3.Cell x3.Version a0.mark).bind fun (t29, p30) => bif t29.isSome then ((desc_Desc_turn.f a0 2).bind fun p37 => some (0, p37, p30)) else (some (0, ({ a0 with at_ := w64 (a0.at_ + 1) } : desc_Desc), p30)))))
set_option maxHeartbeats 8000000 in
set_option maxRecDepth 100000 in
theorem desc_Desc_reserve.ct (bp0 : Nat) (v0_l : Value) (bp1 : Nat) (v1_l : Value) (a0 : desc_Desc) (a1 : word_Store) (r0 : Int) (rp0 : desc_Desc) (rp1 : word_Store) (h : desc_Desc_reserve.f a0 a1 = some (r0, rp0, rp1)) :
    Ct Try.prog 21 [bp bp0 0, bp bp1 0] (fun _ => True) [Box bp0 [.int .i64 a0.mark, v0_l, .int .i64 a0.status, .int .i64 a0.at_], Own 53 ek_tx_Entry v0_l a0.l, Box bp1 [v1_l, .int .u32 a1.limit], Own 55 ek_api_Cell v1_l a1.l] (fun u H' => ∃ rw0_l rw1_l, u = .int .i64 r0 ∧ H' = [Box bp0 [.int .i64 rp0.mark, rw0_l, .int .i64 rp0.status, .int .i64 rp0.at_], Own 53 ek_tx_Entry rw0_l rp0.l, Box bp1 [rw1_l, .int .u32 rp1.limit], Own 55 ek_api_Cell rw1_l rp1.l]) := by
  unfold desc_Desc_reserve.f at h
  refine Ct.intro (n := 90) Try.func21 rfl rfl rfl ?_
  intro R w0 F hF hR
  refine S.b1 ?_
  refine S.rd fun hr1 => ?_
  refine S.b3 ?_
  refine S.rd fun hr2 => ?_
  refine S.seq ?_
  refine S.region ?_
  refine SO.v rfl (opv_assign rfl) ?_
  refine SO.nil ?_
  refine S.seq ?_
  obtain ⟨x3, hx4, h⟩ := opt_bind h
  refine S.draw2 (Y := fun Q => ∃ (_ _ _ _ _ _ _ : Unit), Q [(0, bp bp0 0), (4, .int .i64 0), (1, bp bp1 0)] [Own 55 ek_api_Cell v1_l a1.l, Own 53 ek_tx_Entry v0_l a0.l, Box bp0 [.int .i64 a0.mark, v0_l, .int .i64 a0.status, .int .i64 a0.at_], Box bp1 [v1_l, .int .u32 a1.limit], F]) (Z := fun Q => ∀ (_ _ : Unit) (b5 : Nat) (_ _ _ _ _ : Unit), Q [(0, bp bp0 0), (4, .int .i64 0), (1, bp bp1 0), (5, bp b5 0)] [Box b5 [.int .i64 x3.Cell, .int .u32 x3.Version, .int .u64 x3.Old, .int .u64 x3.New, .bool x3.Write], Own 55 ek_api_Cell v1_l a1.l, Own 53 ek_tx_Entry v0_l a0.l, Box bp0 [.int .i64 a0.mark, v0_l, .int .i64 a0.status, .int .i64 a0.at_], Box bp1 [v1_l, .int .u32 a1.limit], F]) (T := [tS 0 (bp bp0 0), tE [(4, .int .i64 0), (1, bp bp1 0)], tR (Own 55 ek_api_Cell v1_l a1.l), tR (Own 53 ek_tx_Entry v0_l a0.l), tR (Box bp0 [.int .i64 a0.mark, v0_l, .int .i64 a0.status, .int .i64 a0.at_]), tR (Box bp1 [v1_l, .int .u32 a1.limit]), tR (F), tS 9 (bp bp0 0), tS 10 (bp bp0 0), tS 11 (bp bp0 1), tS 12 (v0_l), tS 13 (bp bp0 0), tS 14 (bp bp0 0), tS 15 (bp bp0 3), tS 16 (.int .i64 a0.at_), tS 17 (idxp v0_l (a0.at_.toNat * ek_tx_Entry.sz)), tS 18 (.agg #[.int .i64 x3.Cell, .int .u32 x3.Version, .int .u64 x3.Old, .int .u64 x3.New, .bool x3.Write]), ⟨Nat, [5], (fun b5 => [(5, bp b5 0)]), (fun b5 => [Box b5 [.int .i64 0, .int .u32 0, .int .u64 0, .int .u64 0, .bool false]]), fun _ => rfl⟩, ⟨Nat, [5], (fun b5 => [(5, bp b5 0)]), (fun b5 => [Box b5 [.int .i64 x3.Cell, .int .u32 x3.Version, .int .u64 x3.Old, .int .u64 x3.New, .bool x3.Write]]), fun _ => rfl⟩]) (D := [⟨[0], [], [7]⟩, ⟨[7], [], [8]⟩, ⟨[8], [], [9]⟩, ⟨[9, 4], [], [10]⟩, ⟨[0], [], [11]⟩, ⟨[11], [], [12]⟩, ⟨[12], [], [13]⟩, ⟨[13, 4], [], [14]⟩, ⟨[10, 14, 3], [], [15]⟩, ⟨[15, 3], [], [16]⟩, ⟨[], [], [17]⟩, ⟨[16], [17], [18]⟩]) (ini := [0, 1, 2, 3, 4, 5, 6]) (fin := [0, 1, 18, 2, 3, 4, 5, 6]) (bf := [[], [0], [0, 1], [0, 1, 2], [], [4], [4, 5], [4, 5, 6], [0, 1, 2, 3, 4, 5, 6, 7], [0, 1, 2, 3, 4, 5, 6, 7, 8], [], [0, 1, 2, 3, 4, 5, 6, 7, 8, 9, 10]]) (by kernel_rfl) (by kernel_rfl) (fun Q => by kernel_rfl) (fun x w h1 h2 => ⟨(), (), (), (), (), (), (), EnvAll.of h1 ⟨rfl, rfl, rfl, trivial⟩, h2⟩) (fun Q => by kernel_rfl) ⟨?_, ?_, ?_, ?_, ?_, ?_, ?_, ?_, ?_, ?_, ?_, ?_, trivial⟩ ?_
  · rintro Fr _
    refine SO.v rfl (opv_move rfl) ?_
    exact SO.nilZ fun a w h1 h2 h3 h4 h5 => PZ.of h1 h3 h5 (.cons () (.cons () (.nil ⟨EnvAll.of h2 ⟨rfl, rfl, trivial⟩, h4⟩)))
  · rintro Fr _
    refine SO.v rfl (opv_nilCheck rfl) ?_
    exact SO.nilZ fun a w h1 h2 h3 h4 h5 => PZ.of h1 h3 h5 (.cons () (.cons () (.nil ⟨EnvAll.of h2 ⟨rfl, rfl, trivial⟩, h4⟩)))
  · rintro Fr _
    refine SO.v rfl (opv_fieldAddr Try.underlying64 rfl Try.sizeOf37 rfl rfl) ?_
    exact SO.nilZ fun a w h1 h2 h3 h4 h5 => PZ.of h1 h3 h5 (.cons () (.cons () (.nil ⟨EnvAll.of h2 ⟨rfl, rfl, trivial⟩, h4⟩)))
  · rintro Fr _ _
    refine SO.load1 rfl Try.isAgg37 rfl rfl ?_
    exact SO.nilZ fun a w h1 h2 h3 h4 h5 => PZ.of h1 h3 h5 (.cons () (.cons () (.cons () (.nil ⟨EnvAll.of h2 ⟨rfl, rfl, trivial⟩, h4⟩))))
  · rintro Fr _
    refine SO.v rfl (opv_move rfl) ?_
    exact SO.nilZ fun a w h1 h2 h3 h4 h5 => PZ.of h1 h3 h5 (.cons () (.cons () (.nil ⟨EnvAll.of h2 ⟨rfl, rfl, trivial⟩, h4⟩)))
  · rintro Fr _
    refine SO.v rfl (opv_nilCheck rfl) ?_
    exact SO.nilZ fun a w h1 h2 h3 h4 h5 => PZ.of h1 h3 h5 (.cons () (.cons () (.nil ⟨EnvAll.of h2 ⟨rfl, rfl, trivial⟩, h4⟩)))
  · rintro Fr _
    refine SO.v rfl (opv_fieldAddr Try.underlying64 rfl Try.sizeOf3 rfl rfl) ?_
    exact SO.nilZ fun a w h1 h2 h3 h4 h5 => PZ.of h1 h3 h5 (.cons () (.cons () (.nil ⟨EnvAll.of h2 ⟨rfl, rfl, trivial⟩, h4⟩)))
  · rintro Fr _ _
    refine SO.load1 rfl Try.isAgg3 rfl rfl ?_
    exact SO.nilZ fun a w h1 h2 h3 h4 h5 => PZ.of h1 h3 h5 (.cons () (.cons () (.cons () (.nil ⟨EnvAll.of h2 ⟨rfl, rfl, trivial⟩, h4⟩))))
  · rintro Fr _ _ _
    refine SO.v rfl (opv_idx Try.underlying37 Try.sizeOf53 hr1 rfl rfl hx4) ?_
    exact SO.nilZ fun a w h1 h2 h3 h4 h5 => PZ.of h1 h3 h5 (.cons () (.cons () (.cons () (.cons () (.nil ⟨EnvAll.of h2 ⟨rfl, rfl, rfl, trivial⟩, h4⟩)))))
  · rintro Fr _ _
    refine SO.loadIN rfl Try.isAgg53 Try.sizeOf53 (Rd.head hr1) hx4 rfl rfl rfl ?_
    exact SO.nilZ fun a w h1 h2 h3 h4 h5 => PZ.of h1 h3 h5 (.cons () (.cons () (.cons () (.nil ⟨EnvAll.of h2 ⟨rfl, rfl, trivial⟩, h4⟩))))
  · rintro Fr 
    refine SO.alloc rfl Try.zeroValue53 rfl (fun b5 => ?_)
    exact SO.nilZ fun a w h1 h2 h3 h4 h5 => PZ.of h1 h3 h5 (.cons b5 (.nil ⟨EnvAll.of h2 ⟨rfl, trivial⟩, h4⟩))
  · rintro Fr _ b5
    refine SO.storeN Try.sizeOf53 rfl rfl rfl rfl rfl rfl ?_
    exact SO.nilZ fun a w h1 h2 h3 h4 h5 => PZ.of h1 h3 h5 (.cons () (.cons b5 (.nil ⟨EnvAll.of h2 ⟨rfl, rfl, trivial⟩, h4⟩)))
  rintro _ _ b5 _ _ _ _ _
  refine S.to (ρ' := [(0, bp bp0 0), (4, .int .i64 0), (1, bp bp1 0), (5, bp b5 0)]) ⟨rfl, rfl, rfl, rfl, trivial⟩ ?_
  refine S.seq ?_
  refine S.region ?_
  refine SO.v rfl (opv_move rfl) ?_
  refine SO.v rfl (opv_fieldAddr Try.underlying53 rfl Try.sizeOf3 rfl rfl) ?_
  refine SO.load1 rfl Try.isAgg3 rfl rfl ?_
  obtain ⟨⟨t6, t7⟩, ht8, h⟩ := opt_bind h
  refine SO.b1 ?_
  refine SO.b4 ?_
  refine SO.call (pre := [Box _ _, Own _ _ _ _]) rfl Try.call17 rfl rfl rfl (word_Store_Read.ct bp1 v1_l _ _ _ _ ht8) trivial ?_
  rintro _ _ ⟨rfl, rfl⟩
  refine SO.v rfl (opv_move rfl) ?_
  refine SO.v rfl (opv_extract rfl rfl) ?_
  refine SO.v rfl (opv_extract rfl rfl) ?_
  refine SO.alloc rfl Try.zeroValue55 rfl (fun b9 => ?_)
  refine SO.storeN Try.sizeOf55 rfl rfl rfl rfl rfl rfl ?_
  refine SO.v rfl (opv_assign rfl) ?_
  refine SO.nil ?_
  refine S.to (ρ' := [(0, bp bp0 0), (4, .int .i64 0), (1, bp bp1 0), (5, bp b5 0), (6, bp b9 0), (7, errV 59 t7)]) ⟨rfl, rfl, rfl, rfl, rfl, rfl, trivial⟩ ?_
  refine S.seq ?_
  refine S.block ?_
  refine S.seq ?_
  obtain ⟨j47_1, hC1, hJ1⟩ := opt_bind h
  clear h
  refine S.cutP (G := Unit) (fun _ => True) (fun _ => [(0, bp bp0 0), (1, bp bp1 0), (4, .int .i64 0), (5, bp b5 0), (6, bp b9 0), (7, errV 59 t7), (47, .bool j47_1)]) (fun _ => [Box b9 [.int .u64 t6.Value, .int .u32 t6.Version, .int .i64 t6.Mark], Box bp1 [v1_l, .int .u32 a1.limit], Own 55 ek_api_Cell v1_l a1.l, Box b5 [.int .i64 x3.Cell, .int .u32 x3.Version, .int .u64 x3.Old, .int .u64 x3.New, .bool x3.Write], Own 53 ek_tx_Entry v0_l a0.l, Box bp0 [.int .i64 a0.mark, v0_l, .int .i64 a0.status, .int .i64 a0.at_], F]) (fun hk1 => ?_) ?_
  · replace h := hC1
    rcases bool_or t7.isNone with b10 | b10
    · replace h := cond_t b10 h
      rcases bool_or (t6.Mark != 0) with b11 | b11
      · replace h := cond_t b11 h
        refine S.draw2 (Y := fun Q => ∃ (_ _ _ _ _ _ _ _ _ _ _ : Unit), Q [(7, errV 59 t7), (6, bp b9 0), (0, bp bp0 0), (4, .int .i64 0), (1, bp bp1 0), (5, bp b5 0)] [Box b9 [.int .u64 t6.Value, .int .u32 t6.Version, .int .i64 t6.Mark], Box bp1 [v1_l, .int .u32 a1.limit], Own 55 ek_api_Cell v1_l a1.l, Box b5 [.int .i64 x3.Cell, .int .u32 x3.Version, .int .u64 x3.Old, .int .u64 x3.New, .bool x3.Write], Own 53 ek_tx_Entry v0_l a0.l, Box bp0 [.int .i64 a0.mark, v0_l, .int .i64 a0.status, .int .i64 a0.at_], F]) (Z := fun Q => ∀ (_ _ _ _ _ _ _ _ _ _ _ _ : Unit), Q [(0, bp bp0 0), (4, .int .i64 0), (1, bp bp1 0), (5, bp b5 0), (6, bp b9 0), (7, errV 59 t7), (47, .bool (t6.Mark != a0.mark))] [Box b9 [.int .u64 t6.Value, .int .u32 t6.Version, .int .i64 t6.Mark], Box bp1 [v1_l, .int .u32 a1.limit], Own 55 ek_api_Cell v1_l a1.l, Box b5 [.int .i64 x3.Cell, .int .u32 x3.Version, .int .u64 x3.Old, .int .u64 x3.New, .bool x3.Write], Own 53 ek_tx_Entry v0_l a0.l, Box bp0 [.int .i64 a0.mark, v0_l, .int .i64 a0.status, .int .i64 a0.at_], F]) (T := [tS 7 (errV 59 t7), tS 6 (bp b9 0), tS 0 (bp bp0 0), tE [(4, .int .i64 0), (1, bp bp1 0), (5, bp b5 0)], tR (Box b9 [.int .u64 t6.Value, .int .u32 t6.Version, .int .i64 t6.Mark]), tR (Box bp1 [v1_l, .int .u32 a1.limit]), tR (Own 55 ek_api_Cell v1_l a1.l), tR (Box b5 [.int .i64 x3.Cell, .int .u32 x3.Version, .int .u64 x3.Old, .int .u64 x3.New, .bool x3.Write]), tR (Own 53 ek_tx_Entry v0_l a0.l), tR (Box bp0 [.int .i64 a0.mark, v0_l, .int .i64 a0.status, .int .i64 a0.at_]), tR (F), tS 48 (errV 59 t7), tS 49 (.bool t7.isNone), tS 50 (.bool t7.isNone), tS 51 (bp b9 2), tS 52 (.int .i64 t6.Mark), tS 53 (.bool (t6.Mark != 0)), tS 54 (.bool (t6.Mark != 0)), tS 55 (.bool (t6.Mark != 0)), tS 56 (bp b9 2), tS 57 (.int .i64 t6.Mark), tS 58 (bp bp0 0), tS 59 (bp bp0 0), tS 60 (bp bp0 0), tS 61 (.int .i64 a0.mark), tS 62 (.bool (t6.Mark != a0.mark)), tS 63 (.bool (t6.Mark != a0.mark)), tS 47 (.bool (t6.Mark != a0.mark))]) (D := [⟨[0], [], [11]⟩, ⟨[11], [], [12]⟩, ⟨[12], [], [13]⟩, ⟨[1, 13], [], [14]⟩, ⟨[13, 14, 4], [], [15]⟩, ⟨[13, 15], [], [16]⟩, ⟨[13, 16], [], [17]⟩, ⟨[17], [], [18]⟩, ⟨[1, 18], [], [19]⟩, ⟨[18, 19, 4], [], [20]⟩, ⟨[2, 18], [], [21]⟩, ⟨[18, 21], [], [22]⟩, ⟨[18, 22], [], [23]⟩, ⟨[18, 23, 9], [], [24]⟩, ⟨[18, 20, 24], [], [25]⟩, ⟨[18, 25], [], [26]⟩, ⟨[26], [], [27]⟩]) (ini := [0, 1, 2, 3, 4, 5, 6, 7, 8, 9, 10]) (fin := [2, 3, 1, 0, 27, 4, 5, 6, 7, 8, 9, 10]) (bf := [[], [0], [0, 1], [0, 1, 2], [0, 1, 2, 3], [0, 1, 2, 3, 4], [0, 1, 2, 3, 4, 5], [0, 1, 2, 3, 4, 5, 6], [0, 1, 2, 3, 4, 5, 6, 7], [0, 1, 2, 3, 4, 5, 6, 7, 8], [0, 1, 2, 3, 4, 5, 6, 7], [0, 1, 2, 3, 4, 5, 6, 7, 10], [0, 1, 2, 3, 4, 5, 6, 7, 10, 11], [0, 1, 2, 3, 4, 5, 6, 7, 10, 11, 12], [0, 1, 2, 3, 4, 5, 6, 7, 8, 9, 10, 11, 12, 13], [0, 1, 2, 3, 4, 5, 6, 7, 8, 9, 10, 11, 12, 13, 14], [0, 1, 2, 3, 4, 5, 6, 7, 8, 9, 10, 11, 12, 13, 14, 15]]) (by kernel_rfl) (by kernel_rfl) (fun Q => by kernel_rfl) (fun x w h1 h2 => ⟨(), (), (), (), (), (), (), (), (), (), (), EnvAll.of h1 ⟨rfl, rfl, rfl, rfl, rfl, rfl, trivial⟩, h2⟩) (fun Q => by kernel_rfl) ⟨?_, ?_, ?_, ?_, ?_, ?_, ?_, ?_, ?_, ?_, ?_, ?_, ?_, ?_, ?_, ?_, ?_, trivial⟩ ?_
        · rintro Fr _
          refine SO.v rfl (opv_move rfl) ?_
          exact SO.nilZ fun a w h1 h2 h3 h4 h5 => PZ.of h1 h3 h5 (.cons () (.cons () (.nil ⟨EnvAll.of h2 ⟨rfl, rfl, trivial⟩, h4⟩)))
        · rintro Fr _
          refine SO.v rfl (opv_eqlN (e := t7) Try.underlying28 rfl) ?_
          exact SO.nilZ fun a w h1 h2 h3 h4 h5 => PZ.of h1 h3 h5 (.cons () (.cons () (.nil ⟨EnvAll.of h2 ⟨rfl, rfl, trivial⟩, h4⟩)))
        · rintro Fr _
          refine SO.v rfl (opv_move rfl) ?_
          exact SO.nilZ fun a w h1 h2 h3 h4 h5 => PZ.of h1 h3 h5 (.cons () (.cons () (.nil ⟨EnvAll.of h2 ⟨rfl, rfl, trivial⟩, h4⟩)))
        · rintro Fr _ _
          refine SO.takeT rfl rfl rfl b10 ?_
          refine SO.v rfl (opv_fieldAddr Try.underlying55 rfl Try.sizeOf3 rfl rfl) ?_
          exact SO.nilZ fun a w h1 h2 h3 h4 h5 => PZ.of h1 h3 h5 (.cons () (.cons () (.cons () (.nil ⟨EnvAll.of h2 ⟨rfl, rfl, rfl, trivial⟩, h4⟩))))
        · rintro Fr _ _ _
          refine SO.takeT rfl rfl rfl b10 ?_
          refine SO.load1 rfl Try.isAgg3 rfl rfl ?_
          exact SO.nilZ fun a w h1 h2 h3 h4 h5 => PZ.of h1 h3 h5 (.cons () (.cons () (.cons () (.cons () (.nil ⟨EnvAll.of h2 ⟨rfl, rfl, rfl, trivial⟩, h4⟩)))))
        · rintro Fr _ _
          refine SO.takeT rfl rfl rfl b10 ?_
          refine SO.v rfl (opv_neq rfl rfl) ?_
          exact SO.nilZ fun a w h1 h2 h3 h4 h5 => PZ.of h1 h3 h5 (.cons () (.cons () (.cons () (.nil ⟨EnvAll.of h2 ⟨rfl, rfl, rfl, trivial⟩, h4⟩))))
        · rintro Fr _ _
          refine SO.v rfl (opv_pick_t' b10 rfl rfl) ?_
          exact SO.nilZ fun a w h1 h2 h3 h4 h5 => PZ.of h1 h3 h5 (.cons () (.cons () (.cons () (.nil ⟨EnvAll.of h2 ⟨rfl, rfl, rfl, trivial⟩, h4⟩))))
        · rintro Fr _
          refine SO.v rfl (opv_move rfl) ?_
          exact SO.nilZ fun a w h1 h2 h3 h4 h5 => PZ.of h1 h3 h5 (.cons () (.cons () (.nil ⟨EnvAll.of h2 ⟨rfl, rfl, trivial⟩, h4⟩)))
        · rintro Fr _ _
          refine SO.takeT rfl rfl rfl b11 ?_
          refine SO.v rfl (opv_fieldAddr Try.underlying55 rfl Try.sizeOf3 rfl rfl) ?_
          exact SO.nilZ fun a w h1 h2 h3 h4 h5 => PZ.of h1 h3 h5 (.cons () (.cons () (.cons () (.nil ⟨EnvAll.of h2 ⟨rfl, rfl, rfl, trivial⟩, h4⟩))))
        · rintro Fr _ _ _
          refine SO.takeT rfl rfl rfl b11 ?_
          refine SO.load1 rfl Try.isAgg3 rfl rfl ?_
          exact SO.nilZ fun a w h1 h2 h3 h4 h5 => PZ.of h1 h3 h5 (.cons () (.cons () (.cons () (.cons () (.nil ⟨EnvAll.of h2 ⟨rfl, rfl, rfl, trivial⟩, h4⟩)))))
        · rintro Fr _ _
          refine SO.takeT rfl rfl rfl b11 ?_
          refine SO.v rfl (opv_move rfl) ?_
          exact SO.nilZ fun a w h1 h2 h3 h4 h5 => PZ.of h1 h3 h5 (.cons () (.cons () (.cons () (.nil ⟨EnvAll.of h2 ⟨rfl, rfl, rfl, trivial⟩, h4⟩))))
        · rintro Fr _ _
          refine SO.takeT rfl rfl rfl b11 ?_
          refine SO.v rfl (opv_nilCheck rfl) ?_
          exact SO.nilZ fun a w h1 h2 h3 h4 h5 => PZ.of h1 h3 h5 (.cons () (.cons () (.cons () (.nil ⟨EnvAll.of h2 ⟨rfl, rfl, rfl, trivial⟩, h4⟩))))
        · rintro Fr _ _
          refine SO.takeT rfl rfl rfl b11 ?_
          refine SO.v rfl (opv_fieldAddr Try.underlying64 rfl Try.sizeOf3 rfl rfl) ?_
          exact SO.nilZ fun a w h1 h2 h3 h4 h5 => PZ.of h1 h3 h5 (.cons () (.cons () (.cons () (.nil ⟨EnvAll.of h2 ⟨rfl, rfl, rfl, trivial⟩, h4⟩))))
        · rintro Fr _ _ _
          refine SO.takeT rfl rfl rfl b11 ?_
          refine SO.load1 rfl Try.isAgg3 rfl rfl ?_
          exact SO.nilZ fun a w h1 h2 h3 h4 h5 => PZ.of h1 h3 h5 (.cons () (.cons () (.cons () (.cons () (.nil ⟨EnvAll.of h2 ⟨rfl, rfl, rfl, trivial⟩, h4⟩)))))
        · rintro Fr _ _ _
          refine SO.takeT rfl rfl rfl b11 ?_
          refine SO.v rfl (opv_neq rfl rfl) ?_
          exact SO.nilZ fun a w h1 h2 h3 h4 h5 => PZ.of h1 h3 h5 (.cons () (.cons () (.cons () (.cons () (.nil ⟨EnvAll.of h2 ⟨rfl, rfl, rfl, rfl, trivial⟩, h4⟩)))))
        · rintro Fr _ _
          refine SO.v rfl (opv_pick_t' b11 rfl rfl) ?_
          exact SO.nilZ fun a w h1 h2 h3 h4 h5 => PZ.of h1 h3 h5 (.cons () (.cons () (.cons () (.nil ⟨EnvAll.of h2 ⟨rfl, rfl, rfl, trivial⟩, h4⟩))))
        · rintro Fr _
          refine SO.v rfl (opv_assign rfl) ?_
          exact SO.nilZ fun a w h1 h2 h3 h4 h5 => PZ.of h1 h3 h5 (.cons () (.cons () (.nil ⟨EnvAll.of h2 ⟨rfl, rfl, trivial⟩, h4⟩)))
        rintro _ _ _ _ _ _ _ _ _ _ _ _
        refine S.to (ρ' := [(0, bp bp0 0), (4, .int .i64 0), (1, bp bp1 0), (5, bp b5 0), (6, bp b9 0), (7, errV 59 t7), (47, .bool (t6.Mark != a0.mark))]) ⟨rfl, rfl, rfl, rfl, rfl, rfl, rfl, trivial⟩ ?_
        cases h
        refine S.b6 ?_
        refine S.b6 ?_
        refine S.b6 ?_
        refine S.b6 ?_
        refine S.b6 ?_
        refine S.b6 ?_
        refine S.b6 ?_
        refine S.to ?_ (hk1 () trivial)
        exact ⟨rfl, rfl, rfl, rfl, rfl, rfl, rfl, trivial⟩
      replace h := cond_f b11 h
      refine S.draw2 (Y := fun Q => ∃ (_ _ _ _ _ _ _ _ _ _ _ : Unit), Q [(7, errV 59 t7), (6, bp b9 0), (0, bp bp0 0), (4, .int .i64 0), (1, bp bp1 0), (5, bp b5 0)] [Box b9 [.int .u64 t6.Value, .int .u32 t6.Version, .int .i64 t6.Mark], Box bp1 [v1_l, .int .u32 a1.limit], Own 55 ek_api_Cell v1_l a1.l, Box b5 [.int .i64 x3.Cell, .int .u32 x3.Version, .int .u64 x3.Old, .int .u64 x3.New, .bool x3.Write], Own 53 ek_tx_Entry v0_l a0.l, Box bp0 [.int .i64 a0.mark, v0_l, .int .i64 a0.status, .int .i64 a0.at_], F]) (Z := fun Q => ∀ (_ _ _ _ _ _ _ _ _ _ _ _ : Unit), Q [(0, bp bp0 0), (4, .int .i64 0), (1, bp bp1 0), (5, bp b5 0), (6, bp b9 0), (7, errV 59 t7), (47, .bool false)] [Box b9 [.int .u64 t6.Value, .int .u32 t6.Version, .int .i64 t6.Mark], Box bp1 [v1_l, .int .u32 a1.limit], Own 55 ek_api_Cell v1_l a1.l, Box b5 [.int .i64 x3.Cell, .int .u32 x3.Version, .int .u64 x3.Old, .int .u64 x3.New, .bool x3.Write], Own 53 ek_tx_Entry v0_l a0.l, Box bp0 [.int .i64 a0.mark, v0_l, .int .i64 a0.status, .int .i64 a0.at_], F]) (T := [tS 7 (errV 59 t7), tS 6 (bp b9 0), tS 0 (bp bp0 0), tE [(4, .int .i64 0), (1, bp bp1 0), (5, bp b5 0)], tR (Box b9 [.int .u64 t6.Value, .int .u32 t6.Version, .int .i64 t6.Mark]), tR (Box bp1 [v1_l, .int .u32 a1.limit]), tR (Own 55 ek_api_Cell v1_l a1.l), tR (Box b5 [.int .i64 x3.Cell, .int .u32 x3.Version, .int .u64 x3.Old, .int .u64 x3.New, .bool x3.Write]), tR (Own 53 ek_tx_Entry v0_l a0.l), tR (Box bp0 [.int .i64 a0.mark, v0_l, .int .i64 a0.status, .int .i64 a0.at_]), tR (F), tS 48 (errV 59 t7), tS 49 (.bool t7.isNone), tS 50 (.bool t7.isNone), tS 51 (bp b9 2), tS 52 (.int .i64 t6.Mark), tS 53 (.bool (t6.Mark != 0)), tS 54 (.bool (t6.Mark != 0)), tS 55 (.bool (t6.Mark != 0)), tS 56 (undef), tS 57 (undef), tS 58 (undef), tS 59 (undef), tS 60 (undef), tS 61 (undef), tS 62 (undef), tS 63 (.bool false), tS 47 (.bool false)]) (D := [⟨[0], [], [11]⟩, ⟨[11], [], [12]⟩, ⟨[12], [], [13]⟩, ⟨[1, 13], [], [14]⟩, ⟨[13, 14, 4], [], [15]⟩, ⟨[13, 15], [], [16]⟩, ⟨[13, 16], [], [17]⟩, ⟨[17], [], [18]⟩, ⟨[18], [], [19]⟩, ⟨[18], [], [20]⟩, ⟨[18], [], [21]⟩, ⟨[18], [], [22]⟩, ⟨[18], [], [23]⟩, ⟨[18], [], [24]⟩, ⟨[18], [], [25]⟩, ⟨[18, 25], [], [26]⟩, ⟨[26], [], [27]⟩]) (ini := [0, 1, 2, 3, 4, 5, 6, 7, 8, 9, 10]) (fin := [2, 3, 1, 0, 27, 4, 5, 6, 7, 8, 9, 10]) (bf := [[], [0], [0, 1], [0, 1, 2], [0, 1, 2, 3], [0, 1, 2, 3, 4], [0, 1, 2, 3, 4, 5], [0, 1, 2, 3, 4, 5, 6], [0, 1, 2, 3, 4, 5, 6, 7], [0, 1, 2, 3, 4, 5, 6, 7, 8], [0, 1, 2, 3, 4, 5, 6, 7], [0, 1, 2, 3, 4, 5, 6, 7, 10], [0, 1, 2, 3, 4, 5, 6, 7, 10, 11], [0, 1, 2, 3, 4, 5, 6, 7, 10, 11, 12], [0, 1, 2, 3, 4, 5, 6, 7, 8, 9, 10, 11, 12, 13], [0, 1, 2, 3, 4, 5, 6, 7, 8, 9, 10, 11, 12, 13, 14], [0, 1, 2, 3, 4, 5, 6, 7, 8, 9, 10, 11, 12, 13, 14, 15]]) (by kernel_rfl) (by kernel_rfl) (fun Q => by kernel_rfl) (fun x w h1 h2 => ⟨(), (), (), (), (), (), (), (), (), (), (), EnvAll.of h1 ⟨rfl, rfl, rfl, rfl, rfl, rfl, trivial⟩, h2⟩) (fun Q => by kernel_rfl) ⟨?_, ?_, ?_, ?_, ?_, ?_, ?_, ?_, ?_, ?_, ?_, ?_, ?_, ?_, ?_, ?_, ?_, trivial⟩ ?_
      · rintro Fr _
        refine SO.v rfl (opv_move rfl) ?_
        exact SO.nilZ fun a w h1 h2 h3 h4 h5 => PZ.of h1 h3 h5 (.cons () (.cons () (.nil ⟨EnvAll.of h2 ⟨rfl, rfl, trivial⟩, h4⟩)))
      · rintro Fr _
        refine SO.v rfl (opv_eqlN (e := t7) Try.underlying28 rfl) ?_
        exact SO.nilZ fun a w h1 h2 h3 h4 h5 => PZ.of h1 h3 h5 (.cons () (.cons () (.nil ⟨EnvAll.of h2 ⟨rfl, rfl, trivial⟩, h4⟩)))
      · rintro Fr _
        refine SO.v rfl (opv_move rfl) ?_
        exact SO.nilZ fun a w h1 h2 h3 h4 h5 => PZ.of h1 h3 h5 (.cons () (.cons () (.nil ⟨EnvAll.of h2 ⟨rfl, rfl, trivial⟩, h4⟩)))
      · rintro Fr _ _
        refine SO.takeT rfl rfl rfl b10 ?_
        refine SO.v rfl (opv_fieldAddr Try.underlying55 rfl Try.sizeOf3 rfl rfl) ?_
        exact SO.nilZ fun a w h1 h2 h3 h4 h5 => PZ.of h1 h3 h5 (.cons () (.cons () (.cons () (.nil ⟨EnvAll.of h2 ⟨rfl, rfl, rfl, trivial⟩, h4⟩))))
      · rintro Fr _ _ _
        refine SO.takeT rfl rfl rfl b10 ?_
        refine SO.load1 rfl Try.isAgg3 rfl rfl ?_
        exact SO.nilZ fun a w h1 h2 h3 h4 h5 => PZ.of h1 h3 h5 (.cons () (.cons () (.cons () (.cons () (.nil ⟨EnvAll.of h2 ⟨rfl, rfl, rfl, trivial⟩, h4⟩)))))
      · rintro Fr _ _
        refine SO.takeT rfl rfl rfl b10 ?_
        refine SO.v rfl (opv_neq rfl rfl) ?_
        exact SO.nilZ fun a w h1 h2 h3 h4 h5 => PZ.of h1 h3 h5 (.cons () (.cons () (.cons () (.nil ⟨EnvAll.of h2 ⟨rfl, rfl, rfl, trivial⟩, h4⟩))))
      · rintro Fr _ _
        refine SO.v rfl (opv_pick_t' b10 rfl rfl) ?_
        exact SO.nilZ fun a w h1 h2 h3 h4 h5 => PZ.of h1 h3 h5 (.cons () (.cons () (.cons () (.nil ⟨EnvAll.of h2 ⟨rfl, rfl, rfl, trivial⟩, h4⟩))))
      · rintro Fr _
        refine SO.v rfl (opv_move rfl) ?_
        exact SO.nilZ fun a w h1 h2 h3 h4 h5 => PZ.of h1 h3 h5 (.cons () (.cons () (.nil ⟨EnvAll.of h2 ⟨rfl, rfl, trivial⟩, h4⟩)))
      · rintro Fr _
        refine SO.passF rfl rfl rfl b11 rfl rfl ?_
        exact SO.nilZ fun a w h1 h2 h3 h4 h5 => PZ.of h1 h3 h5 (.cons () (.cons () (.nil ⟨EnvAll.of h2 ⟨rfl, rfl, trivial⟩, h4⟩)))
      · rintro Fr _
        refine SO.passF rfl rfl rfl b11 rfl rfl ?_
        exact SO.nilZ fun a w h1 h2 h3 h4 h5 => PZ.of h1 h3 h5 (.cons () (.cons () (.nil ⟨EnvAll.of h2 ⟨rfl, rfl, trivial⟩, h4⟩)))
      · rintro Fr _
        refine SO.passF rfl rfl rfl b11 rfl rfl ?_
        exact SO.nilZ fun a w h1 h2 h3 h4 h5 => PZ.of h1 h3 h5 (.cons () (.cons () (.nil ⟨EnvAll.of h2 ⟨rfl, rfl, trivial⟩, h4⟩)))
      · rintro Fr _
        refine SO.passF rfl rfl rfl b11 rfl rfl ?_
        exact SO.nilZ fun a w h1 h2 h3 h4 h5 => PZ.of h1 h3 h5 (.cons () (.cons () (.nil ⟨EnvAll.of h2 ⟨rfl, rfl, trivial⟩, h4⟩)))
      · rintro Fr _
        refine SO.passF rfl rfl rfl b11 rfl rfl ?_
        exact SO.nilZ fun a w h1 h2 h3 h4 h5 => PZ.of h1 h3 h5 (.cons () (.cons () (.nil ⟨EnvAll.of h2 ⟨rfl, rfl, trivial⟩, h4⟩)))
      · rintro Fr _
        refine SO.passF rfl rfl rfl b11 rfl rfl ?_
        exact SO.nilZ fun a w h1 h2 h3 h4 h5 => PZ.of h1 h3 h5 (.cons () (.cons () (.nil ⟨EnvAll.of h2 ⟨rfl, rfl, trivial⟩, h4⟩)))
      · rintro Fr _
        refine SO.passF rfl rfl rfl b11 rfl rfl ?_
        exact SO.nilZ fun a w h1 h2 h3 h4 h5 => PZ.of h1 h3 h5 (.cons () (.cons () (.nil ⟨EnvAll.of h2 ⟨rfl, rfl, trivial⟩, h4⟩)))
      · rintro Fr _ _
        refine SO.v rfl (opv_pick_f' b11 rfl rfl) ?_
        exact SO.nilZ fun a w h1 h2 h3 h4 h5 => PZ.of h1 h3 h5 (.cons () (.cons () (.cons () (.nil ⟨EnvAll.of h2 ⟨rfl, rfl, rfl, trivial⟩, h4⟩))))
      · rintro Fr _
        refine SO.v rfl (opv_assign rfl) ?_
        exact SO.nilZ fun a w h1 h2 h3 h4 h5 => PZ.of h1 h3 h5 (.cons () (.cons () (.nil ⟨EnvAll.of h2 ⟨rfl, rfl, trivial⟩, h4⟩)))
      rintro _ _ _ _ _ _ _ _ _ _ _ _
      refine S.to (ρ' := [(0, bp bp0 0), (4, .int .i64 0), (1, bp bp1 0), (5, bp b5 0), (6, bp b9 0), (7, errV 59 t7), (47, .bool false)]) ⟨rfl, rfl, rfl, rfl, rfl, rfl, rfl, trivial⟩ ?_
      cases h
      refine S.b6 ?_
      refine S.b6 ?_
      refine S.b6 ?_
      refine S.b6 ?_
      refine S.b6 ?_
      refine S.b6 ?_
      refine S.b6 ?_
      refine S.to ?_ (hk1 () trivial)
      exact ⟨rfl, rfl, rfl, rfl, rfl, rfl, rfl, trivial⟩
    replace h := cond_f b10 h
    refine S.draw2 (Y := fun Q => ∃ (_ _ _ _ _ _ _ _ _ _ _ : Unit), Q [(7, errV 59 t7), (6, bp b9 0), (0, bp bp0 0), (4, .int .i64 0), (1, bp bp1 0), (5, bp b5 0)] [Box b9 [.int .u64 t6.Value, .int .u32 t6.Version, .int .i64 t6.Mark], Box bp1 [v1_l, .int .u32 a1.limit], Own 55 ek_api_Cell v1_l a1.l, Box b5 [.int .i64 x3.Cell, .int .u32 x3.Version, .int .u64 x3.Old, .int .u64 x3.New, .bool x3.Write], Own 53 ek_tx_Entry v0_l a0.l, Box bp0 [.int .i64 a0.mark, v0_l, .int .i64 a0.status, .int .i64 a0.at_], F]) (Z := fun Q => ∀ (_ _ _ _ _ _ _ _ _ _ _ _ : Unit), Q [(0, bp bp0 0), (4, .int .i64 0), (1, bp bp1 0), (5, bp b5 0), (6, bp b9 0), (7, errV 59 t7), (47, .bool false)] [Box b9 [.int .u64 t6.Value, .int .u32 t6.Version, .int .i64 t6.Mark], Box bp1 [v1_l, .int .u32 a1.limit], Own 55 ek_api_Cell v1_l a1.l, Box b5 [.int .i64 x3.Cell, .int .u32 x3.Version, .int .u64 x3.Old, .int .u64 x3.New, .bool x3.Write], Own 53 ek_tx_Entry v0_l a0.l, Box bp0 [.int .i64 a0.mark, v0_l, .int .i64 a0.status, .int .i64 a0.at_], F]) (T := [tS 7 (errV 59 t7), tS 6 (bp b9 0), tS 0 (bp bp0 0), tE [(4, .int .i64 0), (1, bp bp1 0), (5, bp b5 0)], tR (Box b9 [.int .u64 t6.Value, .int .u32 t6.Version, .int .i64 t6.Mark]), tR (Box bp1 [v1_l, .int .u32 a1.limit]), tR (Own 55 ek_api_Cell v1_l a1.l), tR (Box b5 [.int .i64 x3.Cell, .int .u32 x3.Version, .int .u64 x3.Old, .int .u64 x3.New, .bool x3.Write]), tR (Own 53 ek_tx_Entry v0_l a0.l), tR (Box bp0 [.int .i64 a0.mark, v0_l, .int .i64 a0.status, .int .i64 a0.at_]), tR (F), tS 48 (errV 59 t7), tS 49 (.bool t7.isNone), tS 50 (.bool t7.isNone), tS 51 (undef), tS 52 (undef), tS 53 (undef), tS 54 (.bool false), tS 55 (.bool false), tS 56 (undef), tS 57 (undef), tS 58 (undef), tS 59 (undef), tS 60 (undef), tS 61 (undef), tS 62 (undef), tS 63 (.bool false), tS 47 (.bool false)]) (D := [⟨[0], [], [11]⟩, ⟨[11], [], [12]⟩, ⟨[12], [], [13]⟩, ⟨[13], [], [14]⟩, ⟨[13], [], [15]⟩, ⟨[13], [], [16]⟩, ⟨[13, 16], [], [17]⟩, ⟨[17], [], [18]⟩, ⟨[18], [], [19]⟩, ⟨[18], [], [20]⟩, ⟨[18], [], [21]⟩, ⟨[18], [], [22]⟩, ⟨[18], [], [23]⟩, ⟨[18], [], [24]⟩, ⟨[18], [], [25]⟩, ⟨[18, 25], [], [26]⟩, ⟨[26], [], [27]⟩]) (ini := [0, 1, 2, 3, 4, 5, 6, 7, 8, 9, 10]) (fin := [2, 3, 1, 0, 27, 4, 5, 6, 7, 8, 9, 10]) (bf := [[], [0], [0, 1], [0, 1, 2], [0, 1, 2, 3], [0, 1, 2, 3, 4], [0, 1, 2, 3, 4, 5], [0, 1, 2, 3, 4, 5, 6], [0, 1, 2, 3, 4, 5, 6, 7], [0, 1, 2, 3, 4, 5, 6, 7, 8], [0, 1, 2, 3, 4, 5, 6, 7], [0, 1, 2, 3, 4, 5, 6, 7, 10], [0, 1, 2, 3, 4, 5, 6, 7, 10, 11], [0, 1, 2, 3, 4, 5, 6, 7, 10, 11, 12], [0, 1, 2, 3, 4, 5, 6, 7, 8, 9, 10, 11, 12, 13], [0, 1, 2, 3, 4, 5, 6, 7, 8, 9, 10, 11, 12, 13, 14], [0, 1, 2, 3, 4, 5, 6, 7, 8, 9, 10, 11, 12, 13, 14, 15]]) (by kernel_rfl) (by kernel_rfl) (fun Q => by kernel_rfl) (fun x w h1 h2 => ⟨(), (), (), (), (), (), (), (), (), (), (), EnvAll.of h1 ⟨rfl, rfl, rfl, rfl, rfl, rfl, trivial⟩, h2⟩) (fun Q => by kernel_rfl) ⟨?_, ?_, ?_, ?_, ?_, ?_, ?_, ?_, ?_, ?_, ?_, ?_, ?_, ?_, ?_, ?_, ?_, trivial⟩ ?_
    · rintro Fr _
      refine SO.v rfl (opv_move rfl) ?_
      exact SO.nilZ fun a w h1 h2 h3 h4 h5 => PZ.of h1 h3 h5 (.cons () (.cons () (.nil ⟨EnvAll.of h2 ⟨rfl, rfl, trivial⟩, h4⟩)))
    · rintro Fr _
      refine SO.v rfl (opv_eqlN (e := t7) Try.underlying28 rfl) ?_
      exact SO.nilZ fun a w h1 h2 h3 h4 h5 => PZ.of h1 h3 h5 (.cons () (.cons () (.nil ⟨EnvAll.of h2 ⟨rfl, rfl, trivial⟩, h4⟩)))
    · rintro Fr _
      refine SO.v rfl (opv_move rfl) ?_
      exact SO.nilZ fun a w h1 h2 h3 h4 h5 => PZ.of h1 h3 h5 (.cons () (.cons () (.nil ⟨EnvAll.of h2 ⟨rfl, rfl, trivial⟩, h4⟩)))
    · rintro Fr _
      refine SO.passF rfl rfl rfl b10 rfl rfl ?_
      exact SO.nilZ fun a w h1 h2 h3 h4 h5 => PZ.of h1 h3 h5 (.cons () (.cons () (.nil ⟨EnvAll.of h2 ⟨rfl, rfl, trivial⟩, h4⟩)))
    · rintro Fr _
      refine SO.passF rfl rfl rfl b10 rfl rfl ?_
      exact SO.nilZ fun a w h1 h2 h3 h4 h5 => PZ.of h1 h3 h5 (.cons () (.cons () (.nil ⟨EnvAll.of h2 ⟨rfl, rfl, trivial⟩, h4⟩)))
    · rintro Fr _
      refine SO.passF rfl rfl rfl b10 rfl rfl ?_
      exact SO.nilZ fun a w h1 h2 h3 h4 h5 => PZ.of h1 h3 h5 (.cons () (.cons () (.nil ⟨EnvAll.of h2 ⟨rfl, rfl, trivial⟩, h4⟩)))
    · rintro Fr _ _
      refine SO.v rfl (opv_pick_f' b10 rfl rfl) ?_
      exact SO.nilZ fun a w h1 h2 h3 h4 h5 => PZ.of h1 h3 h5 (.cons () (.cons () (.cons () (.nil ⟨EnvAll.of h2 ⟨rfl, rfl, rfl, trivial⟩, h4⟩))))
    · rintro Fr _
      refine SO.v rfl (opv_move rfl) ?_
      exact SO.nilZ fun a w h1 h2 h3 h4 h5 => PZ.of h1 h3 h5 (.cons () (.cons () (.nil ⟨EnvAll.of h2 ⟨rfl, rfl, trivial⟩, h4⟩)))
    · rintro Fr _
      refine SO.passF rfl rfl rfl rfl rfl rfl ?_
      exact SO.nilZ fun a w h1 h2 h3 h4 h5 => PZ.of h1 h3 h5 (.cons () (.cons () (.nil ⟨EnvAll.of h2 ⟨rfl, rfl, trivial⟩, h4⟩)))
    · rintro Fr _
      refine SO.passF rfl rfl rfl rfl rfl rfl ?_
      exact SO.nilZ fun a w h1 h2 h3 h4 h5 => PZ.of h1 h3 h5 (.cons () (.cons () (.nil ⟨EnvAll.of h2 ⟨rfl, rfl, trivial⟩, h4⟩)))
    · rintro Fr _
      refine SO.passF rfl rfl rfl rfl rfl rfl ?_
      exact SO.nilZ fun a w h1 h2 h3 h4 h5 => PZ.of h1 h3 h5 (.cons () (.cons () (.nil ⟨EnvAll.of h2 ⟨rfl, rfl, trivial⟩, h4⟩)))
    · rintro Fr _
      refine SO.passF rfl rfl rfl rfl rfl rfl ?_
      exact SO.nilZ fun a w h1 h2 h3 h4 h5 => PZ.of h1 h3 h5 (.cons () (.cons () (.nil ⟨EnvAll.of h2 ⟨rfl, rfl, trivial⟩, h4⟩)))
    · rintro Fr _
      refine SO.passF rfl rfl rfl rfl rfl rfl ?_
      exact SO.nilZ fun a w h1 h2 h3 h4 h5 => PZ.of h1 h3 h5 (.cons () (.cons () (.nil ⟨EnvAll.of h2 ⟨rfl, rfl, trivial⟩, h4⟩)))
    · rintro Fr _
      refine SO.passF rfl rfl rfl rfl rfl rfl ?_
      exact SO.nilZ fun a w h1 h2 h3 h4 h5 => PZ.of h1 h3 h5 (.cons () (.cons () (.nil ⟨EnvAll.of h2 ⟨rfl, rfl, trivial⟩, h4⟩)))
    · rintro Fr _
      refine SO.passF rfl rfl rfl rfl rfl rfl ?_
      exact SO.nilZ fun a w h1 h2 h3 h4 h5 => PZ.of h1 h3 h5 (.cons () (.cons () (.nil ⟨EnvAll.of h2 ⟨rfl, rfl, trivial⟩, h4⟩)))
    · rintro Fr _ _
      refine SO.v rfl (opv_pick_ff rfl rfl) ?_
      exact SO.nilZ fun a w h1 h2 h3 h4 h5 => PZ.of h1 h3 h5 (.cons () (.cons () (.cons () (.nil ⟨EnvAll.of h2 ⟨rfl, rfl, rfl, trivial⟩, h4⟩))))
    · rintro Fr _
      refine SO.v rfl (opv_assign rfl) ?_
      exact SO.nilZ fun a w h1 h2 h3 h4 h5 => PZ.of h1 h3 h5 (.cons () (.cons () (.nil ⟨EnvAll.of h2 ⟨rfl, rfl, trivial⟩, h4⟩)))
    rintro _ _ _ _ _ _ _ _ _ _ _ _
    refine S.to (ρ' := [(0, bp bp0 0), (4, .int .i64 0), (1, bp bp1 0), (5, bp b5 0), (6, bp b9 0), (7, errV 59 t7), (47, .bool false)]) ⟨rfl, rfl, rfl, rfl, rfl, rfl, rfl, trivial⟩ ?_
    cases h
    refine S.b6 ?_
    refine S.b6 ?_
    refine S.b6 ?_
    refine S.b6 ?_
    refine S.b6 ?_
    refine S.b6 ?_
    refine S.b6 ?_
    refine S.to ?_ (hk1 () trivial)
    exact ⟨rfl, rfl, rfl, rfl, rfl, rfl, rfl, trivial⟩
  rintro _ -
  replace h := hJ1
  rcases bool_or j47_1 with b12 | b12
  · replace h := cond_t b12 h
    refine S.condT rfl b12 ?_
    refine S.seq ?_
    refine S.region ?_
    refine SO.v rfl (opv_fieldAddr Try.underlying55 rfl Try.sizeOf3 rfl rfl) ?_
    refine SO.load1 rfl Try.isAgg3 rfl rfl ?_
    refine SO.v rfl (opv_assign rfl) ?_
    refine SO.nil ?_
    refine S.to (ρ' := [(4, .int .i64 t6.Mark)]) ⟨rfl, trivial⟩ ?_
    cases h
    refine S.drop ?_
    refine S.b2 ?_
    refine S.drop ?_
    refine S.b4 ?_
    refine S.b2 ?_
    refine S.b2 ?_
    refine S.b3 ?_
    refine S.b4 ?_
    exact S.ret1 Try.func21 rfl rfl (fun w hs hk => hR w _ _ ⟨v0_l, v1_l, rfl, rfl⟩ hs hk)
  replace h := cond_f b12 h
  refine S.condF rfl b12 ?_
  refine S.seq ?_
  refine S.region ?_
  refine SO.v rfl (opv_move rfl) ?_
  refine SO.v rfl (opv_neqN (e := t7) Try.underlying28 rfl) ?_
  refine SO.v rfl (opv_move rfl) ?_
  obtain ⟨c14, hc15, hgk⟩ := opt_bind h
  refine SO.cut 6 75 (.bool c14) [Box b9 [.int .u64 t6.Value, .int .u32 t6.Version, .int .i64 t6.Mark], Box bp1 [v1_l, .int .u32 a1.limit], Own 55 ek_api_Cell v1_l a1.l, Box b5 [.int .i64 x3.Cell, .int .u32 x3.Version, .int .u64 x3.Old, .int .u64 x3.New, .bool x3.Write], Own 53 ek_tx_Entry v0_l a0.l, Box bp0 [.int .i64 a0.mark, v0_l, .int .i64 a0.status, .int .i64 a0.at_], F] (fun l2 hk2 => ?_) ?_
  · clear hgk
    replace h := hc15
    rcases bool_or t7.isSome with b13 | b13
    · replace h := cond_t b13 h
      refine SO.passF rfl rfl rfl b13 rfl rfl ?_
      refine SO.passF rfl rfl rfl b13 rfl rfl ?_
      refine SO.passF rfl rfl rfl b13 rfl rfl ?_
      refine SO.passF rfl rfl rfl b13 rfl rfl ?_
      refine SO.passF rfl rfl rfl b13 rfl rfl ?_
      cases h
      refine SO.v rfl (opv_pick_t' b13 rfl rfl) ?_
      refine SO.b6 ?_
      refine SO.b6 ?_
      refine SO.b6 ?_
      refine SO.b6 ?_
      refine SO.b6 ?_
      refine SO.b6 ?_
      refine SO.b6 ?_
      exact hk2.fitc (m := 6) rfl (rfl) rfl
    replace h := cond_f b13 h
    refine SO.takeT rfl rfl rfl b13 ?_
    refine SO.v rfl (opv_fieldAddr Try.underlying55 rfl Try.sizeOf22 rfl rfl) ?_
    refine SO.takeT rfl rfl rfl b13 ?_
    refine SO.load1 rfl Try.isAgg22 rfl rfl ?_
    refine SO.takeT rfl rfl rfl b13 ?_
    refine SO.v rfl (opv_fieldAddr Try.underlying53 rfl Try.sizeOf22 rfl rfl) ?_
    refine SO.takeT rfl rfl rfl b13 ?_
    refine SO.b3 ?_
    refine SO.load1 rfl Try.isAgg22 rfl rfl ?_
    refine SO.takeT rfl rfl rfl b13 ?_
    refine SO.v rfl (opv_neq rfl rfl) ?_
    cases h
    refine SO.v rfl (opv_pick_f' b13 rfl rfl) ?_
    refine SO.b6 ?_
    refine SO.b6 ?_
    refine SO.b6 ?_
    refine SO.b3 ?_
    refine SO.b6 ?_
    refine SO.b6 ?_
    refine SO.b6 ?_
    exact hk2.fitc (m := 6) rfl (rfl) rfl
  clear hc15
  replace h := hgk
  refine SO.v rfl (opv_assign rfl) ?_
  refine SO.nil ?_
  rcases bool_or c14 with b16 | b16
  · replace h := cond_t b16 h
    refine S.condT rfl b16 ?_
    refine S.region ?_
    refine SO.v rfl (opv_move rfl) ?_
    obtain ⟨p17, ht18, h⟩ := opt_bind h
    refine SO.b4 ?_
    refine SO.b5 ?_
    refine SO.call (pre := [Box _ _, Own _ _ _ _]) rfl Try.call20 rfl rfl rfl (desc_Desc_turn.ct bp0 v0_l _ _ _ ht18) trivial ?_
    rintro _ _ ⟨u19_l, rfl, rfl⟩
    refine SO.b1 ?_
    refine SO.rd fun hr20 => ?_
    refine SO.nil ?_
    refine S.to (ρ' := [(4, .int .i64 0)]) ⟨rfl, trivial⟩ ?_
    refine S.inBlock ?_
    refine S.seq ?_
    refine S.region ?_
    refine SO.v rfl (opv_assign rfl) ?_
    refine SO.nil ?_
    cases h
    refine S.b2 ?_
    refine S.drop ?_
    refine S.b4 ?_
    refine S.drop ?_
    refine S.b4 ?_
    refine S.b4 ?_
    refine S.b4 ?_
    refine S.b3 ?_
    refine S.b4 ?_
    exact S.ret1 Try.func21 rfl rfl (fun w hs hk => hR w _ _ ⟨u19_l, v1_l, rfl, rfl⟩ hs hk)
  replace h := cond_f b16 h
  refine S.condF rfl b16 ?_
  refine S.seq ?_
  obtain ⟨j78_2, hC2, hJ2⟩ := opt_bind h
  clear h
  refine S.cutP (G := Unit) (fun _ => True) (fun _ => [(0, bp bp0 0), (1, bp bp1 0), (4, .int .i64 0), (5, bp b5 0), (78, .bool j78_2)]) (fun _ => [Box b9 [.int .u64 t6.Value, .int .u32 t6.Version, .int .i64 t6.Mark], Box bp1 [v1_l, .int .u32 a1.limit], Own 55 ek_api_Cell v1_l a1.l, Box b5 [.int .i64 x3.Cell, .int .u32 x3.Version, .int .u64 x3.Old, .int .u64 x3.New, .bool x3.Write], Own 53 ek_tx_Entry v0_l a0.l, Box bp0 [.int .i64 a0.mark, v0_l, .int .i64 a0.status, .int .i64 a0.at_], F]) (fun hk2 => ?_) ?_
  · replace h := hC2
    rcases bool_or x3.Write with b21 | b21
    · replace h := cond_t b21 h
      obtain ⟨t22, ht23, h⟩ := opt_bind h
      refine S.draw2 (Y := fun Q => ∃ (_ _ _ _ _ _ _ _ _ _ _ : Unit), Q [(5, bp b5 0), (6, bp b9 0), (1, bp bp1 0), (0, bp bp0 0), (4, .int .i64 0)] [Box b9 [.int .u64 t6.Value, .int .u32 t6.Version, .int .i64 t6.Mark], Box bp1 [v1_l, .int .u32 a1.limit], Own 55 ek_api_Cell v1_l a1.l, Box b5 [.int .i64 x3.Cell, .int .u32 x3.Version, .int .u64 x3.Old, .int .u64 x3.New, .bool x3.Write], Own 53 ek_tx_Entry v0_l a0.l, Box bp0 [.int .i64 a0.mark, v0_l, .int .i64 a0.status, .int .i64 a0.at_], F]) (Z := fun Q => ∀ (_ _ _ _ _ _ _ _ _ _ _ : Unit), Q [(0, bp bp0 0), (4, .int .i64 0), (1, bp bp1 0), (5, bp b5 0), (78, .bool (t6.Version == t22))] [Box b9 [.int .u64 t6.Value, .int .u32 t6.Version, .int .i64 t6.Mark], Box bp1 [v1_l, .int .u32 a1.limit], Own 55 ek_api_Cell v1_l a1.l, Box b5 [.int .i64 x3.Cell, .int .u32 x3.Version, .int .u64 x3.Old, .int .u64 x3.New, .bool x3.Write], Own 53 ek_tx_Entry v0_l a0.l, Box bp0 [.int .i64 a0.mark, v0_l, .int .i64 a0.status, .int .i64 a0.at_], F]) (T := [tS 5 (bp b5 0), tS 6 (bp b9 0), tS 1 (bp bp1 0), tE [(0, bp bp0 0), (4, .int .i64 0)], tR (Box b9 [.int .u64 t6.Value, .int .u32 t6.Version, .int .i64 t6.Mark]), tR (Box bp1 [v1_l, .int .u32 a1.limit]), tR (Own 55 ek_api_Cell v1_l a1.l), tR (Box b5 [.int .i64 x3.Cell, .int .u32 x3.Version, .int .u64 x3.Old, .int .u64 x3.New, .bool x3.Write]), tR (Own 53 ek_tx_Entry v0_l a0.l), tR (Box bp0 [.int .i64 a0.mark, v0_l, .int .i64 a0.status, .int .i64 a0.at_]), tR (F), tS 79 (bp b5 4), tS 80 (.bool x3.Write), tS 81 (.bool x3.Write), tS 82 (bp b9 1), tS 83 (.int .u32 t6.Version), tS 84 (bp bp1 0), tS 85 (.int .u32 t22), tS 86 (.bool (t6.Version == t22)), tS 87 (.bool (t6.Version == t22)), tS 78 (.bool (t6.Version == t22))]) (D := [⟨[0], [], [11]⟩, ⟨[11, 7], [], [12]⟩, ⟨[12], [], [13]⟩, ⟨[1, 13], [], [14]⟩, ⟨[13, 14, 4], [], [15]⟩, ⟨[2, 13], [], [16]⟩, ⟨[13, 16, 5, 6], [], [17]⟩, ⟨[13, 15, 17], [], [18]⟩, ⟨[13, 18], [], [19]⟩, ⟨[19], [], [20]⟩]) (ini := [0, 1, 2, 3, 4, 5, 6, 7, 8, 9, 10]) (fin := [3, 2, 0, 20, 4, 5, 6, 7, 8, 9, 10]) (bf := [[], [0], [0, 1], [0, 1, 2], [0, 1, 2, 3], [0, 1, 2], [0, 1, 2, 5], [0, 1, 2, 3, 4, 5, 6], [0, 1, 2, 3, 4, 5, 6, 7], [0, 1, 2, 3, 4, 5, 6, 7, 8]]) (by kernel_rfl) (by kernel_rfl) (fun Q => by kernel_rfl) (fun x w h1 h2 => ⟨(), (), (), (), (), (), (), (), (), (), (), EnvAll.of h1 ⟨rfl, rfl, rfl, rfl, rfl, trivial⟩, h2⟩) (fun Q => by kernel_rfl) ⟨?_, ?_, ?_, ?_, ?_, ?_, ?_, ?_, ?_, ?_, trivial⟩ ?_
      · rintro Fr _
        refine SO.v rfl (opv_fieldAddr Try.underlying53 rfl Try.sizeOf4 rfl rfl) ?_
        exact SO.nilZ fun a w h1 h2 h3 h4 h5 => PZ.of h1 h3 h5 (.cons () (.cons () (.nil ⟨EnvAll.of h2 ⟨rfl, rfl, trivial⟩, h4⟩)))
      · rintro Fr _ _
        refine SO.load1 rfl Try.isAgg4 rfl rfl ?_
        exact SO.nilZ fun a w h1 h2 h3 h4 h5 => PZ.of h1 h3 h5 (.cons () (.cons () (.cons () (.nil ⟨EnvAll.of h2 ⟨rfl, rfl, trivial⟩, h4⟩))))
      · rintro Fr _
        refine SO.v rfl (opv_move rfl) ?_
        exact SO.nilZ fun a w h1 h2 h3 h4 h5 => PZ.of h1 h3 h5 (.cons () (.cons () (.nil ⟨EnvAll.of h2 ⟨rfl, rfl, trivial⟩, h4⟩)))
      · rintro Fr _ _
        refine SO.takeT rfl rfl rfl b21 ?_
        refine SO.v rfl (opv_fieldAddr Try.underlying55 rfl Try.sizeOf22 rfl rfl) ?_
        exact SO.nilZ fun a w h1 h2 h3 h4 h5 => PZ.of h1 h3 h5 (.cons () (.cons () (.cons () (.nil ⟨EnvAll.of h2 ⟨rfl, rfl, rfl, trivial⟩, h4⟩))))
      · rintro Fr _ _ _
        refine SO.takeT rfl rfl rfl b21 ?_
        refine SO.load1 rfl Try.isAgg22 rfl rfl ?_
        exact SO.nilZ fun a w h1 h2 h3 h4 h5 => PZ.of h1 h3 h5 (.cons () (.cons () (.cons () (.cons () (.nil ⟨EnvAll.of h2 ⟨rfl, rfl, rfl, trivial⟩, h4⟩)))))
      · rintro Fr _ _
        refine SO.takeT rfl rfl rfl b21 ?_
        refine SO.v rfl (opv_move rfl) ?_
        exact SO.nilZ fun a w h1 h2 h3 h4 h5 => PZ.of h1 h3 h5 (.cons () (.cons () (.cons () (.nil ⟨EnvAll.of h2 ⟨rfl, rfl, rfl, trivial⟩, h4⟩))))
      · rintro Fr _ _ _ _
        refine SO.takeT rfl rfl rfl b21 ?_
        refine SO.b1 ?_
        refine SO.b1 ?_
        refine SO.call (pre := [Box _ _, Own _ _ _ _]) rfl Try.call30 rfl rfl rfl (word_Store_Limit.ct bp1 v1_l _ _ ht23) trivial ?_
        rintro _ _ ⟨rfl, rfl⟩
        refine SO.b1 ?_
        refine SO.b1 ?_
        exact SO.nilZ fun a w h1 h2 h3 h4 h5 => PZ.of2 (Y := fun Q => ∃ (_ _ _ _ _ : Unit), Q [(81, .bool x3.Write), (84, bp bp1 0), (85, .int .u32 t22)] [Box bp1 [v1_l, .int .u32 a1.limit], Own 55 ek_api_Cell v1_l a1.l]) (fun Q => by kernel_rfl) h1 h3 h5 ⟨(), (), (), (), (), EnvAll.of h2 ⟨rfl, rfl, rfl, trivial⟩, h4⟩
      · rintro Fr _ _ _
        refine SO.takeT rfl rfl rfl b21 ?_
        refine SO.v rfl (opv_eql rfl rfl) ?_
        exact SO.nilZ fun a w h1 h2 h3 h4 h5 => PZ.of h1 h3 h5 (.cons () (.cons () (.cons () (.cons () (.nil ⟨EnvAll.of h2 ⟨rfl, rfl, rfl, rfl, trivial⟩, h4⟩)))))
      · rintro Fr _ _
        refine SO.v rfl (opv_pick_t' b21 rfl rfl) ?_
        exact SO.nilZ fun a w h1 h2 h3 h4 h5 => PZ.of h1 h3 h5 (.cons () (.cons () (.cons () (.nil ⟨EnvAll.of h2 ⟨rfl, rfl, rfl, trivial⟩, h4⟩))))
      · rintro Fr _
        refine SO.v rfl (opv_assign rfl) ?_
        exact SO.nilZ fun a w h1 h2 h3 h4 h5 => PZ.of h1 h3 h5 (.cons () (.cons () (.nil ⟨EnvAll.of h2 ⟨rfl, rfl, trivial⟩, h4⟩)))
      rintro _ _ _ _ _ _ _ _ _ _ _
      refine S.to (ρ' := [(0, bp bp0 0), (4, .int .i64 0), (1, bp bp1 0), (5, bp b5 0), (78, .bool (t6.Version == t22))]) ⟨rfl, rfl, rfl, rfl, rfl, trivial⟩ ?_
      cases h
      refine S.b6 ?_
      refine S.b6 ?_
      refine S.b6 ?_
      refine S.b6 ?_
      refine S.b6 ?_
      refine S.b6 ?_
      refine S.b6 ?_
      refine S.to ?_ (hk2 () trivial)
      exact ⟨rfl, rfl, rfl, rfl, rfl, trivial⟩
    replace h := cond_f b21 h
    refine S.draw2 (Y := fun Q => ∃ (_ _ _ _ _ _ _ _ _ _ _ : Unit), Q [(5, bp b5 0), (6, bp b9 0), (1, bp bp1 0), (0, bp bp0 0), (4, .int .i64 0)] [Box b9 [.int .u64 t6.Value, .int .u32 t6.Version, .int .i64 t6.Mark], Box bp1 [v1_l, .int .u32 a1.limit], Own 55 ek_api_Cell v1_l a1.l, Box b5 [.int .i64 x3.Cell, .int .u32 x3.Version, .int .u64 x3.Old, .int .u64 x3.New, .bool x3.Write], Own 53 ek_tx_Entry v0_l a0.l, Box bp0 [.int .i64 a0.mark, v0_l, .int .i64 a0.status, .int .i64 a0.at_], F]) (Z := fun Q => ∀ (_ _ _ _ _ _ _ _ _ _ _ : Unit), Q [(0, bp bp0 0), (4, .int .i64 0), (1, bp bp1 0), (5, bp b5 0), (78, .bool false)] [Box b9 [.int .u64 t6.Value, .int .u32 t6.Version, .int .i64 t6.Mark], Box bp1 [v1_l, .int .u32 a1.limit], Own 55 ek_api_Cell v1_l a1.l, Box b5 [.int .i64 x3.Cell, .int .u32 x3.Version, .int .u64 x3.Old, .int .u64 x3.New, .bool x3.Write], Own 53 ek_tx_Entry v0_l a0.l, Box bp0 [.int .i64 a0.mark, v0_l, .int .i64 a0.status, .int .i64 a0.at_], F]) (T := [tS 5 (bp b5 0), tS 6 (bp b9 0), tS 1 (bp bp1 0), tE [(0, bp bp0 0), (4, .int .i64 0)], tR (Box b9 [.int .u64 t6.Value, .int .u32 t6.Version, .int .i64 t6.Mark]), tR (Box bp1 [v1_l, .int .u32 a1.limit]), tR (Own 55 ek_api_Cell v1_l a1.l), tR (Box b5 [.int .i64 x3.Cell, .int .u32 x3.Version, .int .u64 x3.Old, .int .u64 x3.New, .bool x3.Write]), tR (Own 53 ek_tx_Entry v0_l a0.l), tR (Box bp0 [.int .i64 a0.mark, v0_l, .int .i64 a0.status, .int .i64 a0.at_]), tR (F), tS 79 (bp b5 4), tS 80 (.bool x3.Write), tS 81 (.bool x3.Write), tS 82 (undef), tS 83 (undef), tS 84 (undef), tS 85 (undef), tS 86 (undef), tS 87 (.bool false), tS 78 (.bool false)]) (D := [⟨[0], [], [11]⟩, ⟨[11, 7], [], [12]⟩, ⟨[12], [], [13]⟩, ⟨[13], [], [14]⟩, ⟨[13], [], [15]⟩, ⟨[13], [], [16]⟩, ⟨[13], [], [17]⟩, ⟨[13], [], [18]⟩, ⟨[13, 18], [], [19]⟩, ⟨[19], [], [20]⟩]) (ini := [0, 1, 2, 3, 4, 5, 6, 7, 8, 9, 10]) (fin := [3, 2, 0, 20, 4, 5, 6, 7, 8, 9, 10]) (bf := [[], [0], [0, 1], [0, 1, 2], [0, 1, 2, 3], [0, 1, 2], [0, 1, 2, 5], [0, 1, 2, 3, 4, 5, 6], [0, 1, 2, 3, 4, 5, 6, 7], [0, 1, 2, 3, 4, 5, 6, 7, 8]]) (by kernel_rfl) (by kernel_rfl) (fun Q => by kernel_rfl) (fun x w h1 h2 => ⟨(), (), (), (), (), (), (), (), (), (), (), EnvAll.of h1 ⟨rfl, rfl, rfl, rfl, rfl, trivial⟩, h2⟩) (fun Q => by kernel_rfl) ⟨?_, ?_, ?_, ?_, ?_, ?_, ?_, ?_, ?_, ?_, trivial⟩ ?_
    · rintro Fr _
      refine SO.v rfl (opv_fieldAddr Try.underlying53 rfl Try.sizeOf4 rfl rfl) ?_
      exact SO.nilZ fun a w h1 h2 h3 h4 h5 => PZ.of h1 h3 h5 (.cons () (.cons () (.nil ⟨EnvAll.of h2 ⟨rfl, rfl, trivial⟩, h4⟩)))
    · rintro Fr _ _
      refine SO.load1 rfl Try.isAgg4 rfl rfl ?_
      exact SO.nilZ fun a w h1 h2 h3 h4 h5 => PZ.of h1 h3 h5 (.cons () (.cons () (.cons () (.nil ⟨EnvAll.of h2 ⟨rfl, rfl, trivial⟩, h4⟩))))
    · rintro Fr _
      refine SO.v rfl (opv_move rfl) ?_
      exact SO.nilZ fun a w h1 h2 h3 h4 h5 => PZ.of h1 h3 h5 (.cons () (.cons () (.nil ⟨EnvAll.of h2 ⟨rfl, rfl, trivial⟩, h4⟩)))
    · rintro Fr _
      refine SO.passF rfl rfl rfl b21 rfl rfl ?_
      exact SO.nilZ fun a w h1 h2 h3 h4 h5 => PZ.of h1 h3 h5 (.cons () (.cons () (.nil ⟨EnvAll.of h2 ⟨rfl, rfl, trivial⟩, h4⟩)))
    · rintro Fr _
      refine SO.passF rfl rfl rfl b21 rfl rfl ?_
      exact SO.nilZ fun a w h1 h2 h3 h4 h5 => PZ.of h1 h3 h5 (.cons () (.cons () (.nil ⟨EnvAll.of h2 ⟨rfl, rfl, trivial⟩, h4⟩)))
    · rintro Fr _
      refine SO.passF rfl rfl rfl b21 rfl rfl ?_
      exact SO.nilZ fun a w h1 h2 h3 h4 h5 => PZ.of h1 h3 h5 (.cons () (.cons () (.nil ⟨EnvAll.of h2 ⟨rfl, rfl, trivial⟩, h4⟩)))
    · rintro Fr _
      refine SO.passF rfl rfl rfl b21 rfl rfl ?_
      exact SO.nilZ fun a w h1 h2 h3 h4 h5 => PZ.of h1 h3 h5 (.cons () (.cons () (.nil ⟨EnvAll.of h2 ⟨rfl, rfl, trivial⟩, h4⟩)))
    · rintro Fr _
      refine SO.passF rfl rfl rfl b21 rfl rfl ?_
      exact SO.nilZ fun a w h1 h2 h3 h4 h5 => PZ.of h1 h3 h5 (.cons () (.cons () (.nil ⟨EnvAll.of h2 ⟨rfl, rfl, trivial⟩, h4⟩)))
    · rintro Fr _ _
      refine SO.v rfl (opv_pick_f' b21 rfl rfl) ?_
      exact SO.nilZ fun a w h1 h2 h3 h4 h5 => PZ.of h1 h3 h5 (.cons () (.cons () (.cons () (.nil ⟨EnvAll.of h2 ⟨rfl, rfl, rfl, trivial⟩, h4⟩))))
    · rintro Fr _
      refine SO.v rfl (opv_assign rfl) ?_
      exact SO.nilZ fun a w h1 h2 h3 h4 h5 => PZ.of h1 h3 h5 (.cons () (.cons () (.nil ⟨EnvAll.of h2 ⟨rfl, rfl, trivial⟩, h4⟩)))
    rintro _ _ _ _ _ _ _ _ _ _ _
    refine S.to (ρ' := [(0, bp bp0 0), (4, .int .i64 0), (1, bp bp1 0), (5, bp b5 0), (78, .bool false)]) ⟨rfl, rfl, rfl, rfl, rfl, trivial⟩ ?_
    cases h
    refine S.b6 ?_
    refine S.b6 ?_
    refine S.b6 ?_
    refine S.b6 ?_
    refine S.b6 ?_
    refine S.b6 ?_
    refine S.b6 ?_
    refine S.to ?_ (hk2 () trivial)
    exact ⟨rfl, rfl, rfl, rfl, rfl, trivial⟩
  rintro _ -
  replace h := hJ2
  rcases bool_or j78_2 with b24 | b24
  · replace h := cond_t b24 h
    refine S.condT rfl b24 ?_
    refine S.region ?_
    refine SO.v rfl (opv_move rfl) ?_
    obtain ⟨p25, ht26, h⟩ := opt_bind h
    refine SO.b4 ?_
    refine SO.b5 ?_
    refine SO.call (pre := [Box _ _, Own _ _ _ _]) rfl Try.call20 rfl rfl rfl (desc_Desc_turn.ct bp0 v0_l _ _ _ ht26) trivial ?_
    rintro _ _ ⟨u27_l, rfl, rfl⟩
    refine SO.b1 ?_
    refine SO.rd fun hr28 => ?_
    refine SO.nil ?_
    refine S.inBlock ?_
    refine S.seq ?_
    refine S.region ?_
    refine SO.v rfl (opv_assign rfl) ?_
    refine SO.nil ?_
    cases h
    refine S.b2 ?_
    refine S.drop ?_
    refine S.b4 ?_
    refine S.drop ?_
    refine S.b4 ?_
    refine S.b4 ?_
    refine S.b4 ?_
    refine S.b3 ?_
    refine S.b4 ?_
    exact S.ret1 Try.func21 rfl rfl (fun w hs hk => hR w _ _ ⟨u27_l, v1_l, rfl, rfl⟩ hs hk)
  replace h := cond_f b24 h
  refine S.condF rfl b24 ?_
  refine S.seq ?_
  refine S.seq ?_
  obtain ⟨⟨t29, p30⟩, ht31, h⟩ := opt_bind h
  refine S.draw2 (Y := fun Q => ∃ (_ _ _ _ _ _ _ _ _ _ _ : Unit), Q [(1, bp bp1 0), (5, bp b5 0), (0, bp bp0 0), (4, .int .i64 0)] [Box b9 [.int .u64 t6.Value, .int .u32 t6.Version, .int .i64 t6.Mark], Box bp1 [v1_l, .int .u32 a1.limit], Own 55 ek_api_Cell v1_l a1.l, Box b5 [.int .i64 x3.Cell, .int .u32 x3.Version, .int .u64 x3.Old, .int .u64 x3.New, .bool x3.Write], Own 53 ek_tx_Entry v0_l a0.l, Box bp0 [.int .i64 a0.mark, v0_l, .int .i64 a0.status, .int .i64 a0.at_], F]) (Z := fun Q => ∀ (_ _ _ : Unit) (u32_l : Value) (_ _ _ _ _ : Unit), Q [(0, bp bp0 0), (4, .int .i64 0), (8, errV 59 t29), (35, errV 59 t29)] [Own 55 ek_api_Cell u32_l p30.l, Box bp1 [u32_l, .int .u32 p30.limit], Box b9 [.int .u64 t6.Value, .int .u32 t6.Version, .int .i64 t6.Mark], Box b5 [.int .i64 x3.Cell, .int .u32 x3.Version, .int .u64 x3.Old, .int .u64 x3.New, .bool x3.Write], Own 53 ek_tx_Entry v0_l a0.l, Box bp0 [.int .i64 a0.mark, v0_l, .int .i64 a0.status, .int .i64 a0.at_], F]) (T := [tS 1 (bp bp1 0), tS 5 (bp b5 0), tS 0 (bp bp0 0), tS 4 (.int .i64 0), tR (Box b9 [.int .u64 t6.Value, .int .u32 t6.Version, .int .i64 t6.Mark]), tR (Box bp1 [v1_l, .int .u32 a1.limit]), tR (Own 55 ek_api_Cell v1_l a1.l), tR (Box b5 [.int .i64 x3.Cell, .int .u32 x3.Version, .int .u64 x3.Old, .int .u64 x3.New, .bool x3.Write]), tR (Own 53 ek_tx_Entry v0_l a0.l), tR (Box bp0 [.int .i64 a0.mark, v0_l, .int .i64 a0.status, .int .i64 a0.at_]), tR (F), tS 26 (bp bp1 0), tS 27 (bp b5 0), tS 28 (.int .i64 x3.Cell), tS 29 (bp b5 1), tS 30 (.int .u32 x3.Version), tS 31 (bp bp0 0), tS 32 (bp bp0 0), tS 33 (bp bp0 0), tS 34 (.int .i64 a0.mark), ⟨Value, [35], (fun u32_l => [(35, errV 59 t29)]), (fun u32_l => [Own 55 ek_api_Cell u32_l p30.l, Box bp1 [u32_l, .int .u32 p30.limit]]), fun _ => rfl⟩, tS 8 (errV 59 t29)]) (D := [⟨[0], [], [11]⟩, ⟨[1], [], [12]⟩, ⟨[12, 7], [], [13]⟩, ⟨[1], [], [14]⟩, ⟨[14, 7], [], [15]⟩, ⟨[2], [], [16]⟩, ⟨[16], [], [17]⟩, ⟨[17], [], [18]⟩, ⟨[18, 9], [], [19]⟩, ⟨[11, 13, 15, 19], [5, 6], [20]⟩, ⟨[20], [], [21]⟩]) (ini := [0, 1, 2, 3, 4, 5, 6, 7, 8, 9, 10]) (fin := [2, 3, 21, 20, 4, 7, 8, 9, 10]) (bf := [[], [], [1], [], [3], [], [5], [5, 6], [5, 6, 7], [0, 1, 2, 3, 4, 5, 6, 7, 8], [0, 1, 2, 3, 4, 5, 6, 7, 8, 9]]) (by kernel_rfl) (by kernel_rfl) (fun Q => by kernel_rfl) (fun x w h1 h2 => ⟨(), (), (), (), (), (), (), (), (), (), (), EnvAll.of h1 ⟨rfl, rfl, rfl, rfl, trivial⟩, h2⟩) (fun Q => by kernel_rfl) ⟨?_, ?_, ?_, ?_, ?_, ?_, ?_, ?_, ?_, ?_, ?_, trivial⟩ ?_
  · rintro Fr _
    refine SO.v rfl (opv_move rfl) ?_
    exact SO.nilZ fun a w h1 h2 h3 h4 h5 => PZ.of h1 h3 h5 (.cons () (.cons () (.nil ⟨EnvAll.of h2 ⟨rfl, rfl, trivial⟩, h4⟩)))
  · rintro Fr _
    refine SO.v rfl (opv_fieldAddr Try.underlying53 rfl Try.sizeOf3 rfl rfl) ?_
    exact SO.nilZ fun a w h1 h2 h3 h4 h5 => PZ.of h1 h3 h5 (.cons () (.cons () (.nil ⟨EnvAll.of h2 ⟨rfl, rfl, trivial⟩, h4⟩)))
  · rintro Fr _ _
    refine SO.load1 rfl Try.isAgg3 rfl rfl ?_
    exact SO.nilZ fun a w h1 h2 h3 h4 h5 => PZ.of h1 h3 h5 (.cons () (.cons () (.cons () (.nil ⟨EnvAll.of h2 ⟨rfl, rfl, trivial⟩, h4⟩))))
  · rintro Fr _
    refine SO.v rfl (opv_fieldAddr Try.underlying53 rfl Try.sizeOf22 rfl rfl) ?_
    exact SO.nilZ fun a w h1 h2 h3 h4 h5 => PZ.of h1 h3 h5 (.cons () (.cons () (.nil ⟨EnvAll.of h2 ⟨rfl, rfl, trivial⟩, h4⟩)))
  · rintro Fr _ _
    refine SO.load1 rfl Try.isAgg22 rfl rfl ?_
    exact SO.nilZ fun a w h1 h2 h3 h4 h5 => PZ.of h1 h3 h5 (.cons () (.cons () (.cons () (.nil ⟨EnvAll.of h2 ⟨rfl, rfl, trivial⟩, h4⟩))))
  · rintro Fr _
    refine SO.v rfl (opv_move rfl) ?_
    exact SO.nilZ fun a w h1 h2 h3 h4 h5 => PZ.of h1 h3 h5 (.cons () (.cons () (.nil ⟨EnvAll.of h2 ⟨rfl, rfl, trivial⟩, h4⟩)))
  · rintro Fr _
    refine SO.v rfl (opv_nilCheck rfl) ?_
    exact SO.nilZ fun a w h1 h2 h3 h4 h5 => PZ.of h1 h3 h5 (.cons () (.cons () (.nil ⟨EnvAll.of h2 ⟨rfl, rfl, trivial⟩, h4⟩)))
  · rintro Fr _
    refine SO.v rfl (opv_fieldAddr Try.underlying64 rfl Try.sizeOf3 rfl rfl) ?_
    exact SO.nilZ fun a w h1 h2 h3 h4 h5 => PZ.of h1 h3 h5 (.cons () (.cons () (.nil ⟨EnvAll.of h2 ⟨rfl, rfl, trivial⟩, h4⟩)))
  · rintro Fr _ _
    refine SO.load1 rfl Try.isAgg3 rfl rfl ?_
    exact SO.nilZ fun a w h1 h2 h3 h4 h5 => PZ.of h1 h3 h5 (.cons () (.cons () (.cons () (.nil ⟨EnvAll.of h2 ⟨rfl, rfl, trivial⟩, h4⟩))))
  · refine spec2 (X := fun Q => ∀ (_ _ _ _ _ _ : Unit), Q [(26, bp bp1 0), (28, .int .i64 x3.Cell), (30, .int .u32 x3.Version), (34, .int .i64 a0.mark)] [Box bp1 [v1_l, .int .u32 a1.limit], Own 55 ek_api_Cell v1_l a1.l]) (fun Q => by kernel_rfl) ?_
    rintro Fr _ _ _ _ _ _
    refine SO.b1 ?_
    refine SO.b1 ?_
    refine SO.call (pre := [Box _ _, Own _ _ _ _]) rfl Try.call31 rfl rfl rfl (word_Store_Reserve.ct bp1 v1_l _ _ _ _ _ _ ht31) trivial ?_
    rintro _ _ ⟨u32_l, rfl, rfl⟩
    refine SO.b1 ?_
    refine SO.rd fun hr33 => ?_
    refine SO.b1 ?_
    refine SO.b1 ?_
    exact SO.nilZ fun a w h1 h2 h3 h4 h5 => PZ.of2 (Y := fun Q => ∃ (_ _ _ _ : Unit) (u32_l : Value), Q [(26, bp bp1 0), (28, .int .i64 x3.Cell), (30, .int .u32 x3.Version), (34, .int .i64 a0.mark), (35, errV 59 t29)] [Own 55 ek_api_Cell u32_l p30.l, Box bp1 [u32_l, .int .u32 p30.limit]]) (fun Q => by kernel_rfl) h1 h3 h5 ⟨(), (), (), (), u32_l, EnvAll.of h2 ⟨rfl, rfl, rfl, rfl, rfl, trivial⟩, h4⟩
  · rintro Fr u32_l
    refine SO.rd fun hr34 => ?_
    refine SO.v rfl (opv_assign rfl) ?_
    refine SO.b1 ?_
    refine SO.b1 ?_
    exact SO.nilZ fun a w h1 h2 h3 h4 h5 => PZ.of h1 h3 h5 (.cons u32_l (.cons () (.nil ⟨EnvAll.of h2 ⟨rfl, rfl, trivial⟩, h4⟩)))
  rintro _ _ _ u32_l _ _ _ _ _
  refine S.to (ρ' := [(0, bp bp0 0), (4, .int .i64 0), (8, errV 59 t29)]) ⟨rfl, rfl, rfl, trivial⟩ ?_
  refine S.rd fun hr35 => ?_
  refine S.seq ?_
  refine S.region ?_
  refine SO.v rfl (opv_move rfl) ?_
  refine SO.v rfl (opv_neqN (e := t29) Try.underlying28 rfl) ?_
  refine SO.nil ?_
  rcases bool_or t29.isSome with b36 | b36
  · replace h := cond_t b36 h
    refine S.condT rfl b36 ?_
    refine S.seq ?_
    refine S.region ?_
    refine SO.v rfl (opv_move rfl) ?_
    obtain ⟨p37, ht38, h⟩ := opt_bind h
    refine SO.b4 ?_
    refine SO.b5 ?_
    refine SO.call (pre := [Box _ _, Own _ _ _ _]) rfl Try.call20 rfl rfl rfl (desc_Desc_turn.ct bp0 v0_l _ _ _ ht38) trivial ?_
    rintro _ _ ⟨u39_l, rfl, rfl⟩
    refine SO.b1 ?_
    refine SO.rd fun hr40 => ?_
    refine SO.nil ?_
    refine S.seq ?_
    refine S.region ?_
    refine SO.v rfl (opv_assign rfl) ?_
    refine SO.nil ?_
    cases h
    refine S.b4 ?_
    refine S.drop ?_
    refine S.b4 ?_
    refine S.drop ?_
    refine S.b4 ?_
    refine S.b3 ?_
    refine S.b4 ?_
    refine S.b3 ?_
    refine S.b4 ?_
    exact S.ret1 Try.func21 rfl rfl (fun w hs hk => hR w _ _ ⟨u39_l, u32_l, rfl, rfl⟩ hs hk)
  replace h := cond_f b36 h
  refine S.condF rfl b36 ?_
  refine S.skip ?_
  refine S.region ?_
  refine SO.v rfl (opv_move rfl) ?_
  refine SO.v rfl (opv_nilCheck rfl) ?_
  refine SO.v rfl (opv_fieldAddr Try.underlying64 rfl Try.sizeOf3 rfl rfl) ?_
  refine SO.b5 ?_
  refine SO.load1 rfl Try.isAgg3 rfl rfl ?_
  refine SO.v rfl (opv_add rfl rfl) ?_
  refine SO.v rfl (opv_nilCheck rfl) ?_
  refine SO.v rfl (opv_fieldAddr Try.underlying64 rfl Try.sizeOf3 rfl rfl) ?_
  refine SO.store1 Try.sizeOf3 rfl rfl rfl rfl ?_
  refine SO.nil ?_
  refine S.to (ρ' := [(4, .int .i64 0)]) ⟨rfl, trivial⟩ ?_
  refine S.inBlock ?_
  refine S.seq ?_
  refine S.region ?_
  refine SO.v rfl (opv_assign rfl) ?_
  refine SO.nil ?_
  cases h
  refine S.b3 ?_
  refine S.drop ?_
  refine S.b3 ?_
  refine S.drop ?_
  refine S.b4 ?_
  refine S.b2 ?_
  refine S.b3 ?_
  refine S.b4 ?_
  refine S.b4 ?_
  exact S.ret1 Try.func21 rfl rfl (fun w hs hk => hR w _ _ ⟨v0_l, u32_l, rfl, rfl⟩ hs hk)
end Go.Proofs
namespace Go.Proofs
open Go.Sl Go.RowKit
/-! 9 (*padstone/desc.Desc).Step -/
def desc_Desc_Step.f (a0 : desc_Desc) (a1 : word_Store) : Option ((Int × desc_Desc × word_Store)) :=
  (desc_Desc_Over.f a0).bind fun t3 => bif t3 then (some (0, a0, a1)) else (bif a0.status != 0 then ((desc_Desc_release.f a0 a1).bind fun (p7, p8) => some (0, p7, p8)) else (bif a0.at_ == (a0.l.length : Int) then ((desc_Desc_turn.f a0 1).bind fun p15 => some (0, p15, a1)) else ((desc_Desc_reserve.f a0 a1).bind fun (t19, p20, p21) => some (t19, p20, p21))))
set_option maxHeartbeats 8000000 in
set_option maxRecDepth 100000 in
theorem desc_Desc_Step.ct (bp0 : Nat) (v0_l : Value) (bp1 : Nat) (v1_l : Value) (a0 : desc_Desc) (a1 : word_Store) (r0 : Int) (rp0 : desc_Desc) (rp1 : word_Store) (h : desc_Desc_Step.f a0 a1 = some (r0, rp0, rp1)) :
    Ct Try.prog 9 [bp bp0 0, bp bp1 0] (fun _ => True) [Box bp0 [.int .i64 a0.mark, v0_l, .int .i64 a0.status, .int .i64 a0.at_], Own 53 ek_tx_Entry v0_l a0.l, Box bp1 [v1_l, .int .u32 a1.limit], Own 55 ek_api_Cell v1_l a1.l] (fun u H' => ∃ rw0_l rw1_l, u = .int .i64 r0 ∧ H' = [Box bp0 [.int .i64 rp0.mark, rw0_l, .int .i64 rp0.status, .int .i64 rp0.at_], Own 53 ek_tx_Entry rw0_l rp0.l, Box bp1 [rw1_l, .int .u32 rp1.limit], Own 55 ek_api_Cell rw1_l rp1.l]) := by
  unfold desc_Desc_Step.f at h
  refine Ct.intro (n := 37) Try.func9 rfl rfl rfl ?_
  intro R w0 F hF hR
  refine S.b1 ?_
  refine S.rd fun hr1 => ?_
  refine S.b3 ?_
  refine S.rd fun hr2 => ?_
  refine S.seq ?_
  refine S.region ?_
  refine SO.v rfl (opv_assign rfl) ?_
  refine SO.nil ?_
  refine S.seq ?_
  refine S.block ?_
  refine S.seq ?_
  refine S.region ?_
  refine SO.v rfl (opv_move rfl) ?_
  refine SO.v rfl (opv_eqlP Try.underlying26 rfl) ?_
  refine SO.v rfl (opv_move rfl) ?_
  refine SO.takeT rfl rfl rfl rfl ?_
  refine SO.v rfl (opv_move rfl) ?_
  refine SO.takeT rfl rfl rfl rfl ?_
  obtain ⟨t3, ht4, h⟩ := opt_bind h
  refine SO.b1 ?_
  refine SO.b2 ?_
  refine SO.call (pre := [Box _ _, Own _ _ _ _]) rfl Try.call12 rfl rfl rfl (desc_Desc_Over.ct bp0 v0_l _ _ ht4) trivial ?_
  rintro _ _ ⟨rfl, rfl⟩
  refine SO.v rfl (opv_pick_ff rfl rfl) ?_
  refine SO.v rfl (opv_assign rfl) ?_
  refine SO.nil ?_
  rcases bool_or t3 with b5 | b5
  · replace h := cond_t b5 h
    refine S.condT rfl b5 ?_
    refine S.seq ?_
    refine S.region ?_
    refine SO.v rfl (opv_assign rfl) ?_
    refine SO.nil ?_
    refine S.to (ρ' := [(4, .int .i64 0)]) ⟨rfl, trivial⟩ ?_
    cases h
    refine S.b4 ?_
    refine S.b3 ?_
    refine S.b4 ?_
    refine S.b4 ?_
    refine S.b4 ?_
    exact S.ret1 Try.func9 rfl rfl (fun w hs hk => hR w _ _ ⟨v0_l, v1_l, rfl, rfl⟩ hs hk)
  replace h := cond_f b5 h
  refine S.condF rfl b5 ?_
  refine S.seq ?_
  refine S.region ?_
  refine SO.v rfl (opv_move rfl) ?_
  refine SO.v rfl (opv_nilCheck rfl) ?_
  refine SO.v rfl (opv_fieldAddr Try.underlying64 rfl Try.sizeOf3 rfl rfl) ?_
  refine SO.load1 rfl Try.isAgg3 rfl rfl ?_
  refine SO.v rfl (opv_neq rfl rfl) ?_
  refine SO.v rfl (opv_assign rfl) ?_
  refine SO.nil ?_
  refine S.to (ρ' := [(0, bp bp0 0), (1, bp bp1 0), (4, .int .i64 0), (12, .bool (a0.status != 0))]) ⟨rfl, rfl, rfl, rfl, trivial⟩ ?_
  rcases bool_or (a0.status != 0) with b6 | b6
  · replace h := cond_t b6 h
    refine S.condT rfl b6 ?_
    refine S.seq ?_
    refine S.region ?_
    refine SO.v rfl (opv_move rfl) ?_
    refine SO.v rfl (opv_move rfl) ?_
    obtain ⟨⟨p7, p8⟩, ht9, h⟩ := opt_bind h
    refine SO.b2 ?_
    refine SO.b3 ?_
    refine SO.b3 ?_
    refine SO.b3 ?_
    refine SO.call (pre := [Box _ _, Own _ _ _ _, Box _ _, Own _ _ _ _]) rfl Try.call19 rfl rfl rfl (desc_Desc_release.ct bp0 v0_l bp1 v1_l _ _ _ _ ht9) trivial ?_
    rintro _ _ ⟨u10_l, u12_l, rfl, rfl⟩
    refine SO.b1 ?_
    refine SO.rd fun hr11 => ?_
    refine SO.b3 ?_
    refine SO.rd fun hr13 => ?_
    refine SO.nil ?_
    refine S.seq ?_
    refine S.region ?_
    refine SO.v rfl (opv_assign rfl) ?_
    refine SO.nil ?_
    cases h
    refine S.b4 ?_
    refine S.b1 ?_
    refine S.b4 ?_
    refine S.b3 ?_
    refine S.b4 ?_
    exact S.ret1 Try.func9 rfl rfl (fun w hs hk => hR w _ _ ⟨u10_l, u12_l, rfl, rfl⟩ hs hk)
  replace h := cond_f b6 h
  refine S.condF rfl b6 ?_
  refine S.seq ?_
  refine S.draw2 (Y := fun Q => ∃ (_ _ _ _ _ _ _ : Unit), Q [(0, bp bp0 0), (1, bp bp1 0), (4, .int .i64 0)] [Box bp0 [.int .i64 a0.mark, v0_l, .int .i64 a0.status, .int .i64 a0.at_], Own 53 ek_tx_Entry v0_l a0.l, Own 55 ek_api_Cell v1_l a1.l, Box bp1 [v1_l, .int .u32 a1.limit], F]) (Z := fun Q => ∀ (_ _ _ _ _ _ _ _ : Unit), Q [(0, bp bp0 0), (1, bp bp1 0), (4, .int .i64 0), (21, .bool (a0.at_ == (a0.l.length : Int)))] [Box bp0 [.int .i64 a0.mark, v0_l, .int .i64 a0.status, .int .i64 a0.at_], Own 53 ek_tx_Entry v0_l a0.l, Own 55 ek_api_Cell v1_l a1.l, Box bp1 [v1_l, .int .u32 a1.limit], F]) (T := [tS 0 (bp bp0 0), tE [(1, bp bp1 0), (4, .int .i64 0)], tR (Box bp0 [.int .i64 a0.mark, v0_l, .int .i64 a0.status, .int .i64 a0.at_]), tR (Own 53 ek_tx_Entry v0_l a0.l), tR (Own 55 ek_api_Cell v1_l a1.l), tR (Box bp1 [v1_l, .int .u32 a1.limit]), tR (F), tS 22 (bp bp0 0), tS 23 (bp bp0 0), tS 24 (bp bp0 3), tS 25 (.int .i64 a0.at_), tS 26 (bp bp0 0), tS 27 (bp bp0 0), tS 28 (bp bp0 1), tS 29 (v0_l), tS 30 (.int .i64 (a0.l.length : Int)), tS 31 (.bool (a0.at_ == (a0.l.length : Int))), tS 21 (.bool (a0.at_ == (a0.l.length : Int)))]) (D := [⟨[0], [], [7]⟩, ⟨[7], [], [8]⟩, ⟨[8], [], [9]⟩, ⟨[9, 2], [], [10]⟩, ⟨[0], [], [11]⟩, ⟨[11], [], [12]⟩, ⟨[12], [], [13]⟩, ⟨[13, 2], [], [14]⟩, ⟨[14, 3], [], [15]⟩, ⟨[10, 15], [], [16]⟩, ⟨[16], [], [17]⟩]) (ini := [0, 1, 2, 3, 4, 5, 6]) (fin := [0, 1, 17, 2, 3, 4, 5, 6]) (bf := [[], [0], [0, 1], [0, 1, 2], [], [4], [4, 5], [4, 5, 6], [4, 5, 6, 7], [0, 1, 2, 3, 4, 5, 6, 7, 8], [0, 1, 2, 3, 4, 5, 6, 7, 8, 9]]) (by kernel_rfl) (by kernel_rfl) (fun Q => by kernel_rfl) (fun x w h1 h2 => ⟨(), (), (), (), (), (), (), EnvAll.of h1 ⟨rfl, rfl, rfl, trivial⟩, h2⟩) (fun Q => by kernel_rfl) ⟨?_, ?_, ?_, ?_, ?_, ?_, ?_, ?_, ?_, ?_, ?_, trivial⟩ ?_
  · rintro Fr _
    refine SO.v rfl (opv_move rfl) ?_
    exact SO.nilZ fun a w h1 h2 h3 h4 h5 => PZ.of h1 h3 h5 (.cons () (.cons () (.nil ⟨EnvAll.of h2 ⟨rfl, rfl, trivial⟩, h4⟩)))
  · rintro Fr _
    refine SO.v rfl (opv_nilCheck rfl) ?_
    exact SO.nilZ fun a w h1 h2 h3 h4 h5 => PZ.of h1 h3 h5 (.cons () (.cons () (.nil ⟨EnvAll.of h2 ⟨rfl, rfl, trivial⟩, h4⟩)))
  · rintro Fr _
    refine SO.v rfl (opv_fieldAddr Try.underlying64 rfl Try.sizeOf3 rfl rfl) ?_
    exact SO.nilZ fun a w h1 h2 h3 h4 h5 => PZ.of h1 h3 h5 (.cons () (.cons () (.nil ⟨EnvAll.of h2 ⟨rfl, rfl, trivial⟩, h4⟩)))
  · rintro Fr _ _
    refine SO.load1 rfl Try.isAgg3 rfl rfl ?_
    exact SO.nilZ fun a w h1 h2 h3 h4 h5 => PZ.of h1 h3 h5 (.cons () (.cons () (.cons () (.nil ⟨EnvAll.of h2 ⟨rfl, rfl, trivial⟩, h4⟩))))
  · rintro Fr _
    refine SO.v rfl (opv_move rfl) ?_
    exact SO.nilZ fun a w h1 h2 h3 h4 h5 => PZ.of h1 h3 h5 (.cons () (.cons () (.nil ⟨EnvAll.of h2 ⟨rfl, rfl, trivial⟩, h4⟩)))
  · rintro Fr _
    refine SO.v rfl (opv_nilCheck rfl) ?_
    exact SO.nilZ fun a w h1 h2 h3 h4 h5 => PZ.of h1 h3 h5 (.cons () (.cons () (.nil ⟨EnvAll.of h2 ⟨rfl, rfl, trivial⟩, h4⟩)))
  · rintro Fr _
    refine SO.v rfl (opv_fieldAddr Try.underlying64 rfl Try.sizeOf37 rfl rfl) ?_
    exact SO.nilZ fun a w h1 h2 h3 h4 h5 => PZ.of h1 h3 h5 (.cons () (.cons () (.nil ⟨EnvAll.of h2 ⟨rfl, rfl, trivial⟩, h4⟩)))
  · rintro Fr _ _
    refine SO.load1 rfl Try.isAgg37 rfl rfl ?_
    exact SO.nilZ fun a w h1 h2 h3 h4 h5 => PZ.of h1 h3 h5 (.cons () (.cons () (.cons () (.nil ⟨EnvAll.of h2 ⟨rfl, rfl, trivial⟩, h4⟩))))
  · rintro Fr _ _
    refine SO.v rfl (opv_lenR rfl Try.underlying37 hr1 rfl) ?_
    exact SO.nilZ fun a w h1 h2 h3 h4 h5 => PZ.of h1 h3 h5 (.cons () (.cons () (.cons () (.nil ⟨EnvAll.of h2 ⟨rfl, rfl, trivial⟩, h4⟩))))
  · rintro Fr _ _
    refine SO.v rfl (opv_eql rfl rfl) ?_
    exact SO.nilZ fun a w h1 h2 h3 h4 h5 => PZ.of h1 h3 h5 (.cons () (.cons () (.cons () (.nil ⟨EnvAll.of h2 ⟨rfl, rfl, rfl, trivial⟩, h4⟩))))
  · rintro Fr _
    refine SO.v rfl (opv_assign rfl) ?_
    exact SO.nilZ fun a w h1 h2 h3 h4 h5 => PZ.of h1 h3 h5 (.cons () (.cons () (.nil ⟨EnvAll.of h2 ⟨rfl, rfl, trivial⟩, h4⟩)))
  rintro _ _ _ _ _ _ _ _
  refine S.to (ρ' := [(0, bp bp0 0), (1, bp bp1 0), (4, .int .i64 0), (21, .bool (a0.at_ == (a0.l.length : Int)))]) ⟨rfl, rfl, rfl, rfl, trivial⟩ ?_
  rcases bool_or (a0.at_ == (a0.l.length : Int)) with b14 | b14
  · replace h := cond_t b14 h
    refine S.condT rfl b14 ?_
    refine S.seq ?_
    refine S.region ?_
    refine SO.v rfl (opv_move rfl) ?_
    obtain ⟨p15, ht16, h⟩ := opt_bind h
    refine SO.b1 ?_
    refine SO.b1 ?_
    refine SO.call (pre := [Box _ _, Own _ _ _ _]) rfl Try.call20 rfl rfl rfl (desc_Desc_turn.ct bp0 v0_l _ _ _ ht16) trivial ?_
    rintro _ _ ⟨u17_l, rfl, rfl⟩
    refine SO.b1 ?_
    refine SO.rd fun hr18 => ?_
    refine SO.nil ?_
    refine S.seq ?_
    refine S.region ?_
    refine SO.v rfl (opv_assign rfl) ?_
    refine SO.nil ?_
    cases h
    refine S.b4 ?_
    refine S.b3 ?_
    refine S.b4 ?_
    refine S.b3 ?_
    refine S.b4 ?_
    exact S.ret1 Try.func9 rfl rfl (fun w hs hk => hR w _ _ ⟨u17_l, v1_l, rfl, rfl⟩ hs hk)
  replace h := cond_f b14 h
  refine S.condF rfl b14 ?_
  refine S.skip ?_
  refine S.inBlock ?_
  refine S.seq ?_
  refine S.region ?_
  refine SO.v rfl (opv_move rfl) ?_
  refine SO.v rfl (opv_move rfl) ?_
  obtain ⟨⟨t19, p20, p21⟩, ht22, h⟩ := opt_bind h
  refine SO.b2 ?_
  refine SO.b3 ?_
  refine SO.b3 ?_
  refine SO.b3 ?_
  refine SO.call (pre := [Box _ _, Own _ _ _ _, Box _ _, Own _ _ _ _]) rfl Try.call21 rfl rfl rfl (desc_Desc_reserve.ct bp0 v0_l bp1 v1_l _ _ _ _ _ ht22) trivial ?_
  rintro _ _ ⟨u23_l, u25_l, rfl, rfl⟩
  refine SO.b1 ?_
  refine SO.rd fun hr24 => ?_
  refine SO.b3 ?_
  refine SO.rd fun hr26 => ?_
  refine SO.v rfl (opv_assign rfl) ?_
  refine SO.nil ?_
  cases h
  refine S.b4 ?_
  refine S.b1 ?_
  refine S.b4 ?_
  refine S.b3 ?_
  refine S.b4 ?_
  exact S.ret1 Try.func9 rfl rfl (fun w hs hk => hR w _ _ ⟨u23_l, u25_l, rfl, rfl⟩ hs hk)
end Go.Proofs
namespace Go.Proofs
open Go.Sl Go.RowKit
/-! 18 slices.Clone[[]padstone/tx.Entry,padstone/tx.Entry] -/
def slices_Clone_tx_Entry_tx_Entry.f (a0 : List tx_Entry) : Option (List tx_Entry) := app [] a0
set_option maxRecDepth 100000 in
theorem slices_Clone_tx_Entry_tx_Entry.ct (v0 : Value) (a0 : List tx_Entry) (r0 : List tx_Entry) (h : slices_Clone_tx_Entry_tx_Entry.f a0 = some r0) :
    Ct Try.prog 18 [v0] (fun F => Rd ek_tx_Entry v0 a0 F) [] (fun u H' => ∃ v_r0, u = v_r0 ∧ H' = [Own 53 ek_tx_Entry v_r0 r0]) := by
  unfold slices_Clone_tx_Entry_tx_Entry.f at h
  refine Ct.intro (n := 8) Try.func18 rfl rfl rfl ?_
  intro R w0 F hF0 hR
  obtain ⟨a, cap, ⟨hv, hcap⟩, hel⟩ := hF0
  have hF0 : Rd ek_tx_Entry v0 a0 F := ⟨a, cap, ⟨hv, hcap⟩, hel⟩
  have hv2 : ev (num 0 [v0]) (.tmp 0) = some (.slice a a0.length cap) := by rw [← hv]; rfl
  refine S.seq ?_
  refine S.region ?_
  refine SO.v rfl (opv_assign rfl) ?_
  refine SO.nil ?_
  refine S.seq ?_
  refine S.seq ?_
  refine S.region ?_
  refine SO.v rfl (opv_move rfl) ?_
  rw [show v0 = .slice a a0.length cap from hv]
  refine SO.v rfl (opv_eqlSN Try.underlying37 rfl) ?_
  rw [← hv]
  refine SO.nil ?_
  cases a with
  | none =>
    have h0 : a0 = [] := by
      cases a0 with
      | nil => rfl
      | cons x l => obtain ⟨b, off, hh, _⟩ := hel 0 x rfl; cases hh
    subst h0
    have hr : r0 = [] := by injection h with h; exact h.symm
    subst hr
    refine S.cond_true rfl ?_
    refine S.seq ?_
    refine S.region ?_
    refine SO.v rfl (opv_assign rfl) ?_
    refine SO.nil ?_
    refine S.newOwn 53 ek_tx_Entry ?_
    exact S.ret1 Try.func18 rfl rfl (fun w hs hk => hR w _ _ ⟨_, rfl, rfl⟩ hs hk)
  | some ad =>
    refine S.cond_false rfl ?_
    refine S.skip ?_
    refine S.seq ?_
    refine S.region ?_
    refine SO.buildSlice0 ek_tx_Entry rfl Try.underlying37 Try.sizeOf53 (fun v1 hr1 => ?_)
    refine SO.v rfl (opv_move rfl) ?_
    refine SO.append rfl Try.underlying37 Try.underlying37 inf53 rfl rfl rfl (by decide) rfl rfl rfl (Rd.head hF0) h (fun v2 => ?_)
    refine SO.v rfl (opv_assign rfl) ?_
    refine SO.nil ?_
    exact S.ret1 Try.func18 rfl rfl (fun w hs hk => hR w _ _ ⟨_, rfl, rfl⟩ hs hk)
end Go.Proofs
namespace Go.Proofs
open Go.Sl Go.RowKit
/-! 7 padstone/desc.New -/
def desc_New.f (a0 : Int) (a1 : List tx_Entry) : Option (desc_Desc) :=
  (slices_Clone_tx_Entry_tx_Entry.f a1).bind fun t1 => some (⟨a0, t1, 0, 0⟩ : desc_Desc)
set_option maxHeartbeats 8000000 in
set_option maxRecDepth 100000 in
theorem desc_New.ct (v1 : Value) (a0 : Int) (a1 : List tx_Entry) (r0 : desc_Desc) (h : desc_New.f a0 a1 = some r0) :
    Ct Try.prog 7 [.int .i64 a0, v1] (fun F => Rd ek_tx_Entry v1 a1 F) [] (fun u H' => ∃ b_r0 w_r0_l, u = bp b_r0 0 ∧ H' = [Box b_r0 [.int .i64 r0.mark, w_r0_l, .int .i64 r0.status, .int .i64 r0.at_], Own 53 ek_tx_Entry w_r0_l r0.l]) := by
  unfold desc_New.f at h
  refine Ct.intro (n := 10) Try.func7 rfl rfl rfl ?_
  intro R w0 F hF hR
  have hF1 := hF
  refine S.seq ?_
  refine S.region ?_
  refine SO.v rfl (opv_assign rfl) ?_
  refine SO.nil ?_
  refine S.seq ?_
  refine S.region ?_
  refine SO.v rfl (opv_move rfl) ?_
  refine SO.v rfl (opv_move rfl) ?_
  obtain ⟨t1, ht2, h⟩ := opt_bind h
  refine SO.call (pre := []) rfl Try.call18 rfl rfl rfl (slices_Clone_tx_Entry_tx_Entry.ct v1 _ _ ht2) (Rd.head hF1) ?_
  rintro v3 _ ⟨_, rfl, rfl⟩
  refine SO.rd fun hr4 => ?_
  have hB_ : ∀ (w : World) (u0_ : Value), u0_.oneCell' = true → (Instr.build 64 #[(0, .int .i64 a0), (1, u0_)]).run Try.prog w = .ok (.agg #[.int .i64 a0, u0_, .int .i64 0, .int .i64 0]) w := (by intro w u0_ hu0_; cases u0_ <;> first | (simp [Value.oneCell'] at hu0_; done) | kernel_rfl)
  refine SO.v rfl (opv_build (v := .agg #[.int .i64 a0, v3, .int .i64 0, .int .i64 0]) rfl (fun w => hB_ w v3 (Rd.one hr4))) ?_
  clear hB_
  refine SO.box rfl rfl rfl (fun b5 => ?_)
  refine SO.v rfl (opv_assign rfl) ?_
  refine SO.nil ?_
  refine S.to (ρ' := [(4, bp b5 0)]) ⟨rfl, trivial⟩ ?_
  cases h
  refine S.b2 ?_
  refine S.b2 ?_
  refine S.b2 ?_
  exact S.ret1 Try.func7 rfl rfl (fun w hs hk => hR w _ _ ⟨b5, v3, rfl, rfl⟩ hs hk)
end Go.Proofs
