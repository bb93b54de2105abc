/- What the functions that ReplayLong reaches come to, and that they do. On no condition. -/
import Derived.Test.YtmhopcicgnnbeaaGreatDoorFr2
import Derived.Test.YtmhopcicgnnbeaaGreatDoorProg
set_option linter.all false
namespace Go.Proofs
open Go.Sl Go.RowKit
theorem inf3 : Tryz.prog.info? 3 = some Tryz.t3 := by kernel_rfl
theorem inf22 : Tryz.prog.info? 22 = some Tryz.t22 := by kernel_rfl
theorem inf42 : Tryz.prog.info? 42 = some Tryz.t42 := by kernel_rfl
theorem inf58 : Tryz.prog.info? 58 = some Tryz.t58 := by kernel_rfl
theorem inf92 : Tryz.prog.info? 92 = some Tryz.t92 := by kernel_rfl
theorem inf111 : Tryz.prog.info? 111 = some Tryz.t111 := by kernel_rfl
theorem inf119 : Tryz.prog.info? 119 = some Tryz.t119 := by kernel_rfl
theorem inf126 : Tryz.prog.info? 126 = some Tryz.t126 := by kernel_rfl
theorem inf179 : Tryz.prog.info? 179 = some Tryz.t179 := by kernel_rfl
theorem inf189 : Tryz.prog.info? 189 = some Tryz.t189 := by kernel_rfl
theorem inf193 : Tryz.prog.info? 193 = some Tryz.t193 := by kernel_rfl
structure api_Cell where
  Value : Int
  Version : Int
  Mark : Int
  deriving DecidableEq, Inhabited
def ek_api_Cell : EK api_Cell := ⟨3, fun x => [.int .u64 x.Value, .int .u32 x.Version, .int .i64 x.Mark], fun _ => rfl, fun x v hv => by
  simp only [List.mem_cons, List.not_mem_nil, or_false] at hv
  rcases hv with rfl | rfl | rfl <;> rfl, by decide⟩
theorem eqI_api_Cell (x y : api_Cell) : eqI [x.Value, x.Version, x.Mark] [y.Value, y.Version, y.Mark] = decide (x = y) := by
  cases x; cases y
  rw [Bool.eq_iff_iff]
  simp [eqI]
theorem fi_api_Cell : ∀ fs, Tryz.prog.underlying 92 = some (.struct fs) → FI Tryz.prog fs.toList 0 [.u64, .u32, .i64] := by
  intro fs h
  rw [Tryz.underlying92] at h
  injection h with h
  injection h with h
  subst h
  exact ⟨by decide, Tryz.underlying58, rfl, ⟨by decide, Tryz.underlying23, rfl, ⟨by decide, Tryz.underlying3, rfl, trivial⟩⟩⟩
theorem eq_eql_api_Cell {ρ : Env} {t2 : TypeId} {x y : api_Cell} {a b : Operand} (ha : ev ρ a = some (.agg (encI [.u64, .u32, .i64] [x.Value, x.Version, x.Mark]).toArray)) (hb : ev ρ b = some (.agg (encI [.u64, .u32, .i64] [y.Value, y.Version, y.Mark]).toArray)) : OpV Tryz.prog ρ (.binOp .eql 92 a b t2) (.bool (decide (x = y))) :=
  opv_eqlS Tryz.underlying92 Tryz.stoodInHeld92 Tryz.eqGuardType92 (fi_api_Cell _ Tryz.underlying92) rfl rfl ha hb (by rw [eqI_api_Cell])
theorem eq_neq_api_Cell {ρ : Env} {t2 : TypeId} {x y : api_Cell} {a b : Operand} (ha : ev ρ a = some (.agg (encI [.u64, .u32, .i64] [x.Value, x.Version, x.Mark]).toArray)) (hb : ev ρ b = some (.agg (encI [.u64, .u32, .i64] [y.Value, y.Version, y.Mark]).toArray)) : OpV Tryz.prog ρ (.binOp .neq 92 a b t2) (.bool (!decide (x = y))) :=
  opv_neqS Tryz.underlying92 Tryz.stoodInHeld92 Tryz.eqGuardType92 (fi_api_Cell _ Tryz.underlying92) rfl rfl ha hb (by rw [eqI_api_Cell])
structure word_Store where
  l : List api_Cell
  limit : Int
  deriving DecidableEq, Inhabited
def kr_word_Store : EKR word_Store := ⟨2, fun x => [.sl ek_api_Cell x.l, .val (.int .u32 x.limit)], fun _ => rfl, fun x v hv => by
  simp only [List.mem_cons, List.not_mem_nil, or_false, CellP.val.injEq, reduceCtorEq, false_or] at hv
  rcases hv with rfl <;> rfl, by decide⟩
structure api_Reply where
  Code : Int
  Word : Int
  Badge : Int
  deriving DecidableEq, Inhabited
def ek_api_Reply : EK api_Reply := ⟨3, fun x => [.int .i64 x.Code, .int .i64 x.Word, .int .i64 x.Badge], fun _ => rfl, fun x v hv => by
  simp only [List.mem_cons, List.not_mem_nil, or_false] at hv
  rcases hv with rfl | rfl | rfl <;> rfl, by decide⟩
theorem eqI_api_Reply (x y : api_Reply) : eqI [x.Code, x.Word, x.Badge] [y.Code, y.Word, y.Badge] = decide (x = y) := by
  cases x; cases y
  rw [Bool.eq_iff_iff]
  simp [eqI]
theorem fi_api_Reply : ∀ fs, Tryz.prog.underlying 111 = some (.struct fs) → FI Tryz.prog fs.toList 0 [.i64, .i64, .i64] := by
  intro fs h
  rw [Tryz.underlying111] at h
  injection h with h
  injection h with h
  subst h
  exact ⟨by decide, Tryz.underlying3, rfl, ⟨by decide, Tryz.underlying3, rfl, ⟨by decide, Tryz.underlying3, rfl, trivial⟩⟩⟩
theorem eq_eql_api_Reply {ρ : Env} {t2 : TypeId} {x y : api_Reply} {a b : Operand} (ha : ev ρ a = some (.agg (encI [.i64, .i64, .i64] [x.Code, x.Word, x.Badge]).toArray)) (hb : ev ρ b = some (.agg (encI [.i64, .i64, .i64] [y.Code, y.Word, y.Badge]).toArray)) : OpV Tryz.prog ρ (.binOp .eql 111 a b t2) (.bool (decide (x = y))) :=
  opv_eqlS Tryz.underlying111 Tryz.stoodInHeld111 Tryz.eqGuardType111 (fi_api_Reply _ Tryz.underlying111) rfl rfl ha hb (by rw [eqI_api_Reply])
theorem eq_neq_api_Reply {ρ : Env} {t2 : TypeId} {x y : api_Reply} {a b : Operand} (ha : ev ρ a = some (.agg (encI [.i64, .i64, .i64] [x.Code, x.Word, x.Badge]).toArray)) (hb : ev ρ b = some (.agg (encI [.i64, .i64, .i64] [y.Code, y.Word, y.Badge]).toArray)) : OpV Tryz.prog ρ (.binOp .neq 111 a b t2) (.bool (!decide (x = y))) :=
  opv_neqS Tryz.underlying111 Tryz.stoodInHeld111 Tryz.eqGuardType111 (fi_api_Reply _ Tryz.underlying111) rfl rfl ha hb (by rw [eqI_api_Reply])
structure api_Call where
  Op : Int
  Cap : Int
  A : Int
  B : Int
  C : Int
  D : Int
  deriving DecidableEq, Inhabited
def ek_api_Call : EK api_Call := ⟨6, fun x => [.int .i64 x.Op, .int .i64 x.Cap, .int .i64 x.A, .int .i64 x.B, .int .i64 x.C, .int .i64 x.D], fun _ => rfl, fun x v hv => by
  simp only [List.mem_cons, List.not_mem_nil, or_false] at hv
  rcases hv with rfl | rfl | rfl | rfl | rfl | rfl <;> rfl, by decide⟩
theorem eqI_api_Call (x y : api_Call) : eqI [x.Op, x.Cap, x.A, x.B, x.C, x.D] [y.Op, y.Cap, y.A, y.B, y.C, y.D] = decide (x = y) := by
  cases x; cases y
  rw [Bool.eq_iff_iff]
  simp [eqI]
theorem fi_api_Call : ∀ fs, Tryz.prog.underlying 86 = some (.struct fs) → FI Tryz.prog fs.toList 0 [.i64, .i64, .i64, .i64, .i64, .i64] := by
  intro fs h
  rw [Tryz.underlying86] at h
  injection h with h
  injection h with h
  subst h
  exact ⟨by decide, Tryz.underlying3, rfl, ⟨by decide, Tryz.underlying3, rfl, ⟨by decide, Tryz.underlying3, rfl, ⟨by decide, Tryz.underlying3, rfl, ⟨by decide, Tryz.underlying3, rfl, ⟨by decide, Tryz.underlying3, rfl, trivial⟩⟩⟩⟩⟩⟩
theorem eq_eql_api_Call {ρ : Env} {t2 : TypeId} {x y : api_Call} {a b : Operand} (ha : ev ρ a = some (.agg (encI [.i64, .i64, .i64, .i64, .i64, .i64] [x.Op, x.Cap, x.A, x.B, x.C, x.D]).toArray)) (hb : ev ρ b = some (.agg (encI [.i64, .i64, .i64, .i64, .i64, .i64] [y.Op, y.Cap, y.A, y.B, y.C, y.D]).toArray)) : OpV Tryz.prog ρ (.binOp .eql 86 a b t2) (.bool (decide (x = y))) :=
  opv_eqlS Tryz.underlying86 Tryz.stoodInHeld86 Tryz.eqGuardType86 (fi_api_Call _ Tryz.underlying86) rfl rfl ha hb (by rw [eqI_api_Call])
theorem eq_neq_api_Call {ρ : Env} {t2 : TypeId} {x y : api_Call} {a b : Operand} (ha : ev ρ a = some (.agg (encI [.i64, .i64, .i64, .i64, .i64, .i64] [x.Op, x.Cap, x.A, x.B, x.C, x.D]).toArray)) (hb : ev ρ b = some (.agg (encI [.i64, .i64, .i64, .i64, .i64, .i64] [y.Op, y.Cap, y.A, y.B, y.C, y.D]).toArray)) : OpV Tryz.prog ρ (.binOp .neq 86 a b t2) (.bool (!decide (x = y))) :=
  opv_neqS Tryz.underlying86 Tryz.stoodInHeld86 Tryz.eqGuardType86 (fi_api_Call _ Tryz.underlying86) rfl rfl ha hb (by rw [eqI_api_Call])
structure api_Cap where
  Kind : Int
  Rights : Int
  Obj : Int
  Badge : Int
  Guard : Int
  Bits : Int
  deriving DecidableEq, Inhabited
def ek_api_Cap : EK api_Cap := ⟨6, fun x => [.int .i64 x.Kind, .int .i64 x.Rights, .int .i64 x.Obj, .int .i64 x.Badge, .int .i64 x.Guard, .int .i64 x.Bits], fun _ => rfl, fun x v hv => by
  simp only [List.mem_cons, List.not_mem_nil, or_false] at hv
  rcases hv with rfl | rfl | rfl | rfl | rfl | rfl <;> rfl, by decide⟩
theorem eqI_api_Cap (x y : api_Cap) : eqI [x.Kind, x.Rights, x.Obj, x.Badge, x.Guard, x.Bits] [y.Kind, y.Rights, y.Obj, y.Badge, y.Guard, y.Bits] = decide (x = y) := by
  cases x; cases y
  rw [Bool.eq_iff_iff]
  simp [eqI]
theorem fi_api_Cap : ∀ fs, Tryz.prog.underlying 116 = some (.struct fs) → FI Tryz.prog fs.toList 0 [.i64, .i64, .i64, .i64, .i64, .i64] := by
  intro fs h
  rw [Tryz.underlying116] at h
  injection h with h
  injection h with h
  subst h
  exact ⟨by decide, Tryz.underlying3, rfl, ⟨by decide, Tryz.underlying3, rfl, ⟨by decide, Tryz.underlying3, rfl, ⟨by decide, Tryz.underlying3, rfl, ⟨by decide, Tryz.underlying3, rfl, ⟨by decide, Tryz.underlying3, rfl, trivial⟩⟩⟩⟩⟩⟩
theorem eq_eql_api_Cap {ρ : Env} {t2 : TypeId} {x y : api_Cap} {a b : Operand} (ha : ev ρ a = some (.agg (encI [.i64, .i64, .i64, .i64, .i64, .i64] [x.Kind, x.Rights, x.Obj, x.Badge, x.Guard, x.Bits]).toArray)) (hb : ev ρ b = some (.agg (encI [.i64, .i64, .i64, .i64, .i64, .i64] [y.Kind, y.Rights, y.Obj, y.Badge, y.Guard, y.Bits]).toArray)) : OpV Tryz.prog ρ (.binOp .eql 116 a b t2) (.bool (decide (x = y))) :=
  opv_eqlS Tryz.underlying116 Tryz.stoodInHeld116 Tryz.eqGuardType116 (fi_api_Cap _ Tryz.underlying116) rfl rfl ha hb (by rw [eqI_api_Cap])
theorem eq_neq_api_Cap {ρ : Env} {t2 : TypeId} {x y : api_Cap} {a b : Operand} (ha : ev ρ a = some (.agg (encI [.i64, .i64, .i64, .i64, .i64, .i64] [x.Kind, x.Rights, x.Obj, x.Badge, x.Guard, x.Bits]).toArray)) (hb : ev ρ b = some (.agg (encI [.i64, .i64, .i64, .i64, .i64, .i64] [y.Kind, y.Rights, y.Obj, y.Badge, y.Guard, y.Bits]).toArray)) : OpV Tryz.prog ρ (.binOp .neq 116 a b t2) (.bool (!decide (x = y))) :=
  opv_neqS Tryz.underlying116 Tryz.stoodInHeld116 Tryz.eqGuardType116 (fi_api_Cap _ Tryz.underlying116) rfl rfl ha hb (by rw [eqI_api_Cap])
structure invoke_doer where
  t : Int
  c : api_Call
  slot : Int
  cap : api_Cap
  deriving DecidableEq, Inhabited
structure view_Pair_uint64 where
  At : Int
  Val : Int
  deriving DecidableEq, Inhabited
def ek_view_Pair_uint64 : EK view_Pair_uint64 := ⟨2, fun x => [.int .i64 x.At, .int .u64 x.Val], fun _ => rfl, fun x v hv => by
  simp only [List.mem_cons, List.not_mem_nil, or_false] at hv
  rcases hv with rfl | rfl <;> rfl, by decide⟩
theorem eqI_view_Pair_uint64 (x y : view_Pair_uint64) : eqI [x.At, x.Val] [y.At, y.Val] = decide (x = y) := by
  cases x; cases y
  rw [Bool.eq_iff_iff]
  simp [eqI]
theorem fi_view_Pair_uint64 : ∀ fs, Tryz.prog.underlying 179 = some (.struct fs) → FI Tryz.prog fs.toList 0 [.i64, .u64] := by
  intro fs h
  rw [Tryz.underlying179] at h
  injection h with h
  injection h with h
  subst h
  exact ⟨by decide, Tryz.underlying3, rfl, ⟨by decide, Tryz.underlying58, rfl, trivial⟩⟩
theorem eq_eql_view_Pair_uint64 {ρ : Env} {t2 : TypeId} {x y : view_Pair_uint64} {a b : Operand} (ha : ev ρ a = some (.agg (encI [.i64, .u64] [x.At, x.Val]).toArray)) (hb : ev ρ b = some (.agg (encI [.i64, .u64] [y.At, y.Val]).toArray)) : OpV Tryz.prog ρ (.binOp .eql 179 a b t2) (.bool (decide (x = y))) :=
  opv_eqlS Tryz.underlying179 Tryz.stoodInHeld179 Tryz.eqGuardType179 (fi_view_Pair_uint64 _ Tryz.underlying179) rfl rfl ha hb (by rw [eqI_view_Pair_uint64])
theorem eq_neq_view_Pair_uint64 {ρ : Env} {t2 : TypeId} {x y : view_Pair_uint64} {a b : Operand} (ha : ev ρ a = some (.agg (encI [.i64, .u64] [x.At, x.Val]).toArray)) (hb : ev ρ b = some (.agg (encI [.i64, .u64] [y.At, y.Val]).toArray)) : OpV Tryz.prog ρ (.binOp .neq 179 a b t2) (.bool (!decide (x = y))) :=
  opv_neqS Tryz.underlying179 Tryz.stoodInHeld179 Tryz.eqGuardType179 (fi_view_Pair_uint64 _ Tryz.underlying179) rfl rfl ha hb (by rw [eqI_view_Pair_uint64])
structure kernel_Boot where
  Words : List Int
  Limit : Int
  Calls : List (List (List Int))
  deriving DecidableEq, Inhabited
structure tx_Tx where
  cells : Int
  l : Option (List (Int × api_Cell))
  out : Option (List (Int × Int))
  lack : Int
  fine : Bool
  deriving DecidableEq, Inhabited
structure tx_Entry where
  Cell : Int
  Version : Int
  Old : Int
  New : Int
  Write : Bool
  deriving DecidableEq, Inhabited
def ek_tx_Entry : EK tx_Entry := ⟨5, fun x => [.int .i64 x.Cell, .int .u32 x.Version, .int .u64 x.Old, .int .u64 x.New, .bool x.Write], fun _ => rfl, fun x v hv => by
  simp only [List.mem_cons, List.not_mem_nil, or_false] at hv
  rcases hv with rfl | rfl | rfl | rfl | rfl <;> rfl, by decide⟩
structure desc_Desc where
  mark : Int
  l : List tx_Entry
  status : Int
  at_ : Int
  deriving DecidableEq, Inhabited
def kr_desc_Desc : EKR desc_Desc := ⟨4, fun x => [.val (.int .i64 x.mark), .sl ek_tx_Entry x.l, .val (.int .i64 x.status), .val (.int .i64 x.at_)], fun _ => rfl, fun x v hv => by
  simp only [List.mem_cons, List.not_mem_nil, or_false, CellP.val.injEq, reduceCtorEq, false_or] at hv
  rcases hv with rfl | rfl | rfl <;> rfl, by decide⟩
structure view_Pair_api_Cell where
  At : Int
  Val : api_Cell
  deriving DecidableEq, Inhabited
def ek_view_Pair_api_Cell : EK view_Pair_api_Cell := ⟨4, fun x => [.int .i64 x.At, .int .u64 x.Val.Value, .int .u32 x.Val.Version, .int .i64 x.Val.Mark], fun _ => rfl, fun x v hv => by
  simp only [List.mem_cons, List.not_mem_nil, or_false] at hv
  rcases hv with rfl | rfl | rfl | rfl <;> rfl, by decide⟩
structure ref10_Obj where
  Kind : Int
  Size : Int
  Used : Int
  First : Int
  Radix : Int
  Wait : Int
  Queue : List Int
  Word : Int
  State : Int
  Owing : Int
  Badge : Int
  Prio : Int
  On : Int
  Owes : Int
  Root : api_Cap
  Pages : A4
  Right : A4
  In : Int
  Page : Int
  Bound : Int
  Mask : Int
  deriving DecidableEq, Inhabited
def kr_ref10_Obj : EKR ref10_Obj := ⟨32, fun x => [.val (.int .i64 x.Kind), .val (.int .i64 x.Size), .val (.int .i64 x.Used), .val (.int .i64 x.First), .val (.int .i64 x.Radix), .val (.int .i64 x.Wait), .sl (ekI .i64) x.Queue, .val (.int .i64 x.Word), .val (.int .i64 x.State), .val (.int .i64 x.Owing), .val (.int .i64 x.Badge), .val (.int .i64 x.Prio), .val (.int .i64 x.On), .val (.int .i64 x.Owes), .val (.int .i64 x.Root.Kind), .val (.int .i64 x.Root.Rights), .val (.int .i64 x.Root.Obj), .val (.int .i64 x.Root.Badge), .val (.int .i64 x.Root.Guard), .val (.int .i64 x.Root.Bits), .val (.int .i64 x.Pages.a0), .val (.int .i64 x.Pages.a1), .val (.int .i64 x.Pages.a2), .val (.int .i64 x.Pages.a3), .val (.int .i64 x.Right.a0), .val (.int .i64 x.Right.a1), .val (.int .i64 x.Right.a2), .val (.int .i64 x.Right.a3), .val (.int .i64 x.In), .val (.int .i64 x.Page), .val (.int .i64 x.Bound), .val (.int .i64 x.Mask)], fun _ => rfl, fun x v hv => by
  simp only [List.mem_cons, List.not_mem_nil, or_false, CellP.val.injEq, reduceCtorEq, false_or] at hv
  rcases hv with rfl | rfl | rfl | rfl | rfl | rfl | rfl | rfl | rfl | rfl | rfl | rfl | rfl | rfl | rfl | rfl | rfl | rfl | rfl | rfl | rfl | rfl | rfl | rfl | rfl | rfl | rfl | rfl | rfl | rfl | rfl <;> rfl, by decide⟩
structure ref10_Slot where
  Cap : api_Cap
  Parent : Int
  Kids : List Int
  deriving DecidableEq, Inhabited
def kr_ref10_Slot : EKR ref10_Slot := ⟨8, fun x => [.val (.int .i64 x.Cap.Kind), .val (.int .i64 x.Cap.Rights), .val (.int .i64 x.Cap.Obj), .val (.int .i64 x.Cap.Badge), .val (.int .i64 x.Cap.Guard), .val (.int .i64 x.Cap.Bits), .val (.int .i64 x.Parent), .sl (ekI .i64) x.Kids], fun _ => rfl, fun x v hv => by
  simp only [List.mem_cons, List.not_mem_nil, or_false, CellP.val.injEq, reduceCtorEq, false_or] at hv
  rcases hv with rfl | rfl | rfl | rfl | rfl | rfl | rfl <;> rfl, by decide⟩
structure ref10_State where
  Slots : List ref10_Slot
  Objs : List ref10_Obj
  NS : Int
  NO : Int
  deriving DecidableEq, Inhabited

end Go.Proofs
set_option linter.unusedVariables false
namespace Go.Proofs
open Go.Sl Go.RowKit
structure stm_Entry where
  Worker : Int
  Job : Int
  Told : Int
  Spent : Bool
  deriving DecidableEq, Inhabited
def ek_stm_Entry : EK stm_Entry := ⟨4, fun x => [.int .i64 x.Worker, .int .i64 x.Job, .int .i64 x.Told, .bool x.Spent], fun _ => rfl, fun x v hv => by
  simp only [List.mem_cons, List.not_mem_nil, or_false] at hv
  rcases hv with rfl | rfl | rfl | rfl <;> rfl, by decide⟩
def rep_desc_Desc (b : Nat) (t : desc_Desc) : HProp := fun m => ∃ (g_l : Value), stars [Box b [.int .i64 t.mark, g_l, .int .i64 t.status, .int .i64 t.at_], Own 189 ek_tx_Entry g_l t.l] m
theorem so_open_desc_Desc {P : Program} {n : Nat} {Z : Act → World → Prop} {w0 : Beg} {ops : Array Oper} {l : List Oper} {ρ : Env} {rest : List HProp} {b : Nat} {t : desc_Desc} (h : ∀ g_l, SO P n Z w0 ops l ρ (Box b [.int .i64 t.mark, g_l, .int .i64 t.status, .int .i64 t.at_] :: Own 189 ek_tx_Entry g_l t.l :: rest)) : SO P n Z w0 ops l ρ (rep_desc_Desc b t :: rest) := by
  intro a w h1 h2 h3 h4 h5
  obtain ⟨m1, m2, d, s1, s2, ⟨g_l, hx⟩, hr⟩ := h4
  exact h g_l a w h1 h2 h3 ((stars_append [Box b [.int .i64 t.mark, g_l, .int .i64 t.status, .int .i64 t.at_], Own 189 ek_tx_Entry g_l t.l] rest (hp w)).2 ⟨m1, m2, d, s1, s2, hx, hr⟩) h5
theorem so_close_desc_Desc {P : Program} {n : Nat} {Z : Act → World → Prop} {w0 : Beg} {ops : Array Oper} {l : List Oper} {ρ : Env} {rest : List HProp} {b : Nat} {t : desc_Desc} {g_l : Value} (h : SO P n Z w0 ops l ρ (rep_desc_Desc b t :: rest)) : SO P n Z w0 ops l ρ (Box b [.int .i64 t.mark, g_l, .int .i64 t.status, .int .i64 t.at_] :: Own 189 ek_tx_Entry g_l t.l :: rest) := h.sat fun w s => by
  have h2 : stars ([Box b [.int .i64 t.mark, g_l, .int .i64 t.status, .int .i64 t.at_], Own 189 ek_tx_Entry g_l t.l] ++ rest) (hp w) := s
  obtain ⟨m1, m2, d, s1, s2, hx, hr⟩ := (stars_append _ _ _).1 h2
  exact ⟨m1, m2, d, s1, s2, ⟨g_l, hx⟩, hr⟩
theorem s_open_desc_Desc {P : Program} {f : FuncId} {n : Nat} {R : Ending → World → Prop} {w0 : Beg} {k : List Item} {ρ : Env} {rest : List HProp} {b : Nat} {t : desc_Desc} (h : ∀ g_l, S P f n R w0 k ρ (Box b [.int .i64 t.mark, g_l, .int .i64 t.status, .int .i64 t.at_] :: Own 189 ek_tx_Entry g_l t.l :: rest)) : S P f n R w0 k ρ (rep_desc_Desc b t :: rest) := by
  intro a w h1 h2 h3 h4 h5
  obtain ⟨m1, m2, d, s1, s2, ⟨g_l, hx⟩, hr⟩ := h4
  exact h g_l a w h1 h2 h3 ((stars_append [Box b [.int .i64 t.mark, g_l, .int .i64 t.status, .int .i64 t.at_], Own 189 ek_tx_Entry g_l t.l] rest (hp w)).2 ⟨m1, m2, d, s1, s2, hx, hr⟩) h5
theorem s_close_desc_Desc {P : Program} {f : FuncId} {n : Nat} {R : Ending → World → Prop} {w0 : Beg} {k : List Item} {ρ : Env} {rest : List HProp} {b : Nat} {t : desc_Desc} {g_l : Value} (h : S P f n R w0 k ρ (rep_desc_Desc b t :: rest)) : S P f n R w0 k ρ (Box b [.int .i64 t.mark, g_l, .int .i64 t.status, .int .i64 t.at_] :: Own 189 ek_tx_Entry g_l t.l :: rest) := h.sat fun w s => by
  have h2 : stars ([Box b [.int .i64 t.mark, g_l, .int .i64 t.status, .int .i64 t.at_], Own 189 ek_tx_Entry g_l t.l] ++ rest) (hp w) := s
  obtain ⟨m1, m2, d, s1, s2, hx, hr⟩ := (stars_append _ _ _).1 h2
  exact ⟨m1, m2, d, s1, s2, ⟨g_l, hx⟩, hr⟩
def ekMd : EK (Nat × stm_Entry) := ⟨5, fun x => [bp x.1 0, .int .i64 x.2.Worker, .int .i64 x.2.Job, .int .i64 x.2.Told, .bool x.2.Spent], fun _ => rfl, fun x v hv => by
  simp only [List.mem_cons, List.not_mem_nil, or_false] at hv
  rcases hv with rfl | rfl | rfl | rfl | rfl <;> rfl, by decide⟩
/-- A pointer to a record, or nil. -/
def TxO (v : Value) (t : Option tx_Tx) : HProp := fun m => match t with | none => v = .pointer none | some t => ∃ b vl vo, v = bp b 0 ∧ stars [Box b [.int .i64 t.cells, vl, vo, .int .i64 t.lack, .bool t.fine], MapO (aggE ek_api_Cell) vl t.l, MapO (Value.int .u64) vo t.out] m
theorem S.txNil {P : Program} {f : FuncId} {n : Nat} {R : Ending → World → Prop} {w0 : Beg} {k : List Item} {ρ : Env} {rest : List HProp} (h : S P f n R w0 k ρ (TxO (.pointer none) none :: rest)) : S P f n R w0 k ρ rest :=
  h.sat fun w s => show stars (TxO (.pointer none) none :: rest) (hp w) from ⟨fun _ => none, hp w, fun _ => .inl rfl, fun _ _ e => by simp at e, .refl _, rfl, s⟩
theorem S.txSome {P : Program} {f : FuncId} {n : Nat} {R : Ending → World → Prop} {w0 : Beg} {k : List Item} {ρ : Env} {rest : List HProp} {b : Nat} {c l : Int} {L : Option (List (Int × api_Cell))} {O : Option (List (Int × Int))} {fi : Bool} {vl vo : Value} (h : S P f n R w0 k ρ (TxO (bp b 0) (some ⟨c, L, O, l, fi⟩) :: rest)) : S P f n R w0 k ρ (Box b [.int .i64 c, vl, vo, .int .i64 l, .bool fi] :: MapO (aggE ek_api_Cell) vl L :: MapO (Value.int .u64) vo O :: rest) := h.sat fun w s => by
  have h2 : stars ([Box b [.int .i64 c, vl, vo, .int .i64 l, .bool fi], MapO (aggE ek_api_Cell) vl L, MapO (Value.int .u64) vo O] ++ rest) (hp w) := s
  obtain ⟨m1, m2, d, s1, s2, hx, hr⟩ := (stars_append _ _ _).1 h2
  exact ⟨m1, m2, d, s1, s2, ⟨b, vl, vo, rfl, hx⟩, hr⟩
/-- What a feed tells: nothing, or a job, with what it owns. -/
def IsNil (u : Value) : HProp := fun _ => u = .nilFunc
def IsJob (JR : Value → HProp) (u : Value) : HProp := fun m => (∃ (jf : FuncId) (jcs : List Value), u = .func (.func jf) #[] jcs.toArray) ∧ JR u m
theorem SO.openNil {P : Program} {n : Nat} {Z : Act → World → Prop} {w0 : Beg} {ops : Array Oper} {l : List Oper} {ρ : Env} {rest : List HProp} {u : Value} (h : u = .nilFunc → SO P n Z w0 ops l ρ rest) : SO P n Z w0 ops l ρ (IsNil u :: rest) := by
  intro a w h1 h2 h3 h4 h5
  obtain ⟨m1, m2, d, s1, s2, hx, hr⟩ := h4
  exact h hx a w h1 h2 h3 (stars_mono _ s2 hr) h5
theorem SO.openJob {P : Program} {n : Nat} {Z : Act → World → Prop} {w0 : Beg} {ops : Array Oper} {l : List Oper} {ρ : Env} {rest : List HProp} {u : Value} {JR : Value → HProp} (h : ∀ (jf : FuncId) (jcs : List Value), u = .func (.func jf) #[] jcs.toArray → SO P n Z w0 ops l ρ (JR u :: rest)) : SO P n Z w0 ops l ρ (IsJob JR u :: rest) := by
  intro a w h1 h2 h3 h4 h5
  obtain ⟨m1, m2, d, s1, s2, ⟨⟨jf, jcs, e⟩, hx⟩, hr⟩ := h4
  exact h jf jcs e a w h1 h2 h3 ⟨m1, m2, d, s1, s2, hx, hr⟩ h5
/-- A row of functions. -/
def ekV {α : Type} (jv : α → Value) (h : ∀ a, (jv a).oneCell' = true) : EK α := ⟨1, fun a => [jv a], fun _ => rfl, fun a v hv => by simp at hv; subst hv; exact h a, by decide⟩
/-- A worker that has done nothing yet. -/
abbrev NW {α : Type} (jv : α → Value) (b : Nat) (a : α) : HProp := Box b [jv a, .nilFunc, .pointer none, .pointer none, .slice none 0 0]
section
variable {P : Program} {ρ : Env}
theorem opv_lenW {α : Type} {bs : List Nat} {ys : List α} {v : Value} {A : HProp} {x : Operand} {tys : Array TypeId} {t e : TypeId} (hl : bs.length = ys.length) (ht0 : tys[0]? = some t) (ht : P.underlying t = some (.slice e)) (hR : Rd ekP v bs A) (hx : ev ρ x = some v) : OpV P ρ (.call ⟨.builtin .len, #[x], tys⟩) (.int .i64 (ys.length : Int)) := by
  have := opv_lenR (ρ := ρ) ht0 ht hR hx
  rwa [hl] at this
theorem opv_eqlFV {t t2 : TypeId} {x : Operand} {fn : Fn} {us cs : Array Value} {u : TypeDesc} (ht : P.underlying t = some u) (hu : (match u with | .func .. => true | _ => false) = true) (hx : ev ρ x = some (.func fn us cs)) : OpV P ρ (.binOp .eql t x (.const .nilFunc) t2) (.bool false) := opv_eqlFN ht hu hx
theorem opv_neqFV {t t2 : TypeId} {x : Operand} {fn : Fn} {us cs : Array Value} {u : TypeDesc} (ht : P.underlying t = some u) (hu : (match u with | .func .. => true | _ => false) = true) (hx : ev ρ x = some (.func fn us cs)) : OpV P ρ (.binOp .neq t x (.const .nilFunc) t2) (.bool true) :=
  fun r w d t' p af g hr => by
    have h0 : r (.const .nilFunc) = .nilFunc := hr _ _ rfl
    have key : ∀ d, (Op.equalIn (d + 2) t (.func fn us cs) .nilFunc).run P w = .ok false w := fun d => by
      cases u <;> first | (simp at hu; done) | simp [Op.equalIn, run_underlying ht]
    simp [execOp, hr x _ hx, h0, eqGuard, binOp, eql_run w key]
theorem opv_eqlFF {t t2 : TypeId} {x : Operand} {u : TypeDesc} (ht : P.underlying t = some u) (hu : (match u with | .func .. => true | _ => false) = true) (hx : ev ρ x = some .nilFunc) : OpV P ρ (.binOp .eql t x (.const .nilFunc) t2) (.bool true) :=
  fun r w d t' p af g hr => by
    have h0 : r (.const .nilFunc) = .nilFunc := hr _ _ rfl
    have key : ∀ d, (Op.equalIn (d + 2) t .nilFunc .nilFunc).run P w = .ok true w := fun d => by
      cases u <;> first | (simp at hu; done) | simp [Op.equalIn, run_underlying ht]
    simp [execOp, hr x _ hx, h0, eqGuard, binOp, eql_run w key]
theorem opv_neqFF {t t2 : TypeId} {x : Operand} {u : TypeDesc} (ht : P.underlying t = some u) (hu : (match u with | .func .. => true | _ => false) = true) (hx : ev ρ x = some .nilFunc) : OpV P ρ (.binOp .neq t x (.const .nilFunc) t2) (.bool false) :=
  fun r w d t' p af g hr => by
    have h0 : r (.const .nilFunc) = .nilFunc := hr _ _ rfl
    have key : ∀ d, (Op.equalIn (d + 2) t .nilFunc .nilFunc).run P w = .ok true w := fun d => by
      cases u <;> first | (simp at hu; done) | simp [Op.equalIn, run_underlying ht]
    simp [execOp, hr x _ hx, h0, eqGuard, binOp, eql_run w key]
theorem opv_eqlEV {t t2 : TypeId} {x : Operand} {v : Value} {b : Bool} {u : TypeDesc} (ht : P.underlying t = some u) (hu : (match u with | .func .. => true | _ => false) = true) (hc : cond b (v = .nilFunc) (∃ fn us cs, v = .func fn us cs)) (hx : ev ρ x = some v) : OpV P ρ (.binOp .eql t x (.const .nilFunc) t2) (.bool b) := by
  cases b with
  | true => have hc : v = .nilFunc := hc
            subst hc; exact opv_eqlFF ht hu hx
  | false => obtain ⟨fn, us, cs, rfl⟩ : ∃ fn us cs, v = .func fn us cs := hc
             exact opv_eqlFV ht hu hx
end

end Go.Proofs
namespace Go.Proofs
open Go.Sl Go.RowKit
/-! 14 padstone/kernel.New$1 -/
def kernel_New_1.f (a0 : List (List Int)) : Option (Bool) :=
  some (decide (40 < (a0.length : Int)))
set_option maxHeartbeats 8000000 in
set_option maxRecDepth 100000 in
theorem kernel_New_1.ct (v0 : Value) (a0 : List (List Int)) (r0 : Bool) (h : kernel_New_1.f a0 = some r0) :
    Ct Tryz.prog 14 [v0] (fun F => Rd2 (ekI .u64) v0 a0 F) [] (fun u H' => u = .bool r0 ∧ H' = []) := by
  unfold kernel_New_1.f at h
  refine Ct.intro (n := 6) Tryz.func14 rfl rfl rfl ?_
  intro R w0 F hF hR
  have hF0 := hF
  obtain ⟨vs0, hF0, hl0, hR0⟩ := hF0
  refine S.seq ?_
  refine S.region ?_
  refine SO.v rfl (opv_assign rfl) ?_
  refine SO.nil ?_
  refine S.seq ?_
  refine S.region ?_
  refine SO.v rfl (opv_move rfl) ?_
  refine SO.v rfl (opv_len2 rfl Tryz.underlying52 hF0 hl0 rfl) ?_
  refine SO.v rfl (opv_gtr rfl rfl) ?_
  refine SO.v rfl (opv_assign rfl) ?_
  refine SO.nil ?_
  cases h
  exact S.ret1 Tryz.func14 rfl rfl (fun w hs hk => hR w _ _ ⟨rfl, rfl⟩ hs hk)
end Go.Proofs
set_option linter.unusedVariables false
namespace Go.Proofs
open Go.Sl Go.RowKit

/-! 30 slices.IndexFunc[[][][]uint64,[][]uint64] -/
def kern_idx.l1 (a0 : List (List (List Int))) : Nat → Int → Option (Brk Int Unit)
  | 0, _ => none
  | k + 1, x8_1 => bif decide (x8_1 < (a0.length : Int)) then ((at_ a0 x8_1).bind fun x2 => (kernel_New_1.f x2).bind fun t7 => bif t7 then (some (Brk.ret x8_1)) else (kern_idx.l1 a0 k (w64 (x8_1 + 1)))) else (some (Brk.nx ()))
def kern_idx.f (k : Nat) (a0 : List (List (List Int))) : Option (Int) :=
  (kern_idx.l1 a0 k 0).bind fun o1 => Brk.go o1 (fun r => some r) (fun _ => some (-1))
set_option maxHeartbeats 8000000 in
set_option maxRecDepth 100000 in
theorem kern_idx.ct (k : Nat) (v0 : Value) (a0 : List (List (List Int))) (r0 : Int) (h : kern_idx.f k a0 = some r0) :
    Ct Tryz.prog 30 [v0, .func (.func 14) #[] #[]] (fun F => Rd3 (ekI .u64) v0 a0 F) [] (fun u H' => u = .int .i64 r0 ∧ H' = []) := by
  unfold kern_idx.f at h
  refine Ct.intro (n := 19) Tryz.func30 rfl rfl rfl ?_
  intro R w0 F hF hR
  obtain ⟨vs0, hF0, hl0, hR0⟩ := hF
  refine S.seq ?_
  refine S.region ?_
  refine SO.v rfl (opv_assign rfl) ?_
  refine SO.nil ?_
  refine S.seq ?_
  refine S.seq ?_
  refine S.region ?_
  refine SO.v rfl (opv_move rfl) ?_
  refine SO.v rfl (opv_len2 rfl Tryz.underlying24 hF0 hl0 rfl) ?_
  refine SO.v rfl (opv_move rfl) ?_
  refine SO.nil ?_
  obtain ⟨o1, hlp1, h⟩ := opt_bind h
  refine S.to (ρ' := [(8, .int .i64 0), (7, .int .i64 (a0.length : Int)), (4, .int .i64 0), (0, v0), (1, .func (.func 14) #[] #[])]) ⟨rfl, rfl, rfl, rfl, rfl, trivial⟩ ?_
  refine S.forloop (X := Int × Unit) (O := Brk Int Unit) (fun m x => kern_idx.l1 a0 m x.1) (fun x => match x with | (x8_1, _) => [(8, .int .i64 x8_1), (7, .int .i64 (a0.length : Int)), (4, .int .i64 0), (0, v0), (1, .func (.func 14) #[] #[])]) (fun x => match x with | (x8_1, _) => [F]) (fun Sk o' => (∀ r', o' = Brk.ret r' → some r' = some r0) ∧ ∀ _ : Unit, ∀ _ : Unit, o' = Brk.nx () → Sk [(4, .int .i64 0)] [F]) (fun _ => rfl) ?_ (m := k) (x := (0, ())) hlp1 ?_
  · clear h hlp1
    intro k x o_1 h hK1 ih1
    obtain ⟨x8_1, _⟩ := x
    replace h : kern_idx.l1 a0 (k + 1) x8_1 = some o_1 := h
    first | rw [kern_idx.l1] at h | unfold kern_idx.l1 at h
    refine S.seq ?_
    refine S.region ?_
    refine SO.v rfl (opv_lss rfl rfl) ?_
    refine SO.nil ?_
    refine S.seq ?_
    rcases bool_or (decide (x8_1 < (a0.length : Int))) with b1 | b1
    · replace h := cond_t b1 h
      refine S.condT rfl b1 ?_
      refine S.skip ?_
      refine S.seq ?_
      refine S.block ?_
      refine S.seq ?_
      refine S.region ?_
      refine SO.v rfl (opv_move rfl) ?_
      refine SO.v rfl (opv_assign rfl) ?_
      refine SO.nil ?_
      refine S.seq ?_
      refine S.region ?_
      refine SO.v rfl (opv_move rfl) ?_
      refine SO.v rfl (opv_move rfl) ?_
      refine SO.v rfl (opv_move rfl) ?_
      obtain ⟨x2, hx3, h⟩ := opt_bind h
      obtain ⟨y4, hy5, hr6⟩ := Rd3.at_ hl0 hR0 hx3
      obtain ⟨vs106, hF106, hl106, hR106⟩ := hr6
      refine SO.v rfl (opv_idx Tryz.underlying24 Tryz.sizeOf52 hF0 rfl rfl hy5) ?_
      refine SO.loadI1 (j := 0) rfl Tryz.isAgg52 (Rd.head hF0) hy5 rfl rfl rfl rfl ?_
      obtain ⟨t7, ht8, h⟩ := opt_bind h
      refine SO.call (pre := []) rfl Tryz.call14 rfl rfl rfl (kernel_New_1.ct y4.1 _ _ ht8) (Rd2.head ⟨_, hF106, hl106, hR106⟩) ?_
      rintro _ _ ⟨rfl, rfl⟩
      refine SO.nil ?_
      refine S.to (ρ' := [(8, .int .i64 x8_1), (7, .int .i64 (a0.length : Int)), (4, .int .i64 0), (0, v0), (1, .func (.func 14) #[] #[]), (5, .int .i64 x8_1), (16, .bool t7)]) ⟨rfl, rfl, rfl, rfl, rfl, rfl, rfl, trivial⟩ ?_
      rcases bool_or t7 with b9 | b9
      · replace h := cond_t b9 h
        refine S.condT rfl b9 ?_
        refine S.seq ?_
        refine S.region ?_
        refine SO.v rfl (opv_move rfl) ?_
        refine SO.v rfl (opv_assign rfl) ?_
        refine SO.nil ?_
        refine S.to (ρ' := [(4, .int .i64 x8_1)]) ⟨rfl, trivial⟩ ?_
        cases h
        replace h := hK1.1 _ rfl
        cases h
        exact S.ret1 Tryz.func30 rfl rfl (fun w hs hk => hR w _ _ ⟨rfl, rfl⟩ hs hk)
      replace h := cond_f b9 h
      refine S.condF rfl b9 ?_
      refine S.skip ?_
      refine S.inBlock ?_
      refine S.region ?_
      refine SO.v rfl (opv_add rfl rfl) ?_
      refine SO.v rfl (opv_move rfl) ?_
      refine SO.nil ?_
      refine S.to ?_ (ih1 (w64 (x8_1 + 1), ()) h)
      exact ⟨rfl, rfl, rfl, rfl, rfl, trivial⟩
    replace h := cond_f b1 h
    refine S.condF rfl b1 ?_
    refine S.exit rfl ?_
    cases h
    refine S.to ?_ (hK1.2 () () rfl)
    exact ⟨rfl, trivial⟩
  refine ⟨fun r' e' => ?_, ?_⟩
  · subst e'
    have h9 := Brk.of_ret h
    exact h9
  rintro _ _ e'
  subst e'
  replace h := Brk.of_nx h
  refine S.seq ?_
  refine S.region ?_
  refine SO.v rfl (opv_assign rfl) ?_
  refine SO.nil ?_
  cases h
  exact S.ret1 Tryz.func30 rfl rfl (fun w hs hk => hR w _ _ ⟨rfl, rfl⟩ hs hk)
end Go.Proofs
set_option linter.unusedVariables false
namespace Go.Proofs
open Go.Sl Go.RowKit

/-! 13 slices.ContainsFunc[[][][]uint64,[][]uint64] -/
def kern_contains.f (k : Nat) (a0 : List (List (List Int))) : Option (Bool) :=
  (kern_idx.f k a0).bind fun t1 => some (decide (0 ≤ t1))
set_option maxHeartbeats 8000000 in
set_option maxRecDepth 100000 in
theorem kern_contains.ct (k : Nat) (v0 : Value) (a0 : List (List (List Int))) (r0 : Bool) (h : kern_contains.f k a0 = some r0) :
    Ct Tryz.prog 13 [v0, .func (.func 14) #[] #[]] (fun F => Rd3 (ekI .u64) v0 a0 F) [] (fun u H' => u = .bool r0 ∧ H' = []) := by
  unfold kern_contains.f at h
  refine Ct.intro (n := 9) Tryz.func13 rfl rfl rfl ?_
  intro R w0 F hF hR
  obtain ⟨vs0, hF0, hl0, hR0⟩ := hF
  refine S.seq ?_
  refine S.region ?_
  refine SO.v rfl (opv_assign rfl) ?_
  refine SO.nil ?_
  refine S.seq ?_
  refine S.region ?_
  refine SO.v rfl (opv_move rfl) ?_
  refine SO.v rfl (opv_move rfl) ?_
  obtain ⟨t1, ht2, h⟩ := opt_bind h
  refine SO.call (pre := []) rfl Tryz.call30 rfl rfl rfl (kern_idx.ct k v0 a0 t1 ht2) (Rd3.head ⟨_, hF0, hl0, hR0⟩) ?_
  rintro _ _ ⟨rfl, rfl⟩
  refine SO.v rfl (opv_geq rfl rfl) ?_
  refine SO.v rfl (opv_assign rfl) ?_
  refine SO.nil ?_
  cases h
  exact S.ret1 Tryz.func13 rfl rfl (fun w hs hk => hR w _ _ ⟨rfl, rfl⟩ hs hk)
end Go.Proofs
set_option linter.unusedVariables false
namespace Go.Proofs
open Go.Sl Go.RowKit

/-! 19 padstone/kernel.Feed -/
set_option maxHeartbeats 8000000 in
set_option maxRecDepth 100000 in
theorem kernel_Feed.ct (vc : Value) (hvc : vc.oneCell' = true) (t : Int)  :
    Ct Tryz.prog 19 [vc, .int .i64 t] (fun _ => True) [] (fun u H' => ∃ b1 b2, u = .func (.func 33) #[] #[bp b1 0, bp b2 0] ∧ H' = [Box b1 [vc], Box b2 [.int .i64 t]]) := by
  refine Ct.intro (n := 6) Tryz.func19 rfl rfl rfl ?_
  intro R w0 F hF hR
  refine S.seq ?_
  refine S.region ?_
  refine SO.box rfl rfl (cells1 hvc) (fun b1 => ?_)
  refine SO.box rfl rfl rfl (fun b2 => ?_)
  refine SO.v rfl (opv_assign rfl) ?_
  refine SO.nil ?_
  refine S.seq ?_
  refine S.region ?_
  refine SO.v rfl (opv_makeFunc rfl rfl) ?_
  refine SO.v rfl (opv_assign rfl) ?_
  refine SO.nil ?_
  refine S.b2 ?_
  refine S.b1 ?_
  refine S.b2 ?_
  exact S.ret1 Tryz.func19 rfl rfl (fun w hs hk => hR w _ _ ⟨b1, b2, rfl, rfl⟩ hs hk)
end Go.Proofs
namespace Go.Proofs
open Go.Sl Go.RowKit
/-! 32 slices.Clone[[]uint64,uint64] -/
def slices_Clone_uint64_uint64.f (a0 : List Int) : Option (List Int) := appW a0
set_option maxRecDepth 100000 in
theorem slices_Clone_uint64_uint64.ct (v0 : Value) (a0 : List Int) (r0 : List Int) (h : slices_Clone_uint64_uint64.f a0 = some r0) :
    Ct Tryz.prog 32 [v0] (fun F => Rd (ekI .u64) v0 a0 F) [] (fun u H' => ∃ v_r0, u = v_r0 ∧ H' = [Own 58 (ekI .u64) v_r0 r0]) := by
  unfold slices_Clone_uint64_uint64.f at h
  refine Ct.intro (n := 8) Tryz.func32 rfl rfl rfl ?_
  intro R w0 F hF0 hR
  obtain ⟨a, cap, ⟨hv, hcap⟩, hel⟩ := hF0
  have hF0 : Rd (ekI .u64) v0 a0 F := ⟨a, cap, ⟨hv, hcap⟩, hel⟩
  have hv2 : ev (num 0 [v0]) (.tmp 0) = some (.slice a a0.length cap) := by rw [← hv]; rfl
  refine S.seq ?_
  refine S.region ?_
  refine SO.v rfl (opv_assign rfl) ?_
  refine SO.nil ?_
  refine S.seq ?_
  refine S.seq ?_
  refine S.region ?_
  refine SO.v rfl (opv_move rfl) ?_
  rw [show v0 = .slice a a0.length cap from hv]
  refine SO.v rfl (opv_eqlSN Tryz.underlying22 rfl) ?_
  rw [← hv]
  refine SO.nil ?_
  cases a with
  | none =>
    have h0 : a0 = [] := by
      cases a0 with
      | nil => rfl
      | cons x l => obtain ⟨b, off, hh, _⟩ := hel 0 x rfl; cases hh
    subst h0
    have hr : r0 = [] := by injection h with h; exact h.symm
    subst hr
    refine S.cond_true rfl ?_
    refine S.seq ?_
    refine S.region ?_
    refine SO.v rfl (opv_assign rfl) ?_
    refine SO.nil ?_
    refine S.newOwn 58 (ekI .u64) ?_
    exact S.ret1 Tryz.func32 rfl rfl (fun w hs hk => hR w _ _ ⟨_, rfl, rfl⟩ hs hk)
  | some ad =>
    refine S.cond_false rfl ?_
    refine S.skip ?_
    refine S.seq ?_
    refine S.region ?_
    refine SO.buildSlice0 (ekI .u64) rfl Tryz.underlying22 Tryz.sizeOf58 (fun v1 hr1 => ?_)
    refine SO.v rfl (opv_move rfl) ?_
    refine SO.appendW rfl Tryz.underlying22 Tryz.underlying22 inf58 rfl rfl rfl rfl rfl rfl (Rd.head hF0) h (fun v2 => ?_)
    refine SO.v rfl (opv_assign rfl) ?_
    refine SO.nil ?_
    exact S.ret1 Tryz.func32 rfl rfl (fun w hs hk => hR w _ _ ⟨_, rfl, rfl⟩ hs hk)
end Go.Proofs
set_option linter.unusedVariables false
namespace Go.Proofs
open Go.Sl Go.RowKit
theorem inf22_kernel_copied : Tryz.prog.info? 22 = some Tryz.t22 := by kernel_rfl
theorem inf52_kernel_copied : Tryz.prog.info? 52 = some Tryz.t52 := by kernel_rfl
/-! 18 padstone/kernel.copied -/
def kernel_copied.l2 (x2 : List (List Int)) : Nat → (Int × (List Nat)) → Option ((List Nat))
  | 0, _ => none
  | k + 1, (x17_2, x6_2) => bif decide (x17_2 < (x2.length : Int)) then ((at_ x2 x17_2).bind fun x8 => (slices_Clone_uint64_uint64.f x8).bind fun t13 => (app x6_2 [t13.length]).bind fun zs23 => kernel_copied.l2 x2 k (w64 (x17_2 + 1), zs23)) else (some x6_2)
def kernel_copied.l1 (a0 : List (List (List Int))) : Nat → (Int × (List Nat)) → Option ((List Nat))
  | 0, _ => none
  | k + 1, (x11_1, x3_1) => bif decide (x11_1 < (a0.length : Int)) then ((at_ a0 x11_1).bind fun x2 => (kernel_copied.l2 x2 k (0, [])).bind fun j6_e2 => (app x3_1 [j6_e2.length]).bind fun zs36 => kernel_copied.l1 a0 k (w64 (x11_1 + 1), zs36)) else (some x3_1)
def kernel_copied.f (k : Nat) (a0 : List (List (List Int))) : Option (List Nat) :=
  (kernel_copied.l1 a0 k (0, [])).bind fun j3_e1 => some j3_e1
set_option maxHeartbeats 8000000 in
set_option maxRecDepth 100000 in
theorem kernel_copied.ct (k : Nat) (v0 : Value) (a0 : List (List (List Int))) (r0 : List Nat) (h : kernel_copied.f k a0 = some r0) :
    Ct Tryz.prog 18 [v0] (fun F => Rd3 (ekI .u64) v0 a0 F) [] (fun u H' => ∃ v, u = v ∧ H' = [LensR 52 v r0]) := by
  unfold kernel_copied.f at h
  refine Ct.intro (n := 33) Tryz.func18 rfl rfl rfl ?_
  intro R w0 F hF hR
  obtain ⟨vs0, hF0, hl0, hR0⟩ := hF
  refine S.seq ?_
  refine S.region ?_
  refine SO.v rfl (opv_assign rfl) ?_
  refine SO.nil ?_
  refine S.seq ?_
  refine S.region ?_
  refine SO.v rfl (opv_assign rfl) ?_
  refine SO.nil ?_
  refine S.seq ?_
  refine S.seq ?_
  refine S.region ?_
  refine SO.v rfl (opv_move rfl) ?_
  refine SO.v rfl (opv_len2 rfl Tryz.underlying24 hF0 hl0 rfl) ?_
  refine SO.v rfl (opv_move rfl) ?_
  refine SO.nil ?_
  obtain ⟨j3_e1, hlp1, h⟩ := opt_bind h
  refine S.nilLens 52 ?_
  refine S.b1 ?_
  refine S.b1 ?_
  refine S.to (ρ' := [(11, .int .i64 0), (10, .int .i64 (a0.length : Int)), (9, v0), (3, .slice none 0 0), (2, .slice none 0 0)]) ⟨rfl, rfl, rfl, rfl, rfl, trivial⟩ ?_
  refine S.forloop (X := (Int × (List Nat)) × Value) (O := (List Nat)) (fun m x => kernel_copied.l1 a0 m x.1) (fun x => match x with | ((x11_1, x3_1), v3_1) => [(11, .int .i64 x11_1), (10, .int .i64 (a0.length : Int)), (9, v0), (3, v3_1), (2, .slice none 0 0)]) (fun x => match x with | ((x11_1, x3_1), v3_1) => [LensR 52 v3_1 x3_1, F]) (fun Sk => (fun j3_e1 => ∀ v3_e1 : Value, Sk [(2, .slice none 0 0), (3, v3_e1)] [LensR 52 v3_e1 j3_e1, F])) (fun _ => rfl) ?_ (m := k) (x := ((0, []), .slice none 0 0)) hlp1 ?_
  · clear h hlp1
    intro k x o_1 h hK1 ih1
    obtain ⟨⟨x11_1, x3_1⟩, v3_1⟩ := x
    replace h : kernel_copied.l1 a0 (k + 1) (x11_1, x3_1) = some o_1 := h
    first | rw [kernel_copied.l1] at h | unfold kernel_copied.l1 at h
    refine S.seq ?_
    refine S.region ?_
    refine SO.v rfl (opv_lss rfl rfl) ?_
    refine SO.nil ?_
    refine S.seq ?_
    rcases bool_or (decide (x11_1 < (a0.length : Int))) with b1 | b1
    · replace h := cond_t b1 h
      refine S.condT rfl b1 ?_
      refine S.skip ?_
      refine S.seq ?_
      refine S.block ?_
      refine S.seq ?_
      refine S.region ?_
      obtain ⟨x2, hx3, h⟩ := opt_bind h
      obtain ⟨y4, hy5, hr6⟩ := Rd3.at_ hl0 hR0 hx3
      obtain ⟨vs106, hF106, hl106, hR106⟩ := hr6
      refine SO.v rfl (opv_idx Tryz.underlying24 Tryz.sizeOf52 hF0 rfl rfl hy5) ?_
      refine SO.loadI1 (j := 0) rfl Tryz.isAgg52 (Rd.tail (Rd.head hF0)) hy5 rfl rfl rfl rfl ?_
      refine SO.v rfl (opv_assign rfl) ?_
      refine SO.nil ?_
      refine S.seq ?_
      refine S.region ?_
      refine SO.v rfl (opv_assign rfl) ?_
      refine SO.nil ?_
      refine S.seq ?_
      refine S.seq ?_
      refine S.region ?_
      refine SO.v rfl (opv_move rfl) ?_
      refine SO.v rfl (opv_len2 rfl Tryz.underlying52 hF106 hl106 rfl) ?_
      refine SO.v rfl (opv_move rfl) ?_
      refine SO.nil ?_
      obtain ⟨j6_e2, hlp2, h⟩ := opt_bind h
      refine S.nilLens 22 ?_
      refine S.b2 ?_
      refine S.b2 ?_
      refine S.b2 ?_
      refine S.to (ρ' := [(17, .int .i64 0), (16, .int .i64 (x2.length : Int)), (15, y4.1), (6, .slice none 0 0), (11, .int .i64 x11_1), (10, .int .i64 (a0.length : Int)), (9, v0), (3, v3_1), (2, .slice none 0 0)]) ⟨rfl, rfl, rfl, rfl, rfl, rfl, rfl, rfl, rfl, trivial⟩ ?_
      refine S.forloop (X := (Int × (List Nat)) × Value) (O := (List Nat)) (fun m x => kernel_copied.l2 x2 m x.1) (fun x => match x with | ((x17_2, x6_2), v6_2) => [(17, .int .i64 x17_2), (16, .int .i64 (x2.length : Int)), (15, y4.1), (6, v6_2), (11, .int .i64 x11_1), (10, .int .i64 (a0.length : Int)), (9, v0), (3, v3_1), (2, .slice none 0 0)]) (fun x => match x with | ((x17_2, x6_2), v6_2) => [LensR 22 v6_2 x6_2, LensR 52 v3_1 x3_1, F]) (fun Sk => (fun j6_e2 => ∀ v6_e2 : Value, Sk [(2, .slice none 0 0), (3, v3_1), (6, v6_e2), (9, v0), (10, .int .i64 (a0.length : Int)), (11, .int .i64 x11_1)] [LensR 22 v6_e2 j6_e2, LensR 52 v3_1 x3_1, F])) (fun _ => rfl) ?_ (m := k) (x := ((0, []), .slice none 0 0)) hlp2 ?_
      · clear h hlp2
        intro k x o_2 h hK2 ih2
        obtain ⟨⟨x17_2, x6_2⟩, v6_2⟩ := x
        replace h : kernel_copied.l2 x2 (k + 1) (x17_2, x6_2) = some o_2 := h
        first | rw [kernel_copied.l2] at h | unfold kernel_copied.l2 at h
        refine S.seq ?_
        refine S.region ?_
        refine SO.v rfl (opv_lss rfl rfl) ?_
        refine SO.nil ?_
        refine S.seq ?_
        rcases bool_or (decide (x17_2 < (x2.length : Int))) with b7 | b7
        · replace h := cond_t b7 h
          refine S.condT rfl b7 ?_
          refine S.skip ?_
          refine S.seq ?_
          refine S.block ?_
          refine S.seq ?_
          refine S.region ?_
          obtain ⟨x8, hx9, h⟩ := opt_bind h
          obtain ⟨y10, hy11, hr12⟩ := Rd2.at_ hl106 hR106 hx9
          refine SO.v rfl (opv_idx Tryz.underlying52 Tryz.sizeOf22 hF106 rfl rfl hy11) ?_
          refine SO.loadI1 (j := 0) rfl Tryz.isAgg22 (Rd.tail (Rd.tail (Rd.head hF106))) hy11 rfl rfl rfl rfl ?_
          refine SO.v rfl (opv_assign rfl) ?_
          refine SO.nil ?_
          refine S.region ?_
          refine SO.v rfl (opv_move rfl) ?_
          refine SO.v rfl (opv_move rfl) ?_
          obtain ⟨t13, ht14, h⟩ := opt_bind h
          refine SO.call (pre := []) rfl Tryz.call32 rfl rfl rfl (slices_Clone_uint64_uint64.ct y10.1 _ _ ht14) (Rd.tail (Rd.tail (Rd.head hr12))) ?_
          rintro v15 _ ⟨_, rfl, rfl⟩
          refine SO.rd fun hr16 => ?_
          have hl19 : lenS (v15) (t13.length) := (lenS.of_rd hr16)
          refine SO.buildSlice (K := ekS) (xs := [⟨v15, hl19.one⟩]) (cs := [v15]) rfl Tryz.underlying52 Tryz.sizeOf22 Tryz.zeroValue22 rfl rfl rfl (fillV hl19.one) rfl rfl rfl (fun v17 hr18 => ?_)
          obtain ⟨zs23, hz24, h⟩ := opt_bind h
          refine SO.b2 ?_
          refine SO.openLens fun xs20 e21 e22 => ?_
          obtain ⟨hap26, hn27, ha28⟩ := lens_app (y := ⟨v15, hl19.one⟩) e21 e22 hl19 hz24
          refine SO.append (K := ekS) rfl Tryz.underlying52 Tryz.underlying52 inf22_kernel_copied rfl rfl rfl (by decide) rfl rfl rfl (Rd.head hr18) hap26 (fun v25 => ?_)
          refine SO.closeLens hn27 ha28 ?_
          refine SO.b1 ?_
          refine SO.drop ?_
          refine SO.v rfl (opv_assign rfl) ?_
          refine SO.nil ?_
          refine S.to (ρ' := [(17, .int .i64 x17_2), (16, .int .i64 (x2.length : Int)), (15, y4.1), (6, v25), (11, .int .i64 x11_1), (10, .int .i64 (a0.length : Int)), (9, v0), (3, v3_1), (2, .slice none 0 0)]) ⟨rfl, rfl, rfl, rfl, rfl, rfl, rfl, rfl, rfl, trivial⟩ ?_
          refine S.inBlock ?_
          refine S.region ?_
          refine SO.v rfl (opv_add rfl rfl) ?_
          refine SO.v rfl (opv_move rfl) ?_
          refine SO.nil ?_
          refine S.b1 ?_
          refine S.drop ?_
          refine S.b2 ?_
          refine S.b2 ?_
          refine S.b2 ?_
          refine S.to ?_ (ih2 ((w64 (x17_2 + 1), zs23), v25) h)
          exact ⟨rfl, rfl, rfl, rfl, rfl, rfl, rfl, rfl, rfl, trivial⟩
        replace h := cond_f b7 h
        refine S.condF rfl b7 ?_
        refine S.exit rfl ?_
        cases h
        refine S.b2 ?_
        refine S.b2 ?_
        refine S.b2 ?_
        refine S.to ?_ (hK2 v6_2)
        exact ⟨rfl, rfl, rfl, rfl, rfl, rfl, trivial⟩
      rintro v6_e2
      refine S.region ?_
      refine SO.v rfl (opv_move rfl) ?_
      refine SO.v rfl (opv_move rfl) ?_
      refine SO.lensFact fun hl29 => ?_
      have hl32 : lenS (v6_e2) (j6_e2.length) := hl29
      refine SO.buildSlice (K := ekS) (xs := [⟨v6_e2, hl32.one⟩]) (cs := [v6_e2]) rfl Tryz.underlying24 Tryz.sizeOf52 Tryz.zeroValue52 rfl rfl rfl (fillV hl32.one) rfl rfl rfl (fun v30 hr31 => ?_)
      obtain ⟨zs36, hz37, h⟩ := opt_bind h
      refine SO.b2 ?_
      refine SO.openLens fun xs33 e34 e35 => ?_
      obtain ⟨hap39, hn40, ha41⟩ := lens_app (y := ⟨v6_e2, hl32.one⟩) e34 e35 hl32 hz37
      refine SO.append (K := ekS) rfl Tryz.underlying24 Tryz.underlying24 inf52_kernel_copied rfl rfl rfl (by decide) rfl rfl rfl (Rd.head hr31) hap39 (fun v38 => ?_)
      refine SO.closeLens hn40 ha41 ?_
      refine SO.b1 ?_
      refine SO.drop ?_
      refine SO.v rfl (opv_assign rfl) ?_
      refine SO.nil ?_
      refine S.inBlock ?_
      refine S.region ?_
      refine SO.v rfl (opv_add rfl rfl) ?_
      refine SO.v rfl (opv_move rfl) ?_
      refine SO.nil ?_
      refine S.b1 ?_
      refine S.drop ?_
      refine S.b1 ?_
      refine S.b1 ?_
      refine S.to ?_ (ih1 ((w64 (x11_1 + 1), zs36), v38) h)
      exact ⟨rfl, rfl, rfl, rfl, rfl, trivial⟩
    replace h := cond_f b1 h
    refine S.condF rfl b1 ?_
    refine S.exit rfl ?_
    cases h
    refine S.b1 ?_
    refine S.b1 ?_
    refine S.to ?_ (hK1 v3_1)
    exact ⟨rfl, rfl, trivial⟩
  rintro v3_e1
  refine S.seq ?_
  refine S.region ?_
  refine SO.v rfl (opv_move rfl) ?_
  refine SO.v rfl (opv_assign rfl) ?_
  refine SO.nil ?_
  cases h
  refine S.b1 ?_
  refine S.b1 ?_
  exact S.ret1 Tryz.func18 rfl rfl (fun w hs hk => hR w _ _ ⟨v3_e1, rfl, rfl⟩ hs hk)
end Go.Proofs
namespace Go.Proofs
open Go.Sl Go.RowKit
/-! 16 padstone/lay.Size -/
def lay_Size.f : Option (Int) :=
  some 738
set_option maxHeartbeats 8000000 in
set_option maxRecDepth 100000 in
theorem lay_Size.ct (r0 : Int) (h : lay_Size.f  = some r0) :
    Ct Tryz.prog 16 [] (fun _ => True) [] (fun u H' => u = .int .i64 r0 ∧ H' = []) := by
  unfold lay_Size.f at h
  refine Ct.intro (n := 1) Tryz.func16 rfl rfl rfl ?_
  intro R w0 F hF hR
  refine S.seq ?_
  refine S.region ?_
  refine SO.v rfl (opv_assign rfl) ?_
  refine SO.nil ?_
  refine S.seq ?_
  refine S.region ?_
  refine SO.v rfl (opv_assign rfl) ?_
  refine SO.nil ?_
  cases h
  exact S.ret1 Tryz.func16 rfl rfl (fun w hs hk => hR w _ _ ⟨rfl, rfl⟩ hs hk)
end Go.Proofs
set_option linter.unusedVariables false
namespace Go.Proofs
open Go.Sl Go.RowKit
theorem inf105_stm_New : Tryz.prog.info? 105 = some Tryz.t105 := by kernel_rfl
/-! 22 padstone/stm.New -/
variable {α : Type}
def stm_New.l1 (isn : α → Bool) (fs : List α) : Nat → (Int × (List α)) → Option (Brk (Option (List α)) (List α))
  | 0, _ => none
  | k + 1, (x22_1, y2_1_1) => bif decide (x22_1 < (fs.length : Int)) then ((at_ fs x22_1).bind fun x4 => bif isn x4 then (some (Brk.ret (none : Option (List α)))) else ((app y2_1_1 ([x4])).bind fun zs10 => stm_New.l1 isn fs k (w64 (x22_1 + 1), zs10))) else (some (Brk.nx y2_1_1))
def stm_New.f (k : Nat) (isn : α → Bool) (fs : List α) : Option ((Option (List α))) :=
  bif decide (8 < (fs.length : Int)) then (some (none : Option (List α))) else ((stm_New.l1 isn fs k (0, [])).bind fun o1 => Brk.go o1 (fun r => some r) (fun y2_1_e1 => some (some y2_1_e1)))
set_option maxHeartbeats 8000000 in
set_option maxRecDepth 100000 in
theorem stm_New.ct (k : Nat) (jv : α → Value) (hjv : ∀ a, (jv a).oneCell' = true) (isn : α → Bool) (hn : ∀ a, cond (isn a) (jv a = .nilFunc) (∃ fn us cs, jv a = .func fn us cs)) (bps : Nat) (vf : Value) (fs : List α) (r0 : Option (List α)) (h : stm_New.f k isn fs = some r0) :
    Ct Tryz.prog 22 [bp bps 0, vf] (fun F => Rd (ekV jv hjv) vf fs F) [] (fun u H' => match r0 with | none => (u = .tuple #[.pointer none, errV 42 (some 1)] ∧ H' = []) | some ls => (∃ b vl, u = .tuple #[bp b 0, errV 42 none] ∧ H' = [Box b [bp bps 0, vl, .slice none 0 0, .slice none 0 0], OwnPt (NW jv) 105 vl ls])) := by
  unfold stm_New.f at h
  refine Ct.intro (n := 43) Tryz.func22 rfl rfl rfl ?_
  intro R w0 F hF hR
  refine S.seq ?_
  refine S.region ?_
  refine SO.v rfl (opv_assign rfl) ?_
  refine SO.v rfl (opv_assign rfl) ?_
  refine SO.nil ?_
  refine S.seq ?_
  refine S.seq ?_
  refine S.region ?_
  refine SO.v rfl (opv_move rfl) ?_
  refine SO.v rfl (opv_eqlP Tryz.underlying54 rfl) ?_
  refine SO.v rfl (opv_move rfl) ?_
  refine SO.takeT rfl rfl rfl rfl ?_
  refine SO.v rfl (opv_move rfl) ?_
  refine SO.takeT rfl rfl rfl rfl ?_
  refine SO.v rfl (opv_lenR rfl Tryz.underlying64 hF rfl) ?_
  refine SO.takeT rfl rfl rfl rfl ?_
  refine SO.v rfl (opv_gtr rfl rfl) ?_
  refine SO.v rfl (opv_pick_ff rfl rfl) ?_
  refine SO.nil ?_
  rcases bool_or (decide (8 < (fs.length : Int))) with b1 | b1
  · replace h := cond_t b1 h
    refine S.condT rfl b1 ?_
    refine S.seq ?_
    refine S.region ?_
    refine SO.v rfl (opv_iface Tryz.underlying42 rfl rfl) ?_
    refine SO.v rfl (opv_assign rfl) ?_
    refine SO.v rfl (opv_assign rfl) ?_
    refine SO.nil ?_
    refine S.to (ρ' := [(4, .pointer none), (5, errV 42 (some 1))]) ⟨rfl, rfl, trivial⟩ ?_
    cases h
    exact S.ret2 Tryz.func22 rfl rfl rfl (fun w hs hk => hR w _ _ ⟨rfl, rfl⟩ hs hk)
  replace h := cond_f b1 h
  refine S.condF rfl b1 ?_
  refine S.skip ?_
  refine S.seq ?_
  refine S.region ?_
  refine SO.v rfl (opv_move rfl) ?_
  refine SO.v rfl (opv_build (v := .agg #[bp bps 0, .slice none 0 0, .slice none 0 0, .slice none 0 0]) rfl (by intro w; kernel_rfl)) ?_
  refine SO.box rfl rfl rfl (fun b2 => ?_)
  refine SO.v rfl (opv_assign rfl) ?_
  refine SO.nil ?_
  refine S.to (ρ' := [(1, vf), (4, .pointer none), (5, errV 42 none), (6, bp b2 0)]) ⟨rfl, rfl, rfl, rfl, trivial⟩ ?_
  refine S.seq ?_
  refine S.seq ?_
  refine S.region ?_
  refine SO.v rfl (opv_move rfl) ?_
  refine SO.v rfl (opv_lenR rfl Tryz.underlying64 hF rfl) ?_
  refine SO.v rfl (opv_move rfl) ?_
  refine SO.nil ?_
  obtain ⟨o1, hlp1, h⟩ := opt_bind h
  refine S.newOwnP 105 (NW jv) ?_
  refine S.b2 ?_
  refine S.b2 ?_
  refine S.b2 ?_
  refine S.to (ρ' := [(22, .int .i64 0), (21, .int .i64 (fs.length : Int)), (20, vf), (4, .pointer none), (5, errV 42 none), (6, bp b2 0)]) ⟨rfl, rfl, rfl, rfl, rfl, rfl, trivial⟩ ?_
  refine S.forloop (X := (Int × (List α)) × Value) (O := Brk (Option (List α)) (List α)) (fun m x => stm_New.l1 isn fs m x.1) (fun x => match x with | ((x22_1, y2_1_1), vy2_1_1) => [(22, .int .i64 x22_1), (21, .int .i64 (fs.length : Int)), (20, vf), (4, .pointer none), (5, errV 42 none), (6, bp b2 0)]) (fun x => match x with | ((x22_1, y2_1_1), vy2_1_1) => [OwnPt (NW jv) 105 vy2_1_1 y2_1_1, Box b2 [bp bps 0, vy2_1_1, .slice none 0 0, .slice none 0 0], F]) (fun Sk o' => (∀ r', o' = Brk.ret r' → some r' = some r0) ∧ ∀ y2_1_e1 : (List α), ∀ vy2_1_e1 : Value, o' = Brk.nx y2_1_e1 → Sk [(4, .pointer none), (5, errV 42 none), (6, bp b2 0)] [OwnPt (NW jv) 105 vy2_1_e1 y2_1_e1, Box b2 [bp bps 0, vy2_1_e1, .slice none 0 0, .slice none 0 0], F]) (fun _ => rfl) ?_ (m := k) (x := ((0, []), .slice none 0 0)) hlp1 ?_
  · clear h hlp1
    intro k x o_1 h hK1 ih1
    obtain ⟨⟨x22_1, y2_1_1⟩, vy2_1_1⟩ := x
    replace h : stm_New.l1 isn fs (k + 1) (x22_1, y2_1_1) = some o_1 := h
    first | rw [stm_New.l1] at h | unfold stm_New.l1 at h
    refine S.seq ?_
    refine S.region ?_
    refine SO.v rfl (opv_lss rfl rfl) ?_
    refine SO.nil ?_
    refine S.seq ?_
    rcases bool_or (decide (x22_1 < (fs.length : Int))) with b3 | b3
    · replace h := cond_t b3 h
      refine S.condT rfl b3 ?_
      refine S.skip ?_
      refine S.seq ?_
      refine S.block ?_
      refine S.seq ?_
      refine S.region ?_
      obtain ⟨x4, hx5, h⟩ := opt_bind h
      refine SO.v rfl (opv_idx Tryz.underlying64 Tryz.sizeOf67 hF rfl rfl hx5) ?_
      refine SO.loadI1 (j := 0) rfl Tryz.isAgg67 (Rd.tail (Rd.tail (Rd.head hF))) hx5 rfl rfl rfl rfl ?_
      refine SO.v rfl (opv_assign rfl) ?_
      refine SO.nil ?_
      refine S.seq ?_
      refine S.seq ?_
      refine S.region ?_
      refine SO.v rfl (opv_move rfl) ?_
      refine SO.v rfl (opv_eqlEV Tryz.underlying67 rfl (hn x4) rfl) ?_
      refine SO.nil ?_
      rcases bool_or (isn x4) with b6 | b6
      · replace h := cond_t b6 h
        refine S.condT rfl b6 ?_
        refine S.seq ?_
        refine S.region ?_
        refine SO.v rfl (opv_iface Tryz.underlying42 rfl rfl) ?_
        refine SO.v rfl (opv_assign rfl) ?_
        refine SO.v rfl (opv_assign rfl) ?_
        refine SO.nil ?_
        refine S.to (ρ' := [(4, .pointer none), (5, errV 42 (some 1))]) ⟨rfl, rfl, trivial⟩ ?_
        cases h
        replace h := hK1.1 _ rfl
        cases h
        refine S.drop ?_
        refine S.drop ?_
        exact S.ret2 Tryz.func22 rfl rfl rfl (fun w hs hk => hR w _ _ ⟨rfl, rfl⟩ hs hk)
      replace h := cond_f b6 h
      refine S.condF rfl b6 ?_
      refine S.skip ?_
      refine S.region ?_
      refine SO.v rfl (opv_move rfl) ?_
      refine SO.v rfl (opv_move rfl) ?_
      refine SO.v rfl (opv_nilCheck rfl) ?_
      refine SO.v rfl (opv_fieldAddr Tryz.underlying104 rfl Tryz.sizeOf101 rfl rfl) ?_
      refine SO.b1 ?_
      refine SO.load1 rfl Tryz.isAgg101 rfl rfl ?_
      refine SO.v rfl (opv_move rfl) ?_
      have hB_ : ∀ (w : World) (u0_ : Value), u0_.oneCell' = true → (Instr.build 109 #[(0, u0_)]).run Tryz.prog w = .ok (.agg #[u0_, .nilFunc, .pointer none, .pointer none, .slice none 0 0]) w := (by intro w u0_ hu0_; cases u0_ <;> first | (simp [Value.oneCell'] at hu0_; done) | kernel_rfl)
      refine SO.v rfl (opv_build (v := .agg #[jv x4, .nilFunc, .pointer none, .pointer none, .slice none 0 0]) rfl (fun w => hB_ w _ (hjv x4))) ?_
      clear hB_
      refine SO.box rfl rfl rfl (fun b7 => ?_)
      refine SO.buildSlice (K := ekP) (xs := [b7]) (cs := [bp b7 0]) rfl Tryz.underlying101 Tryz.sizeOf105 Tryz.zeroValue105 rfl rfl rfl (by kernel_rfl) rfl rfl rfl (fun v8 hr9 => ?_)
      refine SO.packPt1 (R := NW jv) (x := x4) ?_
      obtain ⟨zs10, hz11, h⟩ := opt_bind h
      refine SO.b2 ?_
      refine SO.b1 ?_
      refine SO.b1 ?_
      refine SO.appendPt rfl Tryz.underlying101 inf105_stm_New rfl rfl rfl (by decide) rfl rfl rfl hz11 (fun v12 => ?_)
      refine SO.v rfl (opv_nilCheck rfl) ?_
      refine SO.v rfl (opv_fieldAddr Tryz.underlying104 rfl Tryz.sizeOf101 rfl rfl) ?_
      refine SO.onePt fun h113 => ?_
      refine SO.b1 ?_
      refine SO.store1 Tryz.sizeOf101 rfl rfl h113 rfl ?_
      refine SO.nil ?_
      refine S.to (ρ' := [(22, .int .i64 x22_1), (21, .int .i64 (fs.length : Int)), (20, vf), (4, .pointer none), (5, errV 42 none), (6, bp b2 0)]) ⟨rfl, rfl, rfl, rfl, rfl, rfl, trivial⟩ ?_
      refine S.inBlock ?_
      refine S.region ?_
      refine SO.v rfl (opv_add rfl rfl) ?_
      refine SO.v rfl (opv_move rfl) ?_
      refine SO.nil ?_
      refine S.b2 ?_
      refine S.b1 ?_
      refine S.b2 ?_
      refine S.to ?_ (ih1 ((w64 (x22_1 + 1), zs10), v12) h)
      exact ⟨rfl, rfl, rfl, rfl, rfl, rfl, trivial⟩
    replace h := cond_f b3 h
    refine S.condF rfl b3 ?_
    refine S.exit rfl ?_
    cases h
    refine S.b2 ?_
    refine S.b2 ?_
    refine S.b2 ?_
    refine S.to ?_ (hK1.2 y2_1_1 vy2_1_1 rfl)
    exact ⟨rfl, rfl, rfl, trivial⟩
  refine ⟨fun r' e' => ?_, ?_⟩
  · subst e'
    have h9 := Brk.of_ret h
    exact h9
  rintro y2_1_e1 vy2_1_e1 e'
  subst e'
  replace h := Brk.of_nx h
  refine S.seq ?_
  refine S.region ?_
  refine SO.v rfl (opv_move rfl) ?_
  refine SO.v rfl (opv_assign rfl) ?_
  refine SO.v rfl (opv_assign rfl) ?_
  refine SO.nil ?_
  cases h
  refine S.b2 ?_
  refine S.b1 ?_
  refine S.b2 ?_
  exact S.ret2 Tryz.func22 rfl rfl rfl (fun w hs hk => hR w _ _ ⟨b2, vy2_1_e1, rfl, rfl⟩ hs hk)
end Go.Proofs
namespace Go.Proofs
open Go.Sl Go.RowKit
/-! 31 (*padstone/word.Store).has -/
def word_Store_has.f (a0 : word_Store) (a1 : Int) : Option (Bool) :=
  (bif decide (0 ≤ a1) then (some (decide (a1 < (a0.l.length : Int)))) else (some false)).bind fun c3 => some c3
set_option maxHeartbeats 8000000 in
set_option maxRecDepth 100000 in
theorem word_Store_has.ct (bp0 : Nat) (v0_l : Value) (a0 : word_Store) (a1 : Int) (r0 : Bool) (h : word_Store_has.f a0 a1 = some r0) :
    Ct Tryz.prog 31 [bp bp0 0, .int .i64 a1] (fun _ => True) [Box bp0 [v0_l, .int .u32 a0.limit], Own 92 ek_api_Cell v0_l a0.l] (fun u H' => u = .bool r0 ∧ H' = [Box bp0 [v0_l, .int .u32 a0.limit], Own 92 ek_api_Cell v0_l a0.l]) := by
  unfold word_Store_has.f at h
  refine Ct.intro (n := 16) Tryz.func31 rfl rfl rfl ?_
  intro R w0 F hF hR
  refine S.b1 ?_
  refine S.rd fun hr1 => ?_
  refine S.seq ?_
  refine S.region ?_
  refine SO.v rfl (opv_assign rfl) ?_
  refine SO.nil ?_
  refine S.seq ?_
  refine S.region ?_
  refine SO.v rfl (opv_move rfl) ?_
  refine SO.v rfl (opv_geq rfl rfl) ?_
  refine SO.v rfl (opv_move rfl) ?_
  obtain ⟨c3, hc4, hgk⟩ := opt_bind h
  refine SO.cut 8 15 (.bool c3) [Own 92 ek_api_Cell v0_l a0.l, Box bp0 [v0_l, .int .u32 a0.limit], F] (fun l2 hk2 => ?_) ?_
  · clear hgk
    replace h := hc4
    rcases bool_or (decide (0 ≤ a1)) with b2 | b2
    · replace h := cond_t b2 h
      refine SO.takeT rfl rfl rfl b2 ?_
      refine SO.v rfl (opv_move rfl) ?_
      refine SO.takeT rfl rfl rfl b2 ?_
      refine SO.v rfl (opv_move rfl) ?_
      refine SO.takeT rfl rfl rfl b2 ?_
      refine SO.v rfl (opv_nilCheck rfl) ?_
      refine SO.takeT rfl rfl rfl b2 ?_
      refine SO.v rfl (opv_fieldAddr Tryz.underlying90 rfl Tryz.sizeOf88 rfl rfl) ?_
      refine SO.takeT rfl rfl rfl b2 ?_
      refine SO.b1 ?_
      refine SO.load1 rfl Tryz.isAgg88 rfl rfl ?_
      refine SO.takeT rfl rfl rfl b2 ?_
      refine SO.v rfl (opv_lenR rfl Tryz.underlying88 hr1 rfl) ?_
      refine SO.takeT rfl rfl rfl b2 ?_
      refine SO.v rfl (opv_lss rfl rfl) ?_
      cases h
      refine SO.v rfl (opv_pick_t' b2 rfl rfl) ?_
      refine SO.b2 ?_
      refine SO.b1 ?_
      refine SO.b2 ?_
      exact hk2.fitc (m := 8) rfl (rfl) rfl
    replace h := cond_f b2 h
    refine SO.passF rfl rfl rfl b2 rfl rfl ?_
    refine SO.passF rfl rfl rfl b2 rfl rfl ?_
    refine SO.passF rfl rfl rfl b2 rfl rfl ?_
    refine SO.passF rfl rfl rfl b2 rfl rfl ?_
    refine SO.passF rfl rfl rfl b2 rfl rfl ?_
    refine SO.passF rfl rfl rfl b2 rfl rfl ?_
    refine SO.passF rfl rfl rfl b2 rfl rfl ?_
    cases h
    refine SO.v rfl (opv_pick_f' b2 rfl rfl) ?_
    refine SO.b2 ?_
    refine SO.b2 ?_
    refine SO.b2 ?_
    exact hk2.fitc (m := 8) rfl (rfl) rfl
  clear hc4
  replace h := hgk
  refine SO.v rfl (opv_assign rfl) ?_
  refine SO.nil ?_
  cases h
  refine S.b2 ?_
  refine S.b1 ?_
  refine S.b2 ?_
  exact S.ret1 Tryz.func31 rfl rfl (fun w hs hk => hR w _ _ ⟨rfl, rfl⟩ hs hk)
end Go.Proofs
namespace Go.Proofs
open Go.Sl Go.RowKit
/-! 17 (*padstone/word.Store).Set -/
def word_Store_Set.f (a0 : word_Store) (a1 : Int) (a2 : Int) : Option (((Option Int) × word_Store)) :=
  (word_Store_has.f a0 a1).bind fun t2 => bif !t2 then (some ((some 2), a0)) else ((at_ a0.l a1).bind fun x5 => bif x5.Mark != 0 then (some ((some 12), a0)) else ((at_ a0.l a1).bind fun x8 => some (none, (⟨a0.l.set a1.toNat ({ x8 with Value := a2 } : api_Cell), a0.limit⟩ : word_Store))))
set_option maxHeartbeats 8000000 in
set_option maxRecDepth 100000 in
theorem word_Store_Set.ct (bp0 : Nat) (v0_l : Value) (a0 : word_Store) (a1 : Int) (a2 : Int) (r0 : Option Int) (rp0 : word_Store) (h : word_Store_Set.f a0 a1 a2 = some (r0, rp0)) :
    Ct Tryz.prog 17 [bp bp0 0, .int .i64 a1, .int .u64 a2] (fun _ => True) [Box bp0 [v0_l, .int .u32 a0.limit], Own 92 ek_api_Cell v0_l a0.l] (fun u H' => ∃ rw0_l, u = errV 42 r0 ∧ H' = [Box bp0 [rw0_l, .int .u32 rp0.limit], Own 92 ek_api_Cell rw0_l rp0.l]) := by
  unfold word_Store_Set.f at h
  refine Ct.intro (n := 32) Tryz.func17 rfl rfl rfl ?_
  intro R w0 F hF hR
  refine S.b1 ?_
  refine S.rd fun hr1 => ?_
  refine S.seq ?_
  refine S.region ?_
  refine SO.v rfl (opv_assign rfl) ?_
  refine SO.nil ?_
  refine S.seq ?_
  refine S.block ?_
  refine S.seq ?_
  refine S.region ?_
  refine SO.v rfl (opv_move rfl) ?_
  refine SO.v rfl (opv_move rfl) ?_
  obtain ⟨t2, ht3, h⟩ := opt_bind h
  refine SO.b1 ?_
  refine SO.call (pre := [Box _ _, Own _ _ _ _]) rfl Tryz.call31 rfl rfl rfl (word_Store_has.ct bp0 v0_l _ _ _ ht3) trivial ?_
  rintro _ _ ⟨rfl, rfl⟩
  refine SO.v rfl (opv_not rfl) ?_
  refine SO.v rfl (opv_assign rfl) ?_
  refine SO.nil ?_
  rcases bool_or (!t2) with b4 | b4
  · replace h := cond_t b4 h
    refine S.condT rfl b4 ?_
    refine S.seq ?_
    refine S.region ?_
    refine SO.v rfl (opv_iface Tryz.underlying42 rfl rfl) ?_
    refine SO.v rfl (opv_assign rfl) ?_
    refine SO.nil ?_
    refine S.to (ρ' := [(6, errV 42 (some 2))]) ⟨rfl, trivial⟩ ?_
    cases h
    refine S.b2 ?_
    refine S.b2 ?_
    refine S.b2 ?_
    exact S.ret1 Tryz.func17 rfl rfl (fun w hs hk => hR w _ _ ⟨v0_l, rfl, rfl⟩ hs hk)
  replace h := cond_f b4 h
  refine S.condF rfl b4 ?_
  refine S.seq ?_
  refine S.region ?_
  refine SO.v rfl (opv_move rfl) ?_
  refine SO.v rfl (opv_nilCheck rfl) ?_
  refine SO.v rfl (opv_fieldAddr Tryz.underlying90 rfl Tryz.sizeOf88 rfl rfl) ?_
  refine SO.load1 rfl Tryz.isAgg88 rfl rfl ?_
  refine SO.v rfl (opv_move rfl) ?_
  obtain ⟨x5, hx6, h⟩ := opt_bind h
  refine SO.v rfl (opv_idx Tryz.underlying88 Tryz.sizeOf92 hr1 rfl rfl hx6) ?_
  refine SO.v rfl (opv_fieldIdx Tryz.underlying92 rfl Tryz.sizeOf3 hr1 hx6 rfl rfl) ?_
  refine SO.loadI1 (j := 2) rfl Tryz.isAgg3 (Rd.tail (Rd.head hr1)) hx6 rfl rfl rfl rfl ?_
  refine SO.v rfl (opv_neq rfl rfl) ?_
  refine SO.v rfl (opv_assign rfl) ?_
  refine SO.nil ?_
  refine S.to (ρ' := [(0, bp bp0 0), (1, .int .i64 a1), (2, .int .u64 a2), (6, errV 42 none), (13, .bool (x5.Mark != 0))]) ⟨rfl, rfl, rfl, rfl, rfl, trivial⟩ ?_
  rcases bool_or (x5.Mark != 0) with b7 | b7
  · replace h := cond_t b7 h
    refine S.condT rfl b7 ?_
    refine S.seq ?_
    refine S.region ?_
    refine SO.v rfl (opv_iface Tryz.underlying42 rfl rfl) ?_
    refine SO.v rfl (opv_assign rfl) ?_
    refine SO.nil ?_
    cases h
    refine S.b2 ?_
    refine S.b2 ?_
    refine S.b2 ?_
    exact S.ret1 Tryz.func17 rfl rfl (fun w hs hk => hR w _ _ ⟨v0_l, rfl, rfl⟩ hs hk)
  replace h := cond_f b7 h
  refine S.condF rfl b7 ?_
  refine S.skip ?_
  refine S.inBlock ?_
  refine S.seq ?_
  refine S.region ?_
  refine SO.v rfl (opv_move rfl) ?_
  refine SO.v rfl (opv_nilCheck rfl) ?_
  refine SO.v rfl (opv_fieldAddr Tryz.underlying90 rfl Tryz.sizeOf88 rfl rfl) ?_
  refine SO.load1 rfl Tryz.isAgg88 rfl rfl ?_
  refine SO.v rfl (opv_move rfl) ?_
  refine SO.v rfl (opv_move rfl) ?_
  obtain ⟨x8, hx9, h⟩ := opt_bind h
  refine SO.v rfl (opv_idx Tryz.underlying88 Tryz.sizeOf92 hr1 rfl rfl hx9) ?_
  refine SO.v rfl (opv_fieldIdx Tryz.underlying92 rfl Tryz.sizeOf58 hr1 hx9 rfl rfl) ?_
  refine SO.b1 ?_
  refine SO.storeI1 (j := 0) (z' := ({ x8 with Value := a2 } : api_Cell)) Tryz.sizeOf58 hx9 rfl rfl rfl rfl rfl rfl ?_
  refine SO.rd fun hr10 => ?_
  refine SO.nil ?_
  refine S.to (ρ' := [(6, errV 42 none)]) ⟨rfl, trivial⟩ ?_
  refine S.seq ?_
  refine S.region ?_
  refine SO.v rfl (opv_assign rfl) ?_
  refine SO.nil ?_
  cases h
  refine S.b2 ?_
  refine S.b1 ?_
  refine S.b2 ?_
  exact S.ret1 Tryz.func17 rfl rfl (fun w hs hk => hR w _ _ ⟨v0_l, rfl, rfl⟩ hs hk)
end Go.Proofs
namespace Go.Proofs
open Go.Sl Go.RowKit
/-! 15 padstone/word.New -/
def word_New.f (a0 : Int) (a1 : Int) : Option (((Option word_Store) × (Option Int))) :=
  bif ((decide (a0 < 1)) || (decide (1024 < a0))) || (decide (a1 < 1)) then (some (none, (some 1))) else ((mk_ (⟨0, 0, 0⟩ : api_Cell) a0).bind fun xs6 => some ((some (⟨xs6, a1⟩ : word_Store)), none))
set_option maxHeartbeats 8000000 in
set_option maxRecDepth 100000 in
theorem word_New.ct (a0 : Int) (a1 : Int) (r0 : Option word_Store) (r1 : Option Int) (h : word_New.f a0 a1 = some (r0, r1)) :
    Ct Tryz.prog 15 [.int .i64 a0, .int .u32 a1] (fun _ => True) [] (fun u H' => match r0 with | none => (u = .tuple #[.pointer none, errV 42 r1] ∧ H' = []) | some r0p => (∃ b_r0p w_r0p_l, u = .tuple #[bp b_r0p 0, errV 42 r1] ∧ H' = [Box b_r0p [w_r0p_l, .int .u32 r0p.limit], Own 92 ek_api_Cell w_r0p_l r0p.l])) := by
  unfold word_New.f at h
  refine Ct.intro (n := 22) Tryz.func15 rfl rfl rfl ?_
  intro R w0 F hF hR
  refine S.seq ?_
  refine S.region ?_
  refine SO.v rfl (opv_assign rfl) ?_
  refine SO.v rfl (opv_assign rfl) ?_
  refine SO.nil ?_
  refine S.seq ?_
  refine S.seq ?_
  refine S.region ?_
  refine SO.v rfl (opv_move rfl) ?_
  refine SO.v rfl (opv_lss rfl rfl) ?_
  refine SO.v rfl (opv_move rfl) ?_
  refine SO.cut 3 11 (.bool ((decide (a0 < 1)) || (decide (1024 < a0)))) [F] (fun l2 hk2 => ?_) ?_
  · rcases bool_or (decide (a0 < 1)) with b1 | b1
    · refine SO.passF rfl rfl rfl b1 rfl rfl ?_
      refine SO.passF rfl rfl rfl b1 rfl rfl ?_
      refine SO.v rfl (opv_pick_t' b1 rfl rfl) ?_
      exact hk2.fitc (m := 3) rfl (or_t b1) rfl
    refine SO.takeT rfl rfl rfl b1 ?_
    refine SO.v rfl (opv_move rfl) ?_
    refine SO.takeT rfl rfl rfl b1 ?_
    refine SO.v rfl (opv_gtr rfl rfl) ?_
    refine SO.v rfl (opv_pick_f' b1 rfl rfl) ?_
    exact hk2.fitc (m := 3) rfl (or_f b1) rfl
  refine SO.v rfl (opv_move rfl) ?_
  refine SO.cut 3 15 (.bool (((decide (a0 < 1)) || (decide (1024 < a0))) || (decide (a1 < 1)))) [F] (fun l2 hk2 => ?_) ?_
  · rcases bool_or ((decide (a0 < 1)) || (decide (1024 < a0))) with b2 | b2
    · refine SO.passF rfl rfl rfl b2 rfl rfl ?_
      refine SO.passF rfl rfl rfl b2 rfl rfl ?_
      refine SO.v rfl (opv_pick_t' b2 rfl rfl) ?_
      exact hk2.fitc (m := 3) rfl (or_t b2) rfl
    refine SO.takeT rfl rfl rfl b2 ?_
    refine SO.v rfl (opv_move rfl) ?_
    refine SO.takeT rfl rfl rfl b2 ?_
    refine SO.v rfl (opv_lss rfl rfl) ?_
    refine SO.v rfl (opv_pick_f' b2 rfl rfl) ?_
    exact hk2.fitc (m := 3) rfl (or_f b2) rfl
  refine SO.nil ?_
  rcases bool_or (((decide (a0 < 1)) || (decide (1024 < a0))) || (decide (a1 < 1))) with b3 | b3
  · replace h := cond_t b3 h
    refine S.condT rfl b3 ?_
    refine S.seq ?_
    refine S.region ?_
    refine SO.v rfl (opv_iface Tryz.underlying42 rfl rfl) ?_
    refine SO.v rfl (opv_assign rfl) ?_
    refine SO.v rfl (opv_assign rfl) ?_
    refine SO.nil ?_
    refine S.to (ρ' := [(4, .pointer none), (5, errV 42 (some 1))]) ⟨rfl, rfl, trivial⟩ ?_
    cases h
    exact S.ret2 Tryz.func15 rfl rfl rfl (fun w hs hk => hR w _ _ ⟨rfl, rfl⟩ hs hk)
  replace h := cond_f b3 h
  refine S.condF rfl b3 ?_
  refine S.skip ?_
  refine S.seq ?_
  refine S.region ?_
  refine SO.v rfl (opv_move rfl) ?_
  obtain ⟨xs6, hx7, h⟩ := opt_bind h
  refine SO.makeSlice (K := ek_api_Cell) rfl Tryz.underlying88 inf92 rfl rfl rfl (by decide) rfl rfl rfl hx7 (fun v4 hr5 => ?_)
  refine SO.v rfl (opv_move rfl) ?_
  have hB_ : ∀ (w : World) (u0_ : Value), u0_.oneCell' = true → (Instr.build 90 #[(0, u0_), (1, .int .u32 a1)]).run Tryz.prog w = .ok (.agg #[u0_, .int .u32 a1]) w := (by intro w u0_ hu0_; cases u0_ <;> first | (simp [Value.oneCell'] at hu0_; done) | kernel_rfl)
  refine SO.v rfl (opv_build (v := .agg #[v4, .int .u32 a1]) rfl (fun w => hB_ w v4 (Rd.one hr5))) ?_
  clear hB_
  refine SO.box rfl rfl rfl (fun b8 => ?_)
  refine SO.v rfl (opv_assign rfl) ?_
  refine SO.v rfl (opv_assign rfl) ?_
  refine SO.nil ?_
  refine S.to (ρ' := [(4, bp b8 0), (5, errV 42 none)]) ⟨rfl, rfl, trivial⟩ ?_
  cases h
  refine S.b2 ?_
  refine S.b2 ?_
  refine S.b2 ?_
  exact S.ret2 Tryz.func15 rfl rfl rfl (fun w hs hk => hR w _ _ ⟨b8, v4, rfl, rfl⟩ hs hk)
end Go.Proofs
set_option linter.unusedVariables false
namespace Go.Proofs
open Go.Sl Go.RowKit
/-! Feeds of a kernel: rows of functions with what they have caught. -/
structure FnV where
  fn : FuncId
  cs : List Value
def jvF (x : FnV) : Value := .func (.func x.fn) #[] x.cs.toArray
theorem jvF_one (a : FnV) : (jvF a).oneCell' = true := rfl
theorem jvF_not (a : FnV) : cond false (jvF a = .nilFunc) (∃ fn us cs, jvF a = .func fn us cs) := ⟨_, _, _, rfl⟩
/-- A thread's feed: its calls (of which the number alone is told), and the thread. -/
structure FK where
  b1 : Nat
  b2 : Nat
  v : Value
  t : Int
def FK.val (x : FK) : FnV := FnV.mk 33 [bp x.b1 0, bp x.b2 0]
def FK.boxes (x : FK) : HProp := stars [Box x.b1 [x.v], Box x.b2 [.int .i64 x.t]]
def FKs (G : List FK) (ns : List Nat) : Prop := G.length = ns.length ∧ ∀ (i : Nat) (x : FK) (n : Nat), G[i]? = some x → ns[i]? = some n → lenS x.v n
def FeedsK (v : Value) (ns : List Nat) : HProp := fun m => ∃ G : List FK, FKs G ns ∧ stars [Own 67 (ekV jvF jvF_one) v (G.map FK.val), stars (G.map FK.boxes)] m
theorem FeedsK.nil (m : PH) : FeedsK (.slice none 0 0) [] m := ⟨[], ⟨rfl, fun i x n h => by simp at h⟩, fun _ => none, m, fun _ => .inl rfl, fun _ _ e => by simp at e, .refl _, Own.nil _ _ _, fun _ => none, m, fun _ => .inl rfl, fun _ _ e => by simp at e, .refl _, trivial, trivial⟩
theorem FKs.snoc {G : List FK} {ns zs : List Nat} {x : FK} {q : Nat} (h : FKs G ns) (hx : lenS x.v q) (hz : app ns [q] = some zs) : FKs (G ++ [x]) zs ∧ app (G.map FK.val) [x.val] = some (G.map FK.val ++ [x.val]) := by
  obtain ⟨h1, rfl⟩ := app_spec hz
  obtain ⟨e1, e2⟩ := h
  refine ⟨⟨by simp [e1], fun i y n hy hn => ?_⟩, ?_⟩
  · by_cases c : i < G.length
    · rw [List.getElem?_append_left c] at hy
      rw [List.getElem?_append_left (by omega)] at hn
      exact e2 i y n hy hn
    · have hi : i = G.length := by
        have := (List.getElem?_eq_some_iff.1 hy).1
        simp at this; omega
      subst hi
      simp at hy
      rw [e1] at hn
      simp at hn
      subst hy; subst hn; exact hx
  · unfold app; rw [decide_eq_true (by simp at h1 ⊢; omega)]; rfl
section
variable {P : Program} {f : FuncId} {n : Nat} {R : Ending → World → Prop} {Z : Act → World → Prop} {w0 : Beg} {ρ : Env} {rest : List HProp} {ops : Array Oper} {l : List Oper} {k : List Item} {v : Value} {ns : List Nat}
theorem SO.addK {A : HProp} (hA : ∀ m, A m) (h : SO P n Z w0 ops l ρ (A :: rest)) : SO P n Z w0 ops l ρ rest := h.sat fun w hs => show stars (_ :: rest) (hp w) from ⟨fun _ => none, hp w, fun _ => .inl rfl, fun _ _ e => by simp at e, .refl _, hA _, hs⟩
theorem S.addK {A : HProp} (hA : ∀ m, A m) (h : S P f n R w0 k ρ (A :: rest)) : S P f n R w0 k ρ rest := h.sat fun w hs => show stars (_ :: rest) (hp w) from ⟨fun _ => none, hp w, fun _ => .inl rfl, fun _ _ e => by simp at e, .refl _, hA _, hs⟩
theorem SO.openFK (h : ∀ G : List FK, FKs G ns → SO P n Z w0 ops l ρ (Own 67 (ekV jvF jvF_one) v (G.map FK.val) :: stars (G.map FK.boxes) :: rest)) : SO P n Z w0 ops l ρ (FeedsK v ns :: rest) := by
  intro a w h1 h2 h3 h4 h5
  obtain ⟨m1, m2, d, s1, s2, ⟨G, e, hx⟩, hr⟩ := h4
  exact h G e a w h1 h2 h3 ((stars_append [_, _] rest (hp w)).2 ⟨m1, m2, d, s1, s2, hx, hr⟩) h5
theorem SO.closeFK {G : List FK} {x : FK} (hG : FKs (G ++ [x]) ns) (h : SO P n Z w0 ops l ρ (FeedsK v ns :: rest)) : SO P n Z w0 ops l ρ (Own 67 (ekV jvF jvF_one) v (G.map FK.val ++ [x.val]) :: stars (G.map FK.boxes) :: Box x.b1 [x.v] :: Box x.b2 [.int .i64 x.t] :: rest) := h.sat fun w s => by
  have s1 : Sat w ([Own 67 (ekV jvF jvF_one) v (G.map FK.val ++ [x.val]), stars (G.map FK.boxes), Box x.b1 [x.v], Box x.b2 [.int .i64 x.t]] ++ rest) := s
  obtain ⟨m1, m2, d, t1, t2, a, r⟩ := (stars_append _ rest (hp w)).1 s1
  refine ⟨m1, m2, d, t1, t2, ⟨G ++ [x], hG, ?_⟩, r⟩
  obtain ⟨n1, n2, e, q1, q2, y, z⟩ := a
  refine ⟨n1, n2, e, q1, q2, by simpa using y, n2, fun _ => none, fun _ => .inr rfl, fun _ _ e => e, fun _ _ e => by simp at e, ?_, trivial⟩
  have z2 : stars ([stars (G.map FK.boxes)] ++ [Box x.b1 [x.v], Box x.b2 [.int .i64 x.t]]) n2 := z
  obtain ⟨p1, p2, e2, u1, u2, y2, z3⟩ := (stars_append _ _ n2).1 z2
  have y3 : stars (G.map FK.boxes) p1 := by
    obtain ⟨p3, _, _, v1, _, w1, _⟩ := y2
    exact stars_mono _ v1 w1
  rw [List.map_append]
  exact (stars_append _ _ n2).2 ⟨p1, p2, e2, u1, u2, y3, stars_singleton z3⟩
end
theorem newAny_l1 {α : Type} (fs : List α) (h8 : fs.length ≤ 8) : ∀ (m K i : Nat), i + m = fs.length → m < K → stm_New.l1 (fun _ => false) fs K ((i : Int), fs.take i) = some (Brk.nx fs) := by
  intro m
  induction m with
  | zero =>
    intro K i e hK
    obtain ⟨K, rfl⟩ : ∃ q, K = q + 1 := ⟨K - 1, by omega⟩
    rw [stm_New.l1, decide_eq_false (by omega), cond_false, List.take_of_length_le (by omega)]
  | succ m ih =>
    intro K i e hK
    obtain ⟨K, rfl⟩ : ∃ q, K = q + 1 := ⟨K - 1, by omega⟩
    have hi : i < fs.length := by omega
    have hat : at_ fs (i : Int) = some fs[i] := at_of (i := (i : Int)) (by omega) (List.getElem?_eq_getElem hi)
    have hap : app (fs.take i) [fs[i]] = some (fs.take i ++ [fs[i]]) := by unfold app; rw [decide_eq_true (by simp; omega)]; rfl
    rw [stm_New.l1, decide_eq_true (by omega), cond_true, hat, Option.bind_some, cond_false, hap, Option.bind_some, show w64 ((i : Int) + 1) = ((i + 1 : Nat) : Int) by rw [w64_id (by omega) (by omega)]; omega]
    rw [show fs.take i ++ [fs[i]] = fs.take (i + 1) from by simp]
    exact ih K (i + 1) (by omega) (by omega)
theorem newAny {α : Type} (fs : List α) (h8 : fs.length ≤ 8) (k : Nat) (hk : 100 < k) : stm_New.f k (fun _ => false) fs = some (some fs) := by
  have h0 := newAny_l1 fs h8 fs.length k 0 (by omega) (by omega)
  rw [List.take_zero] at h0
  have h0 : stm_New.l1 (fun _ => false) fs k (0, []) = some (Brk.nx fs) := h0
  unfold stm_New.f
  rw [decide_eq_false (by omega), cond_false, h0]; rfl
def wNew (n lim : Int) : Option word_Store := (word_New.f n lim).bind fun r => match r with | (some s, none) => some s | _ => none
def wNewE (n lim : Int) : Option Int := (word_New.f n lim).bind fun r => match r with | (none, some c) => some c | _ => none
theorem wNew.ct (n lim : Int) (s : word_Store) (h : wNew n lim = some s) : Ct Tryz.prog 15 [.int .i64 n, .int .u32 lim] (fun _ => True) [] (fun u H' => ∃ b v, u = .tuple #[bp b 0, errV 42 none] ∧ H' = [Box b [v, .int .u32 s.limit], Own 92 ek_api_Cell v s.l]) := by
  unfold wNew at h
  obtain ⟨r, hr, h⟩ := opt_bind h
  rcases r with ⟨_ | s', _ | c⟩ <;> try (cases h; done)
  cases h
  exact word_New.ct n lim (some s) none hr
theorem wNewE.ct (n lim : Int) (c : Int) (h : wNewE n lim = some c) : Ct Tryz.prog 15 [.int .i64 n, .int .u32 lim] (fun _ => True) [] (fun u H' => u = .tuple #[.pointer none, errV 42 (some c)] ∧ H' = []) := by
  unfold wNewE at h
  obtain ⟨r, hr, h⟩ := opt_bind h
  rcases r with ⟨_ | s', _ | c'⟩ <;> try (cases h; done)
  cases h
  exact word_New.ct n lim none (some c) hr
/-- A kernel, as New leaves it: how many calls each thread has; the store; what was raised. -/
def KR (bk : Nat) (ns : List Nat) (s : word_Store) (rs : List Int) : HProp := fun m => ∃ (bm bps br b9 : Nat) (th : Int) (vl vs vr : Value) (G : List FK), FKs G ns ∧
  stars [Box bk [bp bps 0, bp bm 0, .int .i64 th, bp br 0], Box br [vr], Own 3 (ekI .i64) vr rs, Box bm [bp bps 0, vl, .slice none 0 0, .slice none 0 0], OwnPt (NW jvF) 105 vl (G.map FK.val ++ [FnV.mk 20 [bp b9 0]]), Box bps [vs, .int .u32 s.limit], Own 92 ek_api_Cell vs s.l, stars (G.map FK.boxes)] m
theorem S.packKR {P : Program} {f : FuncId} {n : Nat} {R : Ending → World → Prop} {w0 : Beg} {ρ : Env} {rest : List HProp} {k : List Item} {bk bm bps br b9 : Nat} {th : Int} {vl vs vr : Value} {G : List FK} {ns : List Nat} {s : word_Store} {rs : List Int} (hG : FKs G ns) (h : S P f n R w0 k ρ (KR bk ns s rs :: rest)) :
    S P f n R w0 k ρ (Box bk [bp bps 0, bp bm 0, .int .i64 th, bp br 0] :: Box br [vr] :: Own 3 (ekI .i64) vr rs :: Box bm [bp bps 0, vl, .slice none 0 0, .slice none 0 0] :: OwnPt (NW jvF) 105 vl (G.map FK.val ++ [FnV.mk 20 [bp b9 0]]) :: Box bps [vs, .int .u32 s.limit] :: Own 92 ek_api_Cell vs s.l :: stars (G.map FK.boxes) :: rest) := h.sat fun w hs => by
  obtain ⟨m1, m2, d, s1, s2, a, r⟩ := (stars_append [_, _, _, _, _, _, _, _] rest (hp w)).1 hs
  exact ⟨m1, m2, d, s1, s2, ⟨bm, bps, br, b9, th, vl, vs, vr, G, hG, a⟩, r⟩

end Go.Proofs
set_option linter.unusedVariables false
namespace Go.Proofs
open Go.Sl Go.RowKit
theorem inf67_kernel_New : Tryz.prog.info? 67 = some Tryz.t67 := by kernel_rfl
/-! 6 padstone/kernel.New -/
def kernel_New.l1 (ws : List Int) : Nat → (Int × (List api_Cell) × Int) → Option (Brk (Option Int × word_Store × List Nat) ((List api_Cell) × Int))
  | 0, _ => none
  | k + 1, (x43_1, y17_0_1, y17_1_1) => bif decide (x43_1 < (ws.length : Int)) then ((at_ ws x43_1).bind fun x29 => (word_Store_Set.f (⟨y17_0_1, y17_1_1⟩ : word_Store) x43_1 x29).bind fun (t31, p32) => bif t31.isSome then (none) else (kernel_New.l1 ws k (w64 (x43_1 + 1), p32.l, p32.limit))) else (some (Brk.nx (y17_0_1, y17_1_1)))
def kernel_New.l2 (ns44 : List Nat) : Nat → (Int × (List Nat)) → Option ((List Nat))
  | 0, _ => none
  | k + 1, (x68_2, x10_2) => bif decide (x68_2 < (ns44.length : Int)) then ((at_ ns44 x68_2).bind fun x52 => (app x10_2 [x52]).bind fun zs63 => kernel_New.l2 ns44 k (w64 (x68_2 + 1), zs63)) else (some x10_2)
def kernel_New.f (k : Nat) (ws : List Int) (lim : Int) (cs : List (List (List Int))) : Option ((Option Int × word_Store × List Nat)) :=
  (bif decide (8 ≤ (cs.length : Int)) then (some true) else ((kern_contains.f k cs).bind fun t5 => some t5)).bind fun c3 => bif c3 then (some ((some 13), ⟨[], 0⟩, [])) else (bif decide (lim < 1) then ((lay_Size.f ).bind fun t9 => (wNewE t9 lim).bind fun c12 => some ((some 1), ⟨[], 0⟩, [])) else ((lay_Size.f ).bind fun t13 => (wNew t13 lim).bind fun s16 => (lay_Size.f ).bind fun t24 => bif decide (t24 < (ws.length : Int)) then (some ((some 1), ⟨[], 0⟩, [])) else ((kernel_New.l1 ws k (0, s16.l, s16.limit)).bind fun o1 => Brk.go o1 (fun r => some r) (fun (y17_0_e1, y17_1_e1) => (kernel_copied.f k cs).bind fun ns44 => (kernel_New.l2 ns44 k (0, [])).bind fun j10_e2 => (chk (decide (j10_e2.length ≤ 7))).bind fun _ => (chk (decide (100 < k))).bind fun _ => some (none, (⟨y17_0_e1, y17_1_e1⟩ : word_Store), j10_e2)))))
set_option maxHeartbeats 8000000 in
set_option maxRecDepth 100000 in
theorem kernel_New.ct (k : Nat) (v0 v2 : Value) (ws : List Int) (lim : Int) (cs : List (List (List Int))) (r0 : Option Int) (r1 : word_Store) (r2 : List Nat) (h : kernel_New.f k ws lim cs = some (r0, r1, r2)) :
    Ct Tryz.prog 6 [.agg #[v0, .int .u32 lim, v2]] (fun F => Rd (ekI .u64) v0 ws F ∧ Rd3 (ekI .u64) v2 cs F) [] (fun u H' => match r0 with | some c => (u = .tuple #[.pointer none, errV 42 (some c)] ∧ H' = []) | none => (∃ bk, u = .tuple #[bp bk 0, errV 42 none] ∧ H' = [KR bk r2 r1 []])) := by
  unfold kernel_New.f at h
  refine Ct.intro (n := 95) Tryz.func6 rfl rfl rfl ?_
  intro R w0 F hF hR
  obtain ⟨hF0, hF2⟩ := hF
  obtain ⟨vs2, hF2, hl2, hR2⟩ := hF2
  refine S.seq ?_
  refine S.region ?_
  refine SO.box rfl rfl rfl (fun b1 => ?_)
  refine SO.v rfl (opv_assign rfl) ?_
  refine SO.v rfl (opv_assign rfl) ?_
  refine SO.nil ?_
  refine S.seq ?_
  refine S.seq ?_
  refine S.region ?_
  refine SO.v rfl (opv_fieldAddr Tryz.underlying26 rfl Tryz.sizeOf24 rfl rfl) ?_
  refine SO.load1 rfl Tryz.isAgg24 rfl rfl ?_
  refine SO.v rfl (opv_len2 rfl Tryz.underlying24 hF2 hl2 rfl) ?_
  refine SO.v rfl (opv_geq rfl rfl) ?_
  refine SO.v rfl (opv_move rfl) ?_
  obtain ⟨c3, hc4, hgk⟩ := opt_bind h
  refine SO.cut 4 21 (.bool c3) [Box b1 [v0, .int .u32 lim, v2], F] (fun l2 hk2 => ?_) ?_
  · clear hgk
    replace h := hc4
    rcases bool_or (decide (8 ≤ (cs.length : Int))) with b2 | b2
    · replace h := cond_t b2 h
      refine SO.passF rfl rfl rfl b2 rfl rfl ?_
      refine SO.passF rfl rfl rfl b2 rfl rfl ?_
      refine SO.passF rfl rfl rfl b2 rfl rfl ?_
      cases h
      refine SO.v rfl (opv_pick_t' b2 rfl rfl) ?_
      refine SO.b1 ?_
      refine SO.b1 ?_
      exact hk2.fitc (m := 4) rfl (rfl) rfl
    replace h := cond_f b2 h
    refine SO.takeT rfl rfl rfl b2 ?_
    refine SO.v rfl (opv_fieldAddr Tryz.underlying26 rfl Tryz.sizeOf24 rfl rfl) ?_
    refine SO.takeT rfl rfl rfl b2 ?_
    refine SO.load1 rfl Tryz.isAgg24 rfl rfl ?_
    refine SO.takeT rfl rfl rfl b2 ?_
    obtain ⟨t5, ht6, h⟩ := opt_bind h
    refine SO.call (pre := []) rfl Tryz.call13 rfl rfl rfl (kern_contains.ct k v2 cs t5 ht6) (Rd3.tail (Rd3.head ⟨_, hF2, hl2, hR2⟩)) ?_
    rintro _ _ ⟨rfl, rfl⟩
    cases h
    refine SO.v rfl (opv_pick_f' b2 rfl rfl) ?_
    refine SO.b1 ?_
    refine SO.b1 ?_
    exact hk2.fitc (m := 4) rfl (rfl) rfl
  clear hc4
  replace h := hgk
  refine SO.nil ?_
  rcases bool_or c3 with b7 | b7
  · replace h := cond_t b7 h
    refine S.condT rfl b7 ?_
    refine S.seq ?_
    refine S.region ?_
    refine SO.v rfl (opv_iface Tryz.underlying42 rfl rfl) ?_
    refine SO.v rfl (opv_assign rfl) ?_
    refine SO.v rfl (opv_assign rfl) ?_
    refine SO.nil ?_
    refine S.to (ρ' := [(2, .pointer none), (3, errV 42 (some 13))]) ⟨rfl, rfl, trivial⟩ ?_
    cases h
    refine S.drop ?_
    exact S.ret2 Tryz.func6 rfl rfl rfl (fun w hs hk => hR w _ _ ⟨rfl, rfl⟩ hs hk)
  replace h := cond_f b7 h
  refine S.condF rfl b7 ?_
  refine S.skip ?_
  refine S.seq ?_
  rcases bool_or (decide (lim < 1)) with b8 | b8
  · replace h := cond_t b8 h
    obtain ⟨t9, ht10, h⟩ := opt_bind h
    obtain ⟨c12, ht11, h⟩ := opt_bind h
    refine S.draw2 (Y := fun Q => ∃ (_ _ _ _ : Unit), Q [(1, bp b1 0), (3, errV 42 none), (2, .pointer none)] [Box b1 [v0, .int .u32 lim, v2], F]) (Z := fun Q => ∀ (_ _ _ _ _ _ : Unit), Q [(1, bp b1 0), (3, errV 42 none), (2, .pointer none), (4, .pointer none), (5, errV 42 (some c12))] [Box b1 [v0, .int .u32 lim, v2], F]) (T := [tS 1 (bp b1 0), tE [(3, errV 42 none), (2, .pointer none)], tR (Box b1 [v0, .int .u32 lim, v2]), tR (F), tS 24 (.int .i64 t9), tS 25 (bp b1 1), tS 26 (.int .u32 lim), tS 27 (.tuple #[.pointer none, errV 42 (some c12)]), tS 23 (.tuple #[.pointer none, errV 42 (some c12)]), tS 28 (.pointer none), tS 29 (errV 42 (some c12)), tS 4 (.pointer none), tS 5 (errV 42 (some c12))]) (D := [⟨[], [], [4]⟩, ⟨[0], [], [5]⟩, ⟨[5, 2], [], [6]⟩, ⟨[4, 6], [], [7]⟩, ⟨[7], [], [8]⟩, ⟨[8], [], [9]⟩, ⟨[8], [], [10]⟩, ⟨[9], [], [11]⟩, ⟨[10], [], [12]⟩]) (ini := [0, 1, 2, 3]) (fin := [0, 1, 11, 12, 2, 3]) (bf := [[], [], [1], [0, 1, 2], [0, 1, 2, 3], [0, 1, 2, 3, 4], [0, 1, 2, 3, 4], [0, 1, 2, 3, 4, 5], [0, 1, 2, 3, 4, 5, 6, 7]]) (by kernel_rfl) (by kernel_rfl) (fun Q => by kernel_rfl) (fun x w h1 h2 => ⟨(), (), (), (), EnvAll.of h1 ⟨rfl, rfl, rfl, trivial⟩, h2⟩) (fun Q => by kernel_rfl) ⟨?_, ?_, ?_, ?_, ?_, ?_, ?_, ?_, ?_, trivial⟩ ?_
    · rintro Fr 
      refine SO.call (pre := []) rfl Tryz.call16 rfl rfl rfl (lay_Size.ct _ ht10) trivial ?_
      rintro _ _ ⟨rfl, rfl⟩
      exact SO.nilZ fun a w h1 h2 h3 h4 h5 => PZ.of h1 h3 h5 (.cons () (.nil ⟨EnvAll.of h2 ⟨rfl, trivial⟩, h4⟩))
    · rintro Fr _
      refine SO.v rfl (opv_fieldAddr Tryz.underlying26 rfl Tryz.sizeOf23 rfl rfl) ?_
      exact SO.nilZ fun a w h1 h2 h3 h4 h5 => PZ.of h1 h3 h5 (.cons () (.cons () (.nil ⟨EnvAll.of h2 ⟨rfl, rfl, trivial⟩, h4⟩)))
    · rintro Fr _ _
      refine SO.load1 rfl Tryz.isAgg23 rfl rfl ?_
      exact SO.nilZ fun a w h1 h2 h3 h4 h5 => PZ.of h1 h3 h5 (.cons () (.cons () (.cons () (.nil ⟨EnvAll.of h2 ⟨rfl, rfl, trivial⟩, h4⟩))))
    · rintro Fr _ _
      refine SO.call (pre := []) rfl Tryz.call15 rfl rfl rfl (wNewE.ct t9 lim c12 ht11) trivial ?_
      rintro _ _ ⟨rfl, rfl⟩
      exact SO.nilZ fun a w h1 h2 h3 h4 h5 => PZ.of h1 h3 h5 (.cons () (.cons () (.cons () (.nil ⟨EnvAll.of h2 ⟨rfl, rfl, rfl, trivial⟩, h4⟩))))
    · rintro Fr _
      refine SO.v rfl (opv_move rfl) ?_
      exact SO.nilZ fun a w h1 h2 h3 h4 h5 => PZ.of h1 h3 h5 (.cons () (.cons () (.nil ⟨EnvAll.of h2 ⟨rfl, rfl, trivial⟩, h4⟩)))
    · rintro Fr _
      refine SO.v rfl (opv_extract rfl rfl) ?_
      exact SO.nilZ fun a w h1 h2 h3 h4 h5 => PZ.of h1 h3 h5 (.cons () (.cons () (.nil ⟨EnvAll.of h2 ⟨rfl, rfl, trivial⟩, h4⟩)))
    · rintro Fr _
      refine SO.v rfl (opv_extract rfl rfl) ?_
      exact SO.nilZ fun a w h1 h2 h3 h4 h5 => PZ.of h1 h3 h5 (.cons () (.cons () (.nil ⟨EnvAll.of h2 ⟨rfl, rfl, trivial⟩, h4⟩)))
    · rintro Fr _
      refine SO.v rfl (opv_assign rfl) ?_
      exact SO.nilZ fun a w h1 h2 h3 h4 h5 => PZ.of h1 h3 h5 (.cons () (.cons () (.nil ⟨EnvAll.of h2 ⟨rfl, rfl, trivial⟩, h4⟩)))
    · rintro Fr _
      refine SO.v rfl (opv_assign rfl) ?_
      exact SO.nilZ fun a w h1 h2 h3 h4 h5 => PZ.of h1 h3 h5 (.cons () (.cons () (.nil ⟨EnvAll.of h2 ⟨rfl, rfl, trivial⟩, h4⟩)))
    rintro _ _ _ _ _ _
    refine S.to (ρ' := [(1, bp b1 0), (3, errV 42 none), (2, .pointer none), (4, .pointer none), (5, errV 42 (some c12))]) ⟨rfl, rfl, rfl, rfl, rfl, trivial⟩ ?_
    refine S.seq ?_
    refine S.seq ?_
    refine S.draw2 (Y := fun Q => ∃ (_ _ _ _ _ : Unit), Q [(5, errV 42 (some c12)), (1, bp b1 0), (3, errV 42 none), (2, .pointer none), (4, .pointer none)] [Box b1 [v0, .int .u32 lim, v2], F]) (Z := fun Q => ∀ (_ _ _ _ _ : Unit), Q [(1, bp b1 0), (3, errV 42 none), (2, .pointer none), (4, .pointer none), (38, .bool true)] [Box b1 [v0, .int .u32 lim, v2], F]) (T := [tS 5 (errV 42 (some c12)), tS 1 (bp b1 0), tE [(3, errV 42 none), (2, .pointer none), (4, .pointer none)], tR (Box b1 [v0, .int .u32 lim, v2]), tR (F), tS 30 (errV 42 (some c12)), tS 31 (.bool true), tS 32 (.bool true), tS 33 (undef), tS 34 (undef), tS 35 (undef), tS 36 (undef), tS 37 (undef), tS 38 (.bool true)]) (D := [⟨[0], [], [5]⟩, ⟨[5], [], [6]⟩, ⟨[6], [], [7]⟩, ⟨[7], [], [8]⟩, ⟨[7], [], [9]⟩, ⟨[7], [], [10]⟩, ⟨[7], [], [11]⟩, ⟨[7], [], [12]⟩, ⟨[7, 12], [], [13]⟩]) (ini := [0, 1, 2, 3, 4]) (fin := [1, 2, 13, 3, 4]) (bf := [[], [0], [0, 1], [0, 1, 2], [0, 1, 2, 3], [0, 1, 2, 3, 4], [0, 1, 2], [0, 1, 2, 3, 4, 5, 6], [0, 1, 2, 3, 4, 5, 6, 7]]) (by kernel_rfl) (by kernel_rfl) (fun Q => by kernel_rfl) (fun x w h1 h2 => ⟨(), (), (), (), (), EnvAll.of h1 ⟨rfl, rfl, rfl, rfl, rfl, trivial⟩, h2⟩) (fun Q => by kernel_rfl) ⟨?_, ?_, ?_, ?_, ?_, ?_, ?_, ?_, ?_, trivial⟩ ?_
    · rintro Fr _
      refine SO.v rfl (opv_move rfl) ?_
      exact SO.nilZ fun a w h1 h2 h3 h4 h5 => PZ.of h1 h3 h5 (.cons () (.cons () (.nil ⟨EnvAll.of h2 ⟨rfl, rfl, trivial⟩, h4⟩)))
    · rintro Fr _
      refine SO.veq (v' := .bool true) rfl (opv_neqN (e := (some c12)) Tryz.underlying31 rfl) rfl ?_
      exact SO.nilZ fun a w h1 h2 h3 h4 h5 => PZ.of h1 h3 h5 (.cons () (.cons () (.nil ⟨EnvAll.of h2 ⟨rfl, rfl, trivial⟩, h4⟩)))
    · rintro Fr _
      refine SO.v rfl (opv_move rfl) ?_
      exact SO.nilZ fun a w h1 h2 h3 h4 h5 => PZ.of h1 h3 h5 (.cons () (.cons () (.nil ⟨EnvAll.of h2 ⟨rfl, rfl, trivial⟩, h4⟩)))
    · rintro Fr _
      refine SO.passF rfl rfl rfl rfl rfl rfl ?_
      exact SO.nilZ fun a w h1 h2 h3 h4 h5 => PZ.of h1 h3 h5 (.cons () (.cons () (.nil ⟨EnvAll.of h2 ⟨rfl, rfl, trivial⟩, h4⟩)))
    · rintro Fr _
      refine SO.passF rfl rfl rfl rfl rfl rfl ?_
      exact SO.nilZ fun a w h1 h2 h3 h4 h5 => PZ.of h1 h3 h5 (.cons () (.cons () (.nil ⟨EnvAll.of h2 ⟨rfl, rfl, trivial⟩, h4⟩)))
    · rintro Fr _
      refine SO.passF rfl rfl rfl rfl rfl rfl ?_
      exact SO.nilZ fun a w h1 h2 h3 h4 h5 => PZ.of h1 h3 h5 (.cons () (.cons () (.nil ⟨EnvAll.of h2 ⟨rfl, rfl, trivial⟩, h4⟩)))
    · rintro Fr _
      refine SO.passF rfl rfl rfl rfl rfl rfl ?_
      exact SO.nilZ fun a w h1 h2 h3 h4 h5 => PZ.of h1 h3 h5 (.cons () (.cons () (.nil ⟨EnvAll.of h2 ⟨rfl, rfl, trivial⟩, h4⟩)))
    · rintro Fr _
      refine SO.passF rfl rfl rfl rfl rfl rfl ?_
      exact SO.nilZ fun a w h1 h2 h3 h4 h5 => PZ.of h1 h3 h5 (.cons () (.cons () (.nil ⟨EnvAll.of h2 ⟨rfl, rfl, trivial⟩, h4⟩)))
    · rintro Fr _ _
      refine SO.v rfl (opv_pick_tt rfl rfl) ?_
      exact SO.nilZ fun a w h1 h2 h3 h4 h5 => PZ.of h1 h3 h5 (.cons () (.cons () (.cons () (.nil ⟨EnvAll.of h2 ⟨rfl, rfl, rfl, trivial⟩, h4⟩))))
    rintro _ _ _ _ _
    refine S.to (ρ' := [(1, bp b1 0), (3, errV 42 none), (2, .pointer none), (4, .pointer none), (38, .bool true)]) ⟨rfl, rfl, rfl, rfl, rfl, trivial⟩ ?_
    refine S.cond_true rfl ?_
    refine S.seq ?_
    refine S.region ?_
    refine SO.v rfl (opv_iface Tryz.underlying42 rfl rfl) ?_
    refine SO.v rfl (opv_assign rfl) ?_
    refine SO.v rfl (opv_assign rfl) ?_
    refine SO.nil ?_
    cases h
    refine S.drop ?_
    exact S.ret2 Tryz.func6 rfl rfl rfl (fun w hs hk => hR w _ _ ⟨rfl, rfl⟩ hs hk)
  replace h := cond_f b8 h
  obtain ⟨t13, ht14, h⟩ := opt_bind h
  obtain ⟨s16, ht15, h⟩ := opt_bind h
  refine S.draw2 (Y := fun Q => ∃ (_ _ _ _ : Unit), Q [(1, bp b1 0), (3, errV 42 none), (2, .pointer none)] [Box b1 [v0, .int .u32 lim, v2], F]) (Z := fun Q => ∀ (_ _ : Unit) (g_2 : (Value × Nat)) (_ _ _ : Unit), Q [(1, bp b1 0), (3, errV 42 none), (2, .pointer none), (4, bp g_2.2 0), (28, bp g_2.2 0), (23, .tuple #[bp g_2.2 0, errV 42 (none : Option Int)]), (27, .tuple #[bp g_2.2 0, errV 42 (none : Option Int)]), (5, errV 42 (none : Option Int))] [Own 92 ek_api_Cell g_2.1 s16.l, Box g_2.2 [g_2.1, .int .u32 s16.limit], Box b1 [v0, .int .u32 lim, v2], F]) (T := [tS 1 (bp b1 0), tE [(3, errV 42 none), (2, .pointer none)], tR (Box b1 [v0, .int .u32 lim, v2]), tR (F), tS 24 (.int .i64 t13), tS 25 (bp b1 1), tS 26 (.int .u32 lim), ⟨(Value × Nat), [27], (fun x => match x with | (v18, b17) => [(27, .tuple #[bp b17 0, errV 42 (none : Option Int)])]), (fun x => match x with | (v18, b17) => [Own 92 ek_api_Cell v18 s16.l, Box b17 [v18, .int .u32 s16.limit]]), fun _ => rfl⟩, ⟨(Value × Nat), [23, 27], (fun x => match x with | (v18, b17) => [(23, .tuple #[bp b17 0, errV 42 (none : Option Int)]), (27, .tuple #[bp b17 0, errV 42 (none : Option Int)])]), (fun x => match x with | (v18, b17) => [Own 92 ek_api_Cell v18 s16.l, Box b17 [v18, .int .u32 s16.limit]]), fun _ => rfl⟩, ⟨Value, [23], (fun xw23 => [(23, .tuple #[xw23, errV 42 (none : Option Int)])]), (fun xw23 => []), fun _ => rfl⟩, ⟨(Value × Nat), [28, 23, 27], (fun x => match x with | (v18, b17) => [(28, bp b17 0), (23, .tuple #[bp b17 0, errV 42 (none : Option Int)]), (27, .tuple #[bp b17 0, errV 42 (none : Option Int)])]), (fun x => match x with | (v18, b17) => [Own 92 ek_api_Cell v18 s16.l, Box b17 [v18, .int .u32 s16.limit]]), fun _ => rfl⟩, tS 29 (errV 42 (none : Option Int)), ⟨(Value × Nat), [4, 28, 23, 27], (fun x => match x with | (v18, b17) => [(4, bp b17 0), (28, bp b17 0), (23, .tuple #[bp b17 0, errV 42 (none : Option Int)]), (27, .tuple #[bp b17 0, errV 42 (none : Option Int)])]), (fun x => match x with | (v18, b17) => [Own 92 ek_api_Cell v18 s16.l, Box b17 [v18, .int .u32 s16.limit]]), fun _ => rfl⟩, tS 5 (errV 42 (none : Option Int))]) (D := [⟨[], [], [4]⟩, ⟨[0], [], [5]⟩, ⟨[5, 2], [], [6]⟩, ⟨[4, 6], [], [7]⟩, ⟨[], [7], [8, 9]⟩, ⟨[], [8], [10]⟩, ⟨[9], [], [11]⟩, ⟨[], [10], [12]⟩, ⟨[11], [], [13]⟩]) (ini := [0, 1, 2, 3]) (fin := [0, 1, 12, 13, 2, 3]) (bf := [[], [], [1], [0, 1, 2], [0, 1, 2, 3], [0, 1, 2, 3, 4], [0, 1, 2, 3, 4], [0, 1, 2, 3, 4, 5], [0, 1, 2, 3, 4, 5, 6, 7]]) (by kernel_rfl) (by kernel_rfl) (fun Q => by kernel_rfl) (fun x w h1 h2 => ⟨(), (), (), (), EnvAll.of h1 ⟨rfl, rfl, rfl, trivial⟩, h2⟩) (fun Q => by kernel_rfl) ⟨?_, ?_, ?_, ?_, ?_, ?_, ?_, ?_, ?_, trivial⟩ ?_
  · rintro Fr 
    refine SO.call (pre := []) rfl Tryz.call16 rfl rfl rfl (lay_Size.ct _ ht14) trivial ?_
    rintro _ _ ⟨rfl, rfl⟩
    exact SO.nilZ fun a w h1 h2 h3 h4 h5 => PZ.of h1 h3 h5 (.cons () (.nil ⟨EnvAll.of h2 ⟨rfl, trivial⟩, h4⟩))
  · rintro Fr _
    refine SO.v rfl (opv_fieldAddr Tryz.underlying26 rfl Tryz.sizeOf23 rfl rfl) ?_
    exact SO.nilZ fun a w h1 h2 h3 h4 h5 => PZ.of h1 h3 h5 (.cons () (.cons () (.nil ⟨EnvAll.of h2 ⟨rfl, rfl, trivial⟩, h4⟩)))
  · rintro Fr _ _
    refine SO.load1 rfl Tryz.isAgg23 rfl rfl ?_
    exact SO.nilZ fun a w h1 h2 h3 h4 h5 => PZ.of h1 h3 h5 (.cons () (.cons () (.cons () (.nil ⟨EnvAll.of h2 ⟨rfl, rfl, trivial⟩, h4⟩))))
  · rintro Fr _ _
    refine SO.call (pre := []) rfl Tryz.call15 rfl rfl rfl (wNew.ct t13 lim s16 ht15) trivial ?_
    rintro _ _ ⟨b17, v18, rfl, rfl⟩
    refine SO.b1 ?_
    refine SO.rd fun hr19 => ?_
    refine SO.b1 ?_
    refine SO.b1 ?_
    exact SO.nilZ fun a w h1 h2 h3 h4 h5 => PZ.of h1 h3 h5 (.cons () (.cons () (.cons (v18, b17) (.nil ⟨EnvAll.of h2 ⟨rfl, rfl, rfl, trivial⟩, h4⟩))))
  · rintro Fr ⟨v18, b17⟩
    refine SO.rd fun hr20 => ?_
    refine SO.v rfl (opv_move rfl) ?_
    refine SO.b1 ?_
    refine SO.b1 ?_
    exact SO.nilZ fun a w h1 h2 h3 h4 h5 => PZ.of h1 h3 h5 (.cons (v18, b17) (.cons (bp b17 0) (.nil ⟨EnvAll.of h2 ⟨rfl, rfl, rfl, trivial⟩, h4⟩)))
  · rintro Fr ⟨v18, b17⟩
    refine SO.rd fun hr21 => ?_
    refine SO.v rfl (opv_extract rfl rfl) ?_
    refine SO.b1 ?_
    refine SO.b1 ?_
    exact SO.nilZ fun a w h1 h2 h3 h4 h5 => PZ.of h1 h3 h5 (.cons (v18, b17) (.nil ⟨EnvAll.of h2 ⟨rfl, rfl, rfl, trivial⟩, h4⟩))
  · rintro Fr xw23
    refine SO.v rfl (opv_extract rfl rfl) ?_
    exact SO.nilZ fun a w h1 h2 h3 h4 h5 => PZ.of h1 h3 h5 (.cons xw23 (.cons () (.nil ⟨EnvAll.of h2 ⟨rfl, rfl, trivial⟩, h4⟩)))
  · rintro Fr ⟨v18, b17⟩
    refine SO.rd fun hr22 => ?_
    refine SO.v rfl (opv_assign rfl) ?_
    refine SO.b1 ?_
    refine SO.b1 ?_
    exact SO.nilZ fun a w h1 h2 h3 h4 h5 => PZ.of h1 h3 h5 (.cons (v18, b17) (.nil ⟨EnvAll.of h2 ⟨rfl, rfl, rfl, rfl, trivial⟩, h4⟩))
  · rintro Fr _
    refine SO.v rfl (opv_assign rfl) ?_
    exact SO.nilZ fun a w h1 h2 h3 h4 h5 => PZ.of h1 h3 h5 (.cons () (.cons () (.nil ⟨EnvAll.of h2 ⟨rfl, rfl, trivial⟩, h4⟩)))
  rintro _ _ ⟨v18, b17⟩ _ _ _
  refine S.to (ρ' := [(1, bp b1 0), (3, errV 42 none), (2, .pointer none), (4, bp b17 0), (5, errV 42 (none : Option Int))]) ⟨rfl, rfl, rfl, rfl, rfl, trivial⟩ ?_
  refine S.rd fun hr23 => ?_
  refine S.seq ?_
  refine S.seq ?_
  obtain ⟨t24, ht25, h⟩ := opt_bind h
  refine S.draw2 (Y := fun Q => ∃ (_ _ _ _ _ _ _ : Unit), Q [(5, errV 42 (none : Option Int)), (1, bp b1 0), (3, errV 42 none), (2, .pointer none), (4, bp b17 0)] [Own 92 ek_api_Cell v18 s16.l, Box b17 [v18, .int .u32 s16.limit], Box b1 [v0, .int .u32 lim, v2], F]) (Z := fun Q => ∀ (_ _ _ _ _ _ _ : Unit), Q [(1, bp b1 0), (3, errV 42 none), (2, .pointer none), (4, bp b17 0), (38, .bool (decide (t24 < (ws.length : Int))))] [Own 92 ek_api_Cell v18 s16.l, Box b17 [v18, .int .u32 s16.limit], Box b1 [v0, .int .u32 lim, v2], F]) (T := [tS 5 (errV 42 (none : Option Int)), tS 1 (bp b1 0), tE [(3, errV 42 none), (2, .pointer none), (4, bp b17 0)], tR (Own 92 ek_api_Cell v18 s16.l), tR (Box b17 [v18, .int .u32 s16.limit]), tR (Box b1 [v0, .int .u32 lim, v2]), tR (F), tS 30 (errV 42 (none : Option Int)), tS 31 (.bool false), tS 32 (.bool false), tS 33 (bp b1 0), tS 34 (v0), tS 35 (.int .i64 (ws.length : Int)), tS 36 (.int .i64 t24), tS 37 (.bool (decide (t24 < (ws.length : Int)))), tS 38 (.bool (decide (t24 < (ws.length : Int))))]) (D := [⟨[0], [], [7]⟩, ⟨[7], [], [8]⟩, ⟨[8], [], [9]⟩, ⟨[1, 9], [], [10]⟩, ⟨[9, 10, 5], [], [11]⟩, ⟨[9, 11, 6], [], [12]⟩, ⟨[9], [], [13]⟩, ⟨[9, 12, 13], [], [14]⟩, ⟨[9, 14], [], [15]⟩]) (ini := [0, 1, 2, 3, 4, 5, 6]) (fin := [1, 2, 15, 3, 4, 5, 6]) (bf := [[], [0], [0, 1], [0, 1, 2], [0, 1, 2, 3], [0, 1, 2, 3, 4], [0, 1, 2], [0, 1, 2, 3, 4, 5, 6], [0, 1, 2, 3, 4, 5, 6, 7]]) (by kernel_rfl) (by kernel_rfl) (fun Q => by kernel_rfl) (fun x w h1 h2 => ⟨(), (), (), (), (), (), (), EnvAll.of h1 ⟨rfl, rfl, rfl, rfl, rfl, trivial⟩, h2⟩) (fun Q => by kernel_rfl) ⟨?_, ?_, ?_, ?_, ?_, ?_, ?_, ?_, ?_, trivial⟩ ?_
  · rintro Fr _
    refine SO.v rfl (opv_move rfl) ?_
    exact SO.nilZ fun a w h1 h2 h3 h4 h5 => PZ.of h1 h3 h5 (.cons () (.cons () (.nil ⟨EnvAll.of h2 ⟨rfl, rfl, trivial⟩, h4⟩)))
  · rintro Fr _
    refine SO.veq (v' := .bool false) rfl (opv_neqN (e := (none : Option Int)) Tryz.underlying31 rfl) rfl ?_
    exact SO.nilZ fun a w h1 h2 h3 h4 h5 => PZ.of h1 h3 h5 (.cons () (.cons () (.nil ⟨EnvAll.of h2 ⟨rfl, rfl, trivial⟩, h4⟩)))
  · rintro Fr _
    refine SO.v rfl (opv_move rfl) ?_
    exact SO.nilZ fun a w h1 h2 h3 h4 h5 => PZ.of h1 h3 h5 (.cons () (.cons () (.nil ⟨EnvAll.of h2 ⟨rfl, rfl, trivial⟩, h4⟩)))
  · rintro Fr _ _
    refine SO.takeT rfl rfl rfl rfl ?_
    refine SO.v rfl (opv_fieldAddr Tryz.underlying26 rfl Tryz.sizeOf22 rfl rfl) ?_
    exact SO.nilZ fun a w h1 h2 h3 h4 h5 => PZ.of h1 h3 h5 (.cons () (.cons () (.cons () (.nil ⟨EnvAll.of h2 ⟨rfl, rfl, rfl, trivial⟩, h4⟩))))
  · rintro Fr _ _ _
    refine SO.takeT rfl rfl rfl rfl ?_
    refine SO.load1 rfl Tryz.isAgg22 rfl rfl ?_
    exact SO.nilZ fun a w h1 h2 h3 h4 h5 => PZ.of h1 h3 h5 (.cons () (.cons () (.cons () (.cons () (.nil ⟨EnvAll.of h2 ⟨rfl, rfl, rfl, trivial⟩, h4⟩)))))
  · rintro Fr _ _ _
    refine SO.takeT rfl rfl rfl rfl ?_
    refine SO.v rfl (opv_lenR rfl Tryz.underlying22 hF0 rfl) ?_
    exact SO.nilZ fun a w h1 h2 h3 h4 h5 => PZ.of h1 h3 h5 (.cons () (.cons () (.cons () (.cons () (.nil ⟨EnvAll.of h2 ⟨rfl, rfl, rfl, trivial⟩, h4⟩)))))
  · rintro Fr _
    refine SO.takeT rfl rfl rfl rfl ?_
    refine SO.call (pre := []) rfl Tryz.call16 rfl rfl rfl (lay_Size.ct _ ht25) trivial ?_
    rintro _ _ ⟨rfl, rfl⟩
    exact SO.nilZ fun a w h1 h2 h3 h4 h5 => PZ.of h1 h3 h5 (.cons () (.cons () (.nil ⟨EnvAll.of h2 ⟨rfl, rfl, trivial⟩, h4⟩)))
  · rintro Fr _ _ _
    refine SO.takeT rfl rfl rfl rfl ?_
    refine SO.v rfl (opv_gtr rfl rfl) ?_
    exact SO.nilZ fun a w h1 h2 h3 h4 h5 => PZ.of h1 h3 h5 (.cons () (.cons () (.cons () (.cons () (.nil ⟨EnvAll.of h2 ⟨rfl, rfl, rfl, rfl, trivial⟩, h4⟩)))))
  · rintro Fr _ _
    refine SO.v rfl (opv_pick_ff rfl rfl) ?_
    exact SO.nilZ fun a w h1 h2 h3 h4 h5 => PZ.of h1 h3 h5 (.cons () (.cons () (.cons () (.nil ⟨EnvAll.of h2 ⟨rfl, rfl, rfl, trivial⟩, h4⟩))))
  rintro _ _ _ _ _ _ _
  refine S.to (ρ' := [(1, bp b1 0), (3, errV 42 none), (2, .pointer none), (4, bp b17 0), (38, .bool (decide (t24 < (ws.length : Int))))]) ⟨rfl, rfl, rfl, rfl, rfl, trivial⟩ ?_
  rcases bool_or (decide (t24 < (ws.length : Int))) with b26 | b26
  · replace h := cond_t b26 h
    refine S.condT rfl b26 ?_
    refine S.seq ?_
    refine S.region ?_
    refine SO.v rfl (opv_iface Tryz.underlying42 rfl rfl) ?_
    refine SO.v rfl (opv_assign rfl) ?_
    refine SO.v rfl (opv_assign rfl) ?_
    refine SO.nil ?_
    cases h
    refine S.drop ?_
    refine S.drop ?_
    refine S.drop ?_
    exact S.ret2 Tryz.func6 rfl rfl rfl (fun w hs hk => hR w _ _ ⟨rfl, rfl⟩ hs hk)
  replace h := cond_f b26 h
  refine S.condF rfl b26 ?_
  refine S.skip ?_
  refine S.seq ?_
  refine S.seq ?_
  refine S.region ?_
  refine SO.v rfl (opv_fieldAddr Tryz.underlying26 rfl Tryz.sizeOf22 rfl rfl) ?_
  refine SO.b2 ?_
  refine SO.load1 rfl Tryz.isAgg22 rfl rfl ?_
  refine SO.v rfl (opv_lenR rfl Tryz.underlying22 hF0 rfl) ?_
  refine SO.v rfl (opv_move rfl) ?_
  refine SO.nil ?_
  obtain ⟨o1, hlp1, h⟩ := opt_bind h
  refine S.b3 ?_
  refine S.b3 ?_
  refine S.b2 ?_
  refine S.b3 ?_
  refine S.to (ρ' := [(43, .int .i64 0), (42, .int .i64 (ws.length : Int)), (41, v0), (1, bp b1 0), (3, errV 42 none), (2, .pointer none), (4, bp b17 0)]) ⟨rfl, rfl, rfl, rfl, rfl, rfl, rfl, trivial⟩ ?_
  refine S.forloop (X := (Int × (List api_Cell) × Int) × Value) (O := Brk (Option Int × word_Store × List Nat) ((List api_Cell) × Int)) (fun m x => kernel_New.l1 ws m x.1) (fun x => match x with | ((x43_1, y17_0_1, y17_1_1), vy17_0_1) => [(43, .int .i64 x43_1), (42, .int .i64 (ws.length : Int)), (41, v0), (1, bp b1 0), (3, errV 42 none), (2, .pointer none), (4, bp b17 0)]) (fun x => match x with | ((x43_1, y17_0_1, y17_1_1), vy17_0_1) => [Own 92 ek_api_Cell vy17_0_1 y17_0_1, Box b1 [v0, .int .u32 lim, v2], Box b17 [vy17_0_1, .int .u32 y17_1_1], F]) (fun Sk o' => (∀ r', o' = Brk.ret r' → some r' = some (r0, r1, r2)) ∧ ∀ j : ((List api_Cell) × Int), match j with | (y17_0_e1, y17_1_e1) => ∀ vy17_0_e1 : Value, o' = Brk.nx (y17_0_e1, y17_1_e1) → Sk [(1, bp b1 0), (2, .pointer none), (3, errV 42 none), (4, bp b17 0)] [Own 92 ek_api_Cell vy17_0_e1 y17_0_e1, Box b1 [v0, .int .u32 lim, v2], Box b17 [vy17_0_e1, .int .u32 y17_1_e1], F]) (fun _ => rfl) ?_ (m := k) (x := ((0, s16.l, s16.limit), v18)) hlp1 ?_
  · clear h hlp1
    intro k x o_1 h hK1 ih1
    obtain ⟨⟨x43_1, y17_0_1, y17_1_1⟩, vy17_0_1⟩ := x
    replace h : kernel_New.l1 ws (k + 1) (x43_1, y17_0_1, y17_1_1) = some o_1 := h
    first | rw [kernel_New.l1] at h | unfold kernel_New.l1 at h
    refine S.rd fun hr27 => ?_
    refine S.seq ?_
    refine S.region ?_
    refine SO.v rfl (opv_lss rfl rfl) ?_
    refine SO.nil ?_
    refine S.seq ?_
    rcases bool_or (decide (x43_1 < (ws.length : Int))) with b28 | b28
    · replace h := cond_t b28 h
      refine S.condT rfl b28 ?_
      refine S.skip ?_
      refine S.seq ?_
      refine S.block ?_
      refine S.seq ?_
      refine S.region ?_
      refine SO.v rfl (opv_move rfl) ?_
      obtain ⟨x29, hx30, h⟩ := opt_bind h
      refine SO.v rfl (opv_idx Tryz.underlying22 Tryz.sizeOf58 hF0 rfl rfl hx30) ?_
      refine SO.loadI1 (j := 0) rfl Tryz.isAgg58 (Rd.tail (Rd.tail (Rd.tail (Rd.head hF0)))) hx30 rfl rfl rfl rfl ?_
      refine SO.v rfl (opv_assign rfl) ?_
      refine SO.v rfl (opv_assign rfl) ?_
      refine SO.nil ?_
      refine S.seq ?_
      refine S.region ?_
      refine SO.v rfl (opv_move rfl) ?_
      refine SO.v rfl (opv_move rfl) ?_
      refine SO.v rfl (opv_move rfl) ?_
      obtain ⟨⟨t31, p32⟩, ht33, h⟩ := opt_bind h
      refine SO.b2 ?_
      have ct37 := word_Store_Set.ct b17 vy17_0_1 _ _ _ _ _ ht33
      try dsimp only at ct37
      refine SO.call (pre := [Box _ _, Own _ _ _ _]) rfl Tryz.call17 rfl rfl rfl ct37 trivial ?_
      rintro _ _ ⟨u34_l, rfl, rfl⟩
      refine SO.b1 ?_
      refine SO.rd fun hr35 => ?_
      refine SO.v rfl (opv_assign rfl) ?_
      refine SO.nil ?_
      refine S.to (ρ' := [(43, .int .i64 x43_1), (42, .int .i64 (ws.length : Int)), (41, v0), (1, bp b1 0), (3, errV 42 none), (2, .pointer none), (4, bp b17 0), (8, errV 42 t31)]) ⟨rfl, rfl, rfl, rfl, rfl, rfl, rfl, rfl, trivial⟩ ?_
      refine S.seq ?_
      refine S.region ?_
      refine SO.v rfl (opv_move rfl) ?_
      refine SO.v rfl (opv_neqN (e := t31) Tryz.underlying31 rfl) ?_
      refine SO.nil ?_
      rcases bool_or t31.isSome with b36 | b36
      · replace h := cond_t b36 h
        refine S.condT rfl b36 ?_
        refine S.seq ?_
        refine S.region ?_
        refine SO.v rfl (opv_move rfl) ?_
        refine SO.v rfl (opv_assign rfl) ?_
        refine SO.v rfl (opv_assign rfl) ?_
        refine SO.nil ?_
        refine S.to (ρ' := [(3, errV 42 t31), (2, .pointer none)]) ⟨rfl, rfl, trivial⟩ ?_
        cases h
      replace h := cond_f b36 h
      refine S.condF rfl b36 ?_
      refine S.skip ?_
      refine S.inBlock ?_
      refine S.region ?_
      refine SO.v rfl (opv_add rfl rfl) ?_
      refine SO.v rfl (opv_move rfl) ?_
      refine SO.nil ?_
      refine S.b3 ?_
      refine S.b2 ?_
      refine S.b3 ?_
      refine S.b3 ?_
      refine S.to ?_ (ih1 ((w64 (x43_1 + 1), p32.l, p32.limit), u34_l) h)
      exact ⟨rfl, rfl, rfl, rfl, rfl, rfl, rfl, trivial⟩
    replace h := cond_f b28 h
    refine S.condF rfl b28 ?_
    refine S.exit rfl ?_
    cases h
    refine S.b3 ?_
    refine S.b3 ?_
    refine S.b3 ?_
    refine S.b3 ?_
    refine S.to ?_ (hK1.2 (y17_0_1, y17_1_1) vy17_0_1 rfl)
    exact ⟨rfl, rfl, rfl, rfl, trivial⟩
  refine ⟨fun r' e' => ?_, ?_⟩
  · subst e'
    have h9 := Brk.of_ret h
    exact h9
  rintro ⟨y17_0_e1, y17_1_e1⟩ vy17_0_e1 e'
  subst e'
  replace h := Brk.of_nx h
  refine S.rd fun hr38 => ?_
  refine S.seq ?_
  refine S.region ?_
  refine SO.v rfl (opv_move rfl) ?_
  refine SO.v rfl (opv_fieldAddr Tryz.underlying26 rfl Tryz.sizeOf24 rfl rfl) ?_
  refine SO.b1 ?_
  refine SO.load1 rfl Tryz.isAgg24 rfl rfl ?_
  refine SO.v rfl (opv_len2 rfl Tryz.underlying24 hF2 hl2 rfl) ?_
  refine SO.buildSlice0 (ekI .i64) rfl Tryz.underlying29 Tryz.sizeOf3 (fun v39 hr40 => ?_)
  refine SO.box rfl rfl (cells1 (Rd.one hr40)) (fun b41 => ?_)
  refine SO.v rfl (opv_build (v := .agg #[bp b17 0, .pointer none, .int .i64 (cs.length : Int), bp b41 0]) rfl (by intro w; kernel_rfl)) ?_
  refine SO.box rfl rfl rfl (fun b42 => ?_)
  refine SO.alloc rfl Tryz.zeroValue28 rfl (fun b43 => ?_)
  refine SO.store1 Tryz.sizeOf28 rfl rfl rfl rfl ?_
  refine SO.nil ?_
  refine S.to (ρ' := [(1, bp b1 0), (2, .pointer none), (3, errV 42 none), (4, bp b17 0), (9, bp b43 0)]) ⟨rfl, rfl, rfl, rfl, rfl, trivial⟩ ?_
  refine S.seq ?_
  refine S.region ?_
  refine SO.v rfl (opv_assign rfl) ?_
  refine SO.nil ?_
  refine S.seq ?_
  refine S.seq ?_
  refine S.region ?_
  refine SO.v rfl (opv_fieldAddr Tryz.underlying26 rfl Tryz.sizeOf24 rfl rfl) ?_
  refine SO.b4 ?_
  refine SO.load1 rfl Tryz.isAgg24 rfl rfl ?_
  obtain ⟨ns44, ht45, h⟩ := opt_bind h
  refine SO.call (pre := []) rfl Tryz.call18 rfl rfl rfl (kernel_copied.ct k v2 cs ns44 ht45) (Rd3.tail (Rd3.tail (Rd3.tail (Rd3.tail (Rd3.tail (Rd3.tail (Rd3.tail (Rd3.head ⟨_, hF2, hl2, hR2⟩)))))))) ?_
  rintro v46 _ ⟨_, rfl, rfl⟩
  refine SO.lenLens rfl rfl Tryz.underlying24 rfl ?_
  refine SO.v rfl (opv_move rfl) ?_
  refine SO.nil ?_
  obtain ⟨j10_e2, hlp2, h⟩ := opt_bind h
  refine S.addK FeedsK.nil ?_
  refine S.b9 ?_
  refine S.b9 ?_
  refine S.b9 ?_
  refine S.b9 ?_
  refine S.b9 ?_
  refine S.b9 ?_
  refine S.b9 ?_
  refine S.b9 ?_
  refine S.b9 ?_
  refine S.b9 ?_
  refine S.to (ρ' := [(68, .int .i64 0), (67, .int .i64 (ns44.length : Int)), (66, v46), (10, .slice none 0 0), (2, .pointer none), (3, errV 42 none), (4, bp b17 0), (9, bp b43 0)]) ⟨rfl, rfl, rfl, rfl, rfl, rfl, rfl, rfl, trivial⟩ ?_
  refine S.forloop (X := (Int × (List Nat)) × Value) (O := (List Nat)) (fun m x => kernel_New.l2 ns44 m x.1) (fun x => match x with | ((x68_2, x10_2), v10_2) => [(68, .int .i64 x68_2), (67, .int .i64 (ns44.length : Int)), (66, v46), (10, v10_2), (2, .pointer none), (3, errV 42 none), (4, bp b17 0), (9, bp b43 0)]) (fun x => match x with | ((x68_2, x10_2), v10_2) => [FeedsK v10_2 x10_2, LensR 52 v46 ns44, Box b1 [v0, .int .u32 lim, v2], Box b43 [bp b42 0], Box b42 [bp b17 0, .pointer none, .int .i64 (cs.length : Int), bp b41 0], Box b41 [v39], Own 3 (ekI .i64) v39 ([]), Own 92 ek_api_Cell vy17_0_e1 y17_0_e1, Box b17 [vy17_0_e1, .int .u32 y17_1_e1], F]) (fun Sk => (fun j10_e2 => ∀ v10_e2 : Value, Sk [(2, .pointer none), (3, errV 42 none), (4, bp b17 0), (9, bp b43 0), (10, v10_e2)] [FeedsK v10_e2 j10_e2, LensR 52 v46 ns44, Box b1 [v0, .int .u32 lim, v2], Box b43 [bp b42 0], Box b42 [bp b17 0, .pointer none, .int .i64 (cs.length : Int), bp b41 0], Box b41 [v39], Own 3 (ekI .i64) v39 ([]), Own 92 ek_api_Cell vy17_0_e1 y17_0_e1, Box b17 [vy17_0_e1, .int .u32 y17_1_e1], F])) (fun _ => rfl) ?_ (m := k) (x := ((0, []), .slice none 0 0)) hlp2 ?_
  · clear h hlp2
    intro k x o_2 h hK2 ih2
    obtain ⟨⟨x68_2, x10_2⟩, v10_2⟩ := x
    replace h : kernel_New.l2 ns44 (k + 1) (x68_2, x10_2) = some o_2 := h
    first | rw [kernel_New.l2] at h | unfold kernel_New.l2 at h
    refine S.seq ?_
    refine S.region ?_
    refine SO.v rfl (opv_lss rfl rfl) ?_
    refine SO.nil ?_
    refine S.seq ?_
    rcases bool_or (decide (x68_2 < (ns44.length : Int))) with b47 | b47
    · replace h := cond_t b47 h
      refine S.condT rfl b47 ?_
      refine S.skip ?_
      refine S.seq ?_
      refine S.block ?_
      refine S.seq ?_
      refine S.region ?_
      refine SO.v rfl (opv_move rfl) ?_
      obtain ⟨x52, hx53, h⟩ := opt_bind h
      refine SO.b1 ?_
      refine SO.openLens fun xs48 e49 e50 => ?_
      refine SO.rd fun hr51 => ?_
      obtain ⟨y54, hy55, hl56⟩ := lens_at e49 e50 hx53
      refine SO.v rfl (opv_idx (K := ekS) Tryz.underlying24 Tryz.sizeOf52 hr51 rfl rfl hy55) ?_
      refine SO.loadI1 (j := 0) (K := ekS) rfl Tryz.isAgg52 (Rd.head hr51) hy55 rfl rfl rfl rfl ?_
      refine SO.closeLens e49 e50 ?_
      refine SO.v rfl (opv_assign rfl) ?_
      refine SO.v rfl (opv_assign rfl) ?_
      refine SO.nil ?_
      refine S.region ?_
      refine SO.v rfl (opv_move rfl) ?_
      refine SO.v rfl (opv_move rfl) ?_
      refine SO.v rfl (opv_move rfl) ?_
      refine SO.call (pre := []) rfl Tryz.call19 rfl rfl rfl (kernel_Feed.ct y54.1 hl56.one x68_2) trivial ?_
      rintro _ _ ⟨b57, b58, rfl, rfl⟩
      refine SO.buildSlice (K := (ekV jvF jvF_one)) (xs := [FnV.mk 33 [bp b57 0, bp b58 0]]) (cs := [.func (.func 33) #[] #[bp b57 0, bp b58 0]]) rfl Tryz.underlying64 Tryz.sizeOf67 Tryz.zeroValue67 rfl rfl rfl (by kernel_rfl) rfl rfl rfl (fun v59 hr60 => ?_)
      obtain ⟨zs63, hz64, h⟩ := opt_bind h
      refine SO.b4 ?_
      refine SO.openFK fun G61 hG62 => ?_
      obtain ⟨hg66, hap67⟩ := FKs.snoc (x := ⟨b57, b58, y54.1, x68_2⟩) hG62 hl56 hz64
      refine SO.append (K := (ekV jvF jvF_one)) rfl Tryz.underlying64 Tryz.underlying64 inf67_kernel_New rfl rfl rfl (by decide) rfl rfl rfl (Rd.tail (Rd.head hr60)) hap67 (fun v65 => ?_)
      refine SO.b2 ?_
      refine SO.drop ?_
      refine SO.b3 ?_
      refine SO.b3 ?_
      refine SO.b3 ?_
      refine SO.b3 ?_
      refine SO.closeFK (x := ⟨b57, b58, y54.1, x68_2⟩) hg66 ?_
      refine SO.v rfl (opv_assign rfl) ?_
      refine SO.nil ?_
      refine S.to (ρ' := [(68, .int .i64 x68_2), (67, .int .i64 (ns44.length : Int)), (66, v46), (10, v65), (2, .pointer none), (3, errV 42 none), (4, bp b17 0), (9, bp b43 0)]) ⟨rfl, rfl, rfl, rfl, rfl, rfl, rfl, rfl, trivial⟩ ?_
      refine S.inBlock ?_
      refine S.region ?_
      refine SO.v rfl (opv_add rfl rfl) ?_
      refine SO.v rfl (opv_move rfl) ?_
      refine SO.nil ?_
      refine S.b9 ?_
      refine S.b9 ?_
      refine S.b9 ?_
      refine S.b9 ?_
      refine S.b9 ?_
      refine S.b9 ?_
      refine S.b9 ?_
      refine S.b9 ?_
      refine S.b9 ?_
      refine S.b9 ?_
      refine S.to ?_ (ih2 ((w64 (x68_2 + 1), zs63), v65) h)
      exact ⟨rfl, rfl, rfl, rfl, rfl, rfl, rfl, rfl, trivial⟩
    replace h := cond_f b47 h
    refine S.condF rfl b47 ?_
    refine S.exit rfl ?_
    cases h
    refine S.b9 ?_
    refine S.b9 ?_
    refine S.b9 ?_
    refine S.b9 ?_
    refine S.b9 ?_
    refine S.b9 ?_
    refine S.b9 ?_
    refine S.b9 ?_
    refine S.b9 ?_
    refine S.b9 ?_
    refine S.to ?_ (hK2 v10_2)
    exact ⟨rfl, rfl, rfl, rfl, rfl, trivial⟩
  rintro v10_e2
  refine S.seq ?_
  refine S.region ?_
  refine SO.v rfl (opv_move rfl) ?_
  refine SO.v rfl (opv_makeFunc rfl rfl) ?_
  refine SO.buildSlice (K := (ekV jvF jvF_one)) (xs := [FnV.mk 20 [bp b43 0]]) (cs := [.func (.func 20) #[] #[bp b43 0]]) rfl Tryz.underlying64 Tryz.sizeOf67 Tryz.zeroValue67 rfl rfl rfl (by kernel_rfl) rfl rfl rfl (fun v68 hr69 => ?_)
  obtain ⟨_, hc77, h⟩ := opt_bind h
  refine SO.b1 ?_
  refine SO.openFK fun G70 hG71 => ?_
  have hap76 : app (G70.map FK.val) [(FnV.mk 20 [bp b43 0] : FnV)] = some (G70.map FK.val ++ [FnV.mk 20 [bp b43 0]]) := by unfold app; rw [decide_eq_true (by have q := of_decide_eq_true (chk_some hc77); have q2 := hG71.1; simp; omega)]; rfl
  refine SO.append (K := (ekV jvF jvF_one)) rfl Tryz.underlying64 Tryz.underlying64 inf67_kernel_New rfl rfl rfl (by decide) rfl rfl rfl (Rd.tail (Rd.head hr69)) hap76 (fun v74 => ?_)
  refine SO.rd fun hr78 => ?_
  refine SO.b2 ?_
  refine SO.drop ?_
  refine SO.v rfl (opv_assign rfl) ?_
  refine SO.nil ?_
  refine S.seq ?_
  obtain ⟨_, hc79, h⟩ := opt_bind h
  refine S.draw2 (Y := fun Q => ∃ (_ _ _ _ _ _ _ _ _ _ _ _ _ _ _ : Unit), Q [(9, bp b43 0), (4, bp b17 0), (10, v74), (2, .pointer none), (3, errV 42 none)] [Own 67 (ekV jvF jvF_one) v74 (G70.map FK.val ++ [FnV.mk 20 [bp b43 0]]), stars (G70.map FK.boxes), LensR 52 v46 ns44, Box b1 [v0, .int .u32 lim, v2], Box b43 [bp b42 0], Box b42 [bp b17 0, .pointer none, .int .i64 (cs.length : Int), bp b41 0], Box b41 [v39], Own 3 (ekI .i64) v39 ([]), Own 92 ek_api_Cell vy17_0_e1 y17_0_e1, Box b17 [vy17_0_e1, .int .u32 y17_1_e1], F]) (Z := fun Q => ∀ (_ _ _ : Unit) (g_3 : (Nat × Value)) (_ _ _ _ _ _ _ _ _ _ : Unit), Q [(2, .pointer none), (3, errV 42 none), (9, bp b43 0), (5, errV 42 (none : Option Int)), (89, bp g_3.1 0), (84, .tuple #[bp g_3.1 0, errV 42 (none : Option Int)]), (88, .tuple #[bp g_3.1 0, errV 42 (none : Option Int)])] [Box g_3.1 [bp b17 0, g_3.2, .slice none 0 0, .slice none 0 0], OwnPt (NW jvF) 105 g_3.2 (G70.map FK.val ++ [FnV.mk 20 [bp b43 0]]), Box b42 [bp b17 0, bp g_3.1 0, .int .i64 (cs.length : Int), bp b41 0], Own 67 (ekV jvF jvF_one) v74 (G70.map FK.val ++ [FnV.mk 20 [bp b43 0]]), stars (G70.map FK.boxes), LensR 52 v46 ns44, Box b1 [v0, .int .u32 lim, v2], Box b43 [bp b42 0], Box b41 [v39], Own 3 (ekI .i64) v39 ([]), Own 92 ek_api_Cell vy17_0_e1 y17_0_e1, Box b17 [vy17_0_e1, .int .u32 y17_1_e1], F]) (T := [tS 9 (bp b43 0), tS 4 (bp b17 0), tS 10 (v74), tE [(2, .pointer none), (3, errV 42 none)], tR (Own 67 (ekV jvF jvF_one) v74 (G70.map FK.val ++ [FnV.mk 20 [bp b43 0]])), tR (stars (G70.map FK.boxes)), tR (LensR 52 v46 ns44), tR (Box b1 [v0, .int .u32 lim, v2]), tR (Box b43 [bp b42 0]), tR (Box b42 [bp b17 0, .pointer none, .int .i64 (cs.length : Int), bp b41 0]), tR (Box b41 [v39]), tR (Own 3 (ekI .i64) v39 ([])), tR (Own 92 ek_api_Cell vy17_0_e1 y17_0_e1), tR (Box b17 [vy17_0_e1, .int .u32 y17_1_e1]), tR (F), tS 85 (bp b42 0), tS 86 (bp b17 0), tS 87 (v74), ⟨(Nat × Value), [88], (fun x => match x with | (b80, v81) => [(88, .tuple #[bp b80 0, errV 42 (none : Option Int)])]), (fun x => match x with | (b80, v81) => [Box b80 [bp b17 0, v81, .slice none 0 0, .slice none 0 0], OwnPt (NW jvF) 105 v81 (G70.map FK.val ++ [FnV.mk 20 [bp b43 0]])]), fun _ => rfl⟩, ⟨(Nat × Value), [84, 88], (fun x => match x with | (b80, v81) => [(84, .tuple #[bp b80 0, errV 42 (none : Option Int)]), (88, .tuple #[bp b80 0, errV 42 (none : Option Int)])]), (fun x => match x with | (b80, v81) => [Box b80 [bp b17 0, v81, .slice none 0 0, .slice none 0 0], OwnPt (NW jvF) 105 v81 (G70.map FK.val ++ [FnV.mk 20 [bp b43 0]])]), fun _ => rfl⟩, ⟨Value, [84], (fun xw84 => [(84, .tuple #[xw84, errV 42 (none : Option Int)])]), (fun xw84 => []), fun _ => rfl⟩, ⟨(Nat × Value), [89, 84, 88], (fun x => match x with | (b80, v81) => [(89, bp b80 0), (84, .tuple #[bp b80 0, errV 42 (none : Option Int)]), (88, .tuple #[bp b80 0, errV 42 (none : Option Int)])]), (fun x => match x with | (b80, v81) => [Box b80 [bp b17 0, v81, .slice none 0 0, .slice none 0 0], OwnPt (NW jvF) 105 v81 (G70.map FK.val ++ [FnV.mk 20 [bp b43 0]])]), fun _ => rfl⟩, tS 90 (errV 42 (none : Option Int)), tS 91 (bp b42 0), tS 92 (bp b42 1), ⟨(Nat × Value), [89, 84, 88], (fun x => match x with | (b80, v81) => [(89, bp b80 0), (84, .tuple #[bp b80 0, errV 42 (none : Option Int)]), (88, .tuple #[bp b80 0, errV 42 (none : Option Int)])]), (fun x => match x with | (b80, v81) => [Box b80 [bp b17 0, v81, .slice none 0 0, .slice none 0 0], OwnPt (NW jvF) 105 v81 (G70.map FK.val ++ [FnV.mk 20 [bp b43 0]]), Box b42 [bp b17 0, bp b80 0, .int .i64 (cs.length : Int), bp b41 0]]), fun _ => rfl⟩, tS 5 (errV 42 (none : Option Int))]) (D := [⟨[0, 8], [], [15]⟩, ⟨[1], [], [16]⟩, ⟨[2], [], [17]⟩, ⟨[16, 17, 4], [], [18]⟩, ⟨[], [18], [19, 20]⟩, ⟨[], [19], [21]⟩, ⟨[20], [], [22]⟩, ⟨[15], [], [23]⟩, ⟨[23], [], [24]⟩, ⟨[24], [9, 21], [25]⟩, ⟨[22], [], [26]⟩]) (ini := [0, 1, 2, 3, 4, 5, 6, 7, 8, 9, 10, 11, 12, 13, 14]) (fin := [3, 0, 26, 25, 4, 5, 6, 7, 8, 10, 11, 12, 13, 14]) (bf := [[], [], [], [1, 2], [1, 2, 3], [1, 2, 3, 4], [1, 2, 3, 4], [0, 1, 2, 3, 4, 5], [0, 1, 2, 3, 4, 5, 7], [0, 1, 2, 3, 4, 5, 7, 8], [0, 1, 2, 3, 4, 5, 6, 7, 8, 9]]) (by kernel_rfl) (by kernel_rfl) (fun Q => by kernel_rfl) (fun x w h1 h2 => ⟨(), (), (), (), (), (), (), (), (), (), (), (), (), (), (), EnvAll.of h1 ⟨rfl, rfl, rfl, rfl, rfl, trivial⟩, h2⟩) (fun Q => by kernel_rfl) ⟨?_, ?_, ?_, ?_, ?_, ?_, ?_, ?_, ?_, ?_, ?_, trivial⟩ ?_
  · rintro Fr _ _
    refine SO.load1 rfl Tryz.isAgg28 rfl rfl ?_
    exact SO.nilZ fun a w h1 h2 h3 h4 h5 => PZ.of h1 h3 h5 (.cons () (.cons () (.cons () (.nil ⟨EnvAll.of h2 ⟨rfl, rfl, trivial⟩, h4⟩))))
  · rintro Fr _
    refine SO.v rfl (opv_move rfl) ?_
    exact SO.nilZ fun a w h1 h2 h3 h4 h5 => PZ.of h1 h3 h5 (.cons () (.cons () (.nil ⟨EnvAll.of h2 ⟨rfl, rfl, trivial⟩, h4⟩)))
  · rintro Fr _
    refine SO.v rfl (opv_move rfl) ?_
    exact SO.nilZ fun a w h1 h2 h3 h4 h5 => PZ.of h1 h3 h5 (.cons () (.cons () (.nil ⟨EnvAll.of h2 ⟨rfl, rfl, trivial⟩, h4⟩)))
  · rintro Fr _ _ _
    refine SO.call (pre := []) rfl Tryz.call22 rfl rfl rfl (stm_New.ct k jvF jvF_one (fun _ => false) jvF_not b17 v74 (G70.map FK.val ++ [FnV.mk 20 [bp b43 0]]) (some (G70.map FK.val ++ [FnV.mk 20 [bp b43 0]])) (newAny (G70.map FK.val ++ [FnV.mk 20 [bp b43 0]]) (by have q := of_decide_eq_true (chk_some hc77); have q2 := hG71.1; simp; omega) k (of_decide_eq_true (chk_some hc79)))) (Rd.head hr78) ?_
    rintro _ _ ⟨b80, v81, rfl, rfl⟩
    refine SO.b1 ?_
    refine SO.b1 ?_
    refine SO.b2 ?_
    exact SO.nilZ fun a w h1 h2 h3 h4 h5 => PZ.of h1 h3 h5 (.cons () (.cons () (.cons () (.cons (b80, v81) (.nil ⟨EnvAll.of h2 ⟨rfl, rfl, rfl, trivial⟩, h4⟩)))))
  · rintro Fr ⟨b80, v81⟩
    refine SO.v rfl (opv_move rfl) ?_
    refine SO.b1 ?_
    refine SO.b1 ?_
    exact SO.nilZ fun a w h1 h2 h3 h4 h5 => PZ.of h1 h3 h5 (.cons (b80, v81) (.cons (bp b80 0) (.nil ⟨EnvAll.of h2 ⟨rfl, rfl, rfl, trivial⟩, h4⟩)))
  · rintro Fr ⟨b80, v81⟩
    refine SO.v rfl (opv_extract rfl rfl) ?_
    refine SO.b1 ?_
    refine SO.b1 ?_
    exact SO.nilZ fun a w h1 h2 h3 h4 h5 => PZ.of h1 h3 h5 (.cons (b80, v81) (.nil ⟨EnvAll.of h2 ⟨rfl, rfl, rfl, trivial⟩, h4⟩))
  · rintro Fr xw84
    refine SO.v rfl (opv_extract rfl rfl) ?_
    exact SO.nilZ fun a w h1 h2 h3 h4 h5 => PZ.of h1 h3 h5 (.cons xw84 (.cons () (.nil ⟨EnvAll.of h2 ⟨rfl, rfl, trivial⟩, h4⟩)))
  · rintro Fr _
    refine SO.v rfl (opv_nilCheck rfl) ?_
    exact SO.nilZ fun a w h1 h2 h3 h4 h5 => PZ.of h1 h3 h5 (.cons () (.cons () (.nil ⟨EnvAll.of h2 ⟨rfl, rfl, trivial⟩, h4⟩)))
  · rintro Fr _
    refine SO.v rfl (opv_fieldAddr Tryz.underlying63 rfl Tryz.sizeOf61 rfl rfl) ?_
    exact SO.nilZ fun a w h1 h2 h3 h4 h5 => PZ.of h1 h3 h5 (.cons () (.cons () (.nil ⟨EnvAll.of h2 ⟨rfl, rfl, trivial⟩, h4⟩)))
  · rintro Fr _ _ ⟨b80, v81⟩
    refine SO.store1 Tryz.sizeOf61 rfl rfl rfl rfl ?_
    refine SO.b2 ?_
    refine SO.b2 ?_
    exact SO.nilZ fun a w h1 h2 h3 h4 h5 => PZ.of h1 h3 h5 (.cons () (.cons (b80, v81) (.nil ⟨EnvAll.of h2 ⟨rfl, rfl, rfl, rfl, trivial⟩, h4⟩)))
  · rintro Fr _
    refine SO.v rfl (opv_assign rfl) ?_
    exact SO.nilZ fun a w h1 h2 h3 h4 h5 => PZ.of h1 h3 h5 (.cons () (.cons () (.nil ⟨EnvAll.of h2 ⟨rfl, rfl, trivial⟩, h4⟩)))
  rintro _ _ _ ⟨b80, v81⟩ _ _ _ _ _ _ _ _ _ _
  refine S.to (ρ' := [(2, .pointer none), (3, errV 42 none), (9, bp b43 0), (5, errV 42 (none : Option Int))]) ⟨rfl, rfl, rfl, rfl, trivial⟩ ?_
  refine S.seq ?_
  refine S.region ?_
  refine SO.b7 ?_
  refine SO.load1 rfl Tryz.isAgg28 rfl rfl ?_
  refine SO.v rfl (opv_move rfl) ?_
  refine SO.v rfl (opv_assign rfl) ?_
  refine SO.v rfl (opv_assign rfl) ?_
  refine SO.nil ?_
  cases h
  refine S.b5 ?_
  refine S.b10 ?_
  refine S.b11 ?_
  refine S.b5 ?_
  refine S.b5 ?_
  refine S.b11 ?_
  refine S.b11 ?_
  refine S.b8 ?_
  refine S.packKR (s := ⟨_, _⟩) (rs := []) hG71 ?_
  refine S.b1 ?_
  refine S.drop ?_
  refine S.b1 ?_
  refine S.drop ?_
  refine S.b1 ?_
  refine S.drop ?_
  refine S.b1 ?_
  refine S.drop ?_
  refine S.b1 ?_
  refine S.b1 ?_
  exact S.ret2 Tryz.func6 rfl rfl rfl (fun w hs hk => hR w _ _ ⟨b42, rfl, rfl⟩ hs hk)
end Go.Proofs
namespace Go.Proofs
open Go.Sl Go.RowKit
/-! 8 padstone/padstonelaw00.Code -/
def law00_Code.l1 (a0 : Option Int) : Nat → Int → Option (Brk Int Unit)
  | 0, _ => none
  | k + 1, x3_1 => bif decide (x3_1 ≤ 14) then (bif a0 == some x3_1 then (some (Brk.ret x3_1)) else (law00_Code.l1 a0 k (w64 (x3_1 + 1)))) else (some (Brk.nx ()))
def law00_Code.f (k : Nat) (a0 : Option Int) : Option (Int) :=
  bif a0.isNone then (some 0) else ((law00_Code.l1 a0 k 1).bind fun o1 => Brk.go o1 (fun r => some r) (fun _ => some (-1)))
set_option maxHeartbeats 8000000 in
set_option maxRecDepth 100000 in
theorem law00_Code.ct (k : Nat) (a0 : Option Int) (r0 : Int) (h : law00_Code.f k a0 = some r0) :
    Ct Tryz.prog 8 [errV 42 a0] (fun _ => True) [] (fun u H' => u = .int .i64 r0 ∧ H' = []) := by
  unfold law00_Code.f at h
  refine Ct.intro (n := 15) Tryz.func8 rfl rfl rfl ?_
  intro R w0 F hF hR
  refine S.seq ?_
  refine S.region ?_
  refine SO.v rfl (opv_assign rfl) ?_
  refine SO.nil ?_
  refine S.seq ?_
  refine S.seq ?_
  refine S.region ?_
  refine SO.v rfl (opv_move rfl) ?_
  refine SO.v rfl (opv_eqlN (e := a0) Tryz.underlying31 rfl) ?_
  refine SO.nil ?_
  rcases bool_or a0.isNone with b1 | b1
  · replace h := cond_t b1 h
    refine S.condT rfl b1 ?_
    refine S.seq ?_
    refine S.region ?_
    refine SO.v rfl (opv_assign rfl) ?_
    refine SO.nil ?_
    cases h
    exact S.ret1 Tryz.func8 rfl rfl (fun w hs hk => hR w _ _ ⟨rfl, rfl⟩ hs hk)
  replace h := cond_f b1 h
  refine S.condF rfl b1 ?_
  refine S.skip ?_
  refine S.seq ?_
  refine S.seq ?_
  refine S.region ?_
  refine SO.v rfl (opv_assign rfl) ?_
  refine SO.nil ?_
  obtain ⟨o1, hlp1, h⟩ := opt_bind h
  refine S.to (ρ' := [(3, .int .i64 1), (2, .int .i64 0), (0, errV 42 a0)]) ⟨rfl, rfl, rfl, trivial⟩ ?_
  refine S.forloop (X := Int × Unit) (O := Brk Int Unit) (fun m x => law00_Code.l1 a0 m x.1) (fun x => match x with | (x3_1, _) => [(3, .int .i64 x3_1), (2, .int .i64 0), (0, errV 42 a0)]) (fun x => match x with | (x3_1, _) => [F]) (fun Sk o' => (∀ r', o' = Brk.ret r' → some r' = some r0) ∧ ∀ _ : Unit, ∀ _ : Unit, o' = Brk.nx () → Sk [(2, .int .i64 0)] [F]) (fun _ => rfl) ?_ (m := k) (x := (1, ())) hlp1 ?_
  · clear h hlp1
    intro k x o_1 h hK1 ih1
    obtain ⟨x3_1, _⟩ := x
    replace h : law00_Code.l1 a0 (k + 1) x3_1 = some o_1 := h
    first | rw [law00_Code.l1] at h | unfold law00_Code.l1 at h
    refine S.seq ?_
    refine S.seq ?_
    refine S.region ?_
    refine SO.v rfl (opv_move rfl) ?_
    refine SO.v rfl (opv_leq rfl rfl) ?_
    refine SO.nil ?_
    rcases bool_or (decide (x3_1 ≤ 14)) with b2 | b2
    · replace h := cond_t b2 h
      refine S.condT rfl b2 ?_
      refine S.skip ?_
      refine S.seq ?_
      refine S.block ?_
      refine S.seq ?_
      refine S.region ?_
      refine SO.v rfl (opv_move rfl) ?_
      refine SO.v rfl (opv_move rfl) ?_
      refine SO.v rfl (opv_iface Tryz.underlying42 rfl rfl) ?_
      refine SO.v rfl (opv_eqlE (e := a0) (c := x3_1) Tryz.underlying31 Tryz.underlying42 inf42 rfl rfl rfl) ?_
      refine SO.nil ?_
      rcases bool_or (a0 == some x3_1) with b3 | b3
      · replace h := cond_t b3 h
        refine S.condT rfl b3 ?_
        refine S.seq ?_
        refine S.region ?_
        refine SO.v rfl (opv_move rfl) ?_
        refine SO.v rfl (opv_assign rfl) ?_
        refine SO.nil ?_
        refine S.to (ρ' := [(2, .int .i64 x3_1)]) ⟨rfl, trivial⟩ ?_
        cases h
        replace h := hK1.1 _ rfl
        cases h
        exact S.ret1 Tryz.func8 rfl rfl (fun w hs hk => hR w _ _ ⟨rfl, rfl⟩ hs hk)
      replace h := cond_f b3 h
      refine S.condF rfl b3 ?_
      refine S.skip ?_
      refine S.inBlock ?_
      refine S.region ?_
      refine SO.v rfl (opv_move rfl) ?_
      refine SO.v rfl (opv_add rfl rfl) ?_
      refine SO.v rfl (opv_assign rfl) ?_
      refine SO.nil ?_
      refine S.to (ρ' := [(3, .int .i64 (w64 (x3_1 + 1))), (2, .int .i64 0), (0, errV 42 a0)]) ⟨rfl, rfl, rfl, trivial⟩ ?_
      refine S.to ?_ (ih1 (w64 (x3_1 + 1), ()) h)
      exact ⟨rfl, rfl, rfl, trivial⟩
    replace h := cond_f b2 h
    refine S.condF rfl b2 ?_
    refine S.exit rfl ?_
    cases h
    refine S.to ?_ (hK1.2 () () rfl)
    exact ⟨rfl, trivial⟩
  refine ⟨fun r' e' => ?_, ?_⟩
  · subst e'
    have h9 := Brk.of_ret h
    exact h9
  rintro _ _ e'
  subst e'
  replace h := Brk.of_nx h
  refine S.seq ?_
  refine S.region ?_
  refine SO.v rfl (opv_assign rfl) ?_
  refine SO.nil ?_
  cases h
  exact S.ret1 Tryz.func8 rfl rfl (fun w hs hk => hR w _ _ ⟨rfl, rfl⟩ hs hk)
end Go.Proofs
namespace Go.Proofs
open Go.Sl Go.RowKit
/-! 41 padstone/padstoneref10.Fresh -/
def ref10_Fresh.f (a0 : Int) : Option (ref10_Obj) :=
  some (⟨a0, 0, 0, 0, 0, 0, [], 0, 0, -1, 0, 0, -1, -1, (⟨0, 0, 0, 0, 0, 0⟩ : api_Cap), (⟨-1, -1, -1, -1⟩ : A4), (⟨0, 0, 0, 0⟩ : A4), -1, 0, -1, 0⟩ : ref10_Obj)
set_option maxHeartbeats 8000000 in
set_option maxRecDepth 100000 in
theorem ref10_Fresh.ct (a0 : Int) (r0 : ref10_Obj) (h : ref10_Fresh.f a0 = some r0) :
    Ct Tryz.prog 41 [.int .i64 a0] (fun _ => True) [] (fun u H' => ∃ w_r0_Queue, u = .agg #[.int .i64 r0.Kind, .int .i64 r0.Size, .int .i64 r0.Used, .int .i64 r0.First, .int .i64 r0.Radix, .int .i64 r0.Wait, w_r0_Queue, .int .i64 r0.Word, .int .i64 r0.State, .int .i64 r0.Owing, .int .i64 r0.Badge, .int .i64 r0.Prio, .int .i64 r0.On, .int .i64 r0.Owes, .int .i64 r0.Root.Kind, .int .i64 r0.Root.Rights, .int .i64 r0.Root.Obj, .int .i64 r0.Root.Badge, .int .i64 r0.Root.Guard, .int .i64 r0.Root.Bits, .int .i64 r0.Pages.a0, .int .i64 r0.Pages.a1, .int .i64 r0.Pages.a2, .int .i64 r0.Pages.a3, .int .i64 r0.Right.a0, .int .i64 r0.Right.a1, .int .i64 r0.Right.a2, .int .i64 r0.Right.a3, .int .i64 r0.In, .int .i64 r0.Page, .int .i64 r0.Bound, .int .i64 r0.Mask] ∧ H' = [Own 3 (ekI .i64) w_r0_Queue r0.Queue]) := by
  unfold ref10_Fresh.f at h
  refine Ct.intro (n := 6) Tryz.func41 rfl rfl rfl ?_
  intro R w0 F hF hR
  refine S.seq ?_
  refine S.region ?_
  refine SO.alloc rfl Tryz.zeroValue119 rfl (fun b1 => ?_)
  refine SO.nil ?_
  refine S.seq ?_
  refine S.region ?_
  refine SO.v rfl (opv_move rfl) ?_
  refine SO.v rfl (opv_build (v := .agg #[.int .i64 (-1), .int .i64 (-1), .int .i64 (-1), .int .i64 (-1)]) rfl (by intro w; kernel_rfl)) ?_
  refine SO.v rfl (opv_build (v := .agg #[.int .i64 a0, .int .i64 0, .int .i64 0, .int .i64 0, .int .i64 0, .int .i64 0, .slice none 0 0, .int .i64 0, .int .i64 0, .int .i64 (-1), .int .i64 0, .int .i64 0, .int .i64 (-1), .int .i64 (-1), .int .i64 0, .int .i64 0, .int .i64 0, .int .i64 0, .int .i64 0, .int .i64 0, .int .i64 (-1), .int .i64 (-1), .int .i64 (-1), .int .i64 (-1), .int .i64 0, .int .i64 0, .int .i64 0, .int .i64 0, .int .i64 (-1), .int .i64 0, .int .i64 (-1), .int .i64 0]) rfl (by intro w; kernel_rfl)) ?_
  refine SO.storeN Tryz.sizeOf119 rfl rfl rfl rfl rfl rfl ?_
  refine SO.nil ?_
  cases h
  refine S.newOwn 3 (ekI .i64) ?_
  refine S.b2 ?_
  refine S.b1 ?_
  refine S.b2 ?_
  exact S.retC Tryz.func41 rfl rfl Tryz.isAgg119 Tryz.sizeOf119 rfl rfl (fun w hs hk => hR w _ _ ⟨(.slice none 0 0), rfl, rfl⟩ hs.drop hk)
end Go.Proofs
namespace Go.Proofs
open Go.Sl Go.RowKit
/-! 40 padstone/padstoneref10.New -/
def ref10_New.l1 : Nat → (Int × (List ref10_Slot)) → Option ((List ref10_Slot))
  | 0, _ => none
  | k + 1, (x2_1, y1_0_1) => bif decide (x2_1 < 96) then ((app y1_0_1 ([(⟨(⟨0, 0, 0, 0, 0, 0⟩ : api_Cap), -1, []⟩ : ref10_Slot)])).bind fun zs5 => ref10_New.l1  k (w64 (x2_1 + 1), zs5)) else (some y1_0_1)
def ref10_New.l2 : Nat → (Int × (List ref10_Obj)) → Option ((List ref10_Obj))
  | 0, _ => none
  | k + 1, (x3_2, y1_1_2) => bif decide (x3_2 < 32) then ((ref10_Fresh.f 0).bind fun t18 => (app y1_1_2 ([t18])).bind fun zs25 => ref10_New.l2  k (w64 (x3_2 + 1), zs25)) else (some y1_1_2)
def ref10_New.f (k : Nat) : Option (ref10_State) :=
  (ref10_New.l1 k (0, [])).bind fun y1_0_e1 => (ref10_New.l2 k (0, [])).bind fun y1_1_e2 => some (⟨y1_0_e1, y1_1_e2, 0, 0⟩ : ref10_State)
set_option maxHeartbeats 8000000 in
set_option maxRecDepth 100000 in
theorem ref10_New.ct (k : Nat) (r0 : ref10_State) (h : ref10_New.f k  = some r0) :
    Ct Tryz.prog 40 [] (fun _ => True) [] (fun u H' => ∃ b_r0 w_r0_Slots w_r0_Objs, u = bp b_r0 0 ∧ H' = [Box b_r0 [w_r0_Slots, w_r0_Objs, .int .i64 r0.NS, .int .i64 r0.NO], OwnR 126 kr_ref10_Slot w_r0_Slots r0.Slots, OwnR 119 kr_ref10_Obj w_r0_Objs r0.Objs]) := by
  unfold ref10_New.f at h
  refine Ct.intro (n := 35) Tryz.func40 rfl rfl rfl ?_
  intro R w0 F hF hR
  refine S.seq ?_
  refine S.region ?_
  refine SO.v rfl (opv_assign rfl) ?_
  refine SO.nil ?_
  refine S.seq ?_
  refine S.region ?_
  refine SO.v rfl (opv_build (v := .agg #[.slice none 0 0, .slice none 0 0, .int .i64 0, .int .i64 0]) rfl (by intro w; kernel_rfl)) ?_
  refine SO.box rfl rfl rfl (fun b1 => ?_)
  refine SO.v rfl (opv_assign rfl) ?_
  refine SO.nil ?_
  refine S.seq ?_
  refine S.seq ?_
  refine S.region ?_
  refine SO.v rfl (opv_assign rfl) ?_
  refine SO.nil ?_
  obtain ⟨y1_0_e1, hlp1, h⟩ := opt_bind h
  refine S.newOwnR 126 kr_ref10_Slot ?_
  refine S.b2 ?_
  refine S.b2 ?_
  refine S.b2 ?_
  refine S.to (ρ' := [(2, .int .i64 0), (1, bp b1 0), (0, .pointer none)]) ⟨rfl, rfl, rfl, trivial⟩ ?_
  refine S.forloop (X := (Int × (List ref10_Slot)) × Value) (O := (List ref10_Slot)) (fun m x => ref10_New.l1  m x.1) (fun x => match x with | ((x2_1, y1_0_1), vy1_0_1) => [(2, .int .i64 x2_1), (1, bp b1 0), (0, .pointer none)]) (fun x => match x with | ((x2_1, y1_0_1), vy1_0_1) => [OwnR 126 kr_ref10_Slot vy1_0_1 y1_0_1, Box b1 [vy1_0_1, .slice none 0 0, .int .i64 0, .int .i64 0], F]) (fun Sk => (fun y1_0_e1 => ∀ vy1_0_e1 : Value, Sk [(0, .pointer none), (1, bp b1 0)] [OwnR 126 kr_ref10_Slot vy1_0_e1 y1_0_e1, Box b1 [vy1_0_e1, .slice none 0 0, .int .i64 0, .int .i64 0], F])) (fun _ => rfl) ?_ (m := k) (x := ((0, []), .slice none 0 0)) hlp1 ?_
  · clear h hlp1
    intro k x o_1 h hK1 ih1
    obtain ⟨⟨x2_1, y1_0_1⟩, vy1_0_1⟩ := x
    replace h : ref10_New.l1  (k + 1) (x2_1, y1_0_1) = some o_1 := h
    first | rw [ref10_New.l1] at h | unfold ref10_New.l1 at h
    refine S.seq ?_
    refine S.seq ?_
    refine S.region ?_
    refine SO.v rfl (opv_move rfl) ?_
    refine SO.v rfl (opv_lss rfl rfl) ?_
    refine SO.nil ?_
    rcases bool_or (decide (x2_1 < 96)) with b2 | b2
    · replace h := cond_t b2 h
      refine S.condT rfl b2 ?_
      refine S.skip ?_
      refine S.seq ?_
      refine S.block ?_
      refine S.region ?_
      refine SO.v rfl (opv_move rfl) ?_
      refine SO.v rfl (opv_move rfl) ?_
      refine SO.v rfl (opv_nilCheck rfl) ?_
      refine SO.v rfl (opv_fieldAddr Tryz.underlying124 rfl Tryz.sizeOf121 rfl rfl) ?_
      refine SO.b1 ?_
      refine SO.load1 rfl Tryz.isAgg121 rfl rfl ?_
      refine SO.v rfl (opv_build (v := .agg #[.int .i64 0, .int .i64 0, .int .i64 0, .int .i64 0, .int .i64 0, .int .i64 0, .int .i64 (-1), .slice none 0 0]) rfl (by intro w; kernel_rfl)) ?_
      refine SO.emp ?_
      refine SO.buildSliceR1 (K := kr_ref10_Slot) (y := (⟨(⟨0, 0, 0, 0, 0, 0⟩ : api_Cap), -1, []⟩ : ref10_Slot)) (cs := [.int .i64 0, .int .i64 0, .int .i64 0, .int .i64 0, .int .i64 0, .int .i64 0, .int .i64 (-1), .slice none 0 0]) rfl Tryz.underlying121 Tryz.sizeOf126 Tryz.zeroValue126 rfl rfl (by kernel_rfl) ⟨rfl, rfl, rfl, rfl, rfl, rfl, rfl, Rd.nil0, trivial⟩ (fun v3 => ?_)
      obtain ⟨zs5, hz6, h⟩ := opt_bind h
      refine SO.b2 ?_
      refine SO.b1 ?_
      refine SO.b1 ?_
      refine SO.appendR rfl Tryz.underlying121 inf126 rfl rfl rfl (by decide) rfl rfl rfl hz6 (fun v7 => ?_)
      refine SO.v rfl (opv_nilCheck rfl) ?_
      refine SO.v rfl (opv_fieldAddr Tryz.underlying124 rfl Tryz.sizeOf121 rfl rfl) ?_
      refine SO.oneR fun h18 => ?_
      refine SO.b1 ?_
      refine SO.store1 Tryz.sizeOf121 rfl rfl h18 rfl ?_
      refine SO.nil ?_
      refine S.to (ρ' := [(2, .int .i64 x2_1), (1, bp b1 0), (0, .pointer none)]) ⟨rfl, rfl, rfl, trivial⟩ ?_
      refine S.inBlock ?_
      refine S.region ?_
      refine SO.v rfl (opv_move rfl) ?_
      refine SO.v rfl (opv_add rfl rfl) ?_
      refine SO.v rfl (opv_assign rfl) ?_
      refine SO.nil ?_
      refine S.b2 ?_
      refine S.b1 ?_
      refine S.b2 ?_
      refine S.to ?_ (ih1 ((w64 (x2_1 + 1), zs5), v7) h)
      exact ⟨rfl, rfl, rfl, trivial⟩
    replace h := cond_f b2 h
    refine S.condF rfl b2 ?_
    refine S.exit rfl ?_
    cases h
    refine S.b2 ?_
    refine S.b2 ?_
    refine S.b2 ?_
    refine S.to ?_ (hK1 vy1_0_1)
    exact ⟨rfl, rfl, trivial⟩
  rintro vy1_0_e1
  refine S.seq ?_
  refine S.seq ?_
  refine S.region ?_
  refine SO.v rfl (opv_assign rfl) ?_
  refine SO.nil ?_
  obtain ⟨y1_1_e2, hlp2, h⟩ := opt_bind h
  refine S.newOwnR 119 kr_ref10_Obj ?_
  refine S.b3 ?_
  refine S.b3 ?_
  refine S.b3 ?_
  refine S.b3 ?_
  refine S.to (ρ' := [(3, .int .i64 0), (0, .pointer none), (1, bp b1 0)]) ⟨rfl, rfl, rfl, trivial⟩ ?_
  refine S.forloop (X := (Int × (List ref10_Obj)) × Value) (O := (List ref10_Obj)) (fun m x => ref10_New.l2  m x.1) (fun x => match x with | ((x3_2, y1_1_2), vy1_1_2) => [(3, .int .i64 x3_2), (0, .pointer none), (1, bp b1 0)]) (fun x => match x with | ((x3_2, y1_1_2), vy1_1_2) => [OwnR 119 kr_ref10_Obj vy1_1_2 y1_1_2, OwnR 126 kr_ref10_Slot vy1_0_e1 y1_0_e1, Box b1 [vy1_0_e1, vy1_1_2, .int .i64 0, .int .i64 0], F]) (fun Sk => (fun y1_1_e2 => ∀ vy1_1_e2 : Value, Sk [(0, .pointer none), (1, bp b1 0)] [OwnR 119 kr_ref10_Obj vy1_1_e2 y1_1_e2, OwnR 126 kr_ref10_Slot vy1_0_e1 y1_0_e1, Box b1 [vy1_0_e1, vy1_1_e2, .int .i64 0, .int .i64 0], F])) (fun _ => rfl) ?_ (m := k) (x := ((0, []), .slice none 0 0)) hlp2 ?_
  · clear h hlp2
    intro k x o_2 h hK2 ih2
    obtain ⟨⟨x3_2, y1_1_2⟩, vy1_1_2⟩ := x
    replace h : ref10_New.l2  (k + 1) (x3_2, y1_1_2) = some o_2 := h
    first | rw [ref10_New.l2] at h | unfold ref10_New.l2 at h
    refine S.seq ?_
    refine S.seq ?_
    refine S.region ?_
    refine SO.v rfl (opv_move rfl) ?_
    refine SO.v rfl (opv_lss rfl rfl) ?_
    refine SO.nil ?_
    rcases bool_or (decide (x3_2 < 32)) with b9 | b9
    · replace h := cond_t b9 h
      refine S.condT rfl b9 ?_
      refine S.skip ?_
      refine S.seq ?_
      refine S.block ?_
      refine S.openR fun raws10 A11 hrel12 hR13 => ?_
      refine S.b1 ?_
      refine S.openR fun raws14 A15 hrel16 hR17 => ?_
      obtain ⟨t18, ht19, h⟩ := opt_bind h
      obtain ⟨zs25, hz26, h⟩ := opt_bind h
      refine S.draw2 (Y := fun Q => ∃ (_ _ _ _ _ _ : Unit), Q [(1, bp b1 0), (3, .int .i64 x3_2), (0, .pointer none)] [OwnO 126 kr_ref10_Slot vy1_0_e1 raws14 A15 y1_0_e1, OwnO 119 kr_ref10_Obj vy1_1_2 raws10 A11 y1_1_2, Box b1 [vy1_0_e1, vy1_1_2, .int .i64 0, .int .i64 0], F]) (Z := fun Q => ∀ (_ _ : Unit) (v27 : Value) (_ _ : Unit), Q [(3, .int .i64 x3_2), (0, .pointer none), (1, bp b1 0), (31, v27)] [OwnR 119 kr_ref10_Obj v27 zs25, Box b1 [vy1_0_e1, v27, .int .i64 0, .int .i64 0], OwnO 126 kr_ref10_Slot vy1_0_e1 raws14 A15 y1_0_e1, F]) (T := [tS 1 (bp b1 0), tE [(3, .int .i64 x3_2), (0, .pointer none)], tR (OwnO 126 kr_ref10_Slot vy1_0_e1 raws14 A15 y1_0_e1), tR (OwnO 119 kr_ref10_Obj vy1_1_2 raws10 A11 y1_1_2), tR (Box b1 [vy1_0_e1, vy1_1_2, .int .i64 0, .int .i64 0]), tR (F), tS 24 (bp b1 0), tS 25 (bp b1 0), tS 26 (bp b1 0), tS 27 (bp b1 1), tS 28 (vy1_1_2), ⟨Value, [29], (fun u20_Queue => [(29, .agg #[.int .i64 t18.Kind, .int .i64 t18.Size, .int .i64 t18.Used, .int .i64 t18.First, .int .i64 t18.Radix, .int .i64 t18.Wait, u20_Queue, .int .i64 t18.Word, .int .i64 t18.State, .int .i64 t18.Owing, .int .i64 t18.Badge, .int .i64 t18.Prio, .int .i64 t18.On, .int .i64 t18.Owes, .int .i64 t18.Root.Kind, .int .i64 t18.Root.Rights, .int .i64 t18.Root.Obj, .int .i64 t18.Root.Badge, .int .i64 t18.Root.Guard, .int .i64 t18.Root.Bits, .int .i64 t18.Pages.a0, .int .i64 t18.Pages.a1, .int .i64 t18.Pages.a2, .int .i64 t18.Pages.a3, .int .i64 t18.Right.a0, .int .i64 t18.Right.a1, .int .i64 t18.Right.a2, .int .i64 t18.Right.a3, .int .i64 t18.In, .int .i64 t18.Page, .int .i64 t18.Bound, .int .i64 t18.Mask])]), (fun u20_Queue => [Own 3 (ekI .i64) u20_Queue t18.Queue]), fun _ => rfl⟩, ⟨Value, [30], (fun v23 => [(30, v23)]), (fun v23 => [OwnR 119 kr_ref10_Obj v23 ([t18])]), fun _ => rfl⟩, ⟨Value, [31], (fun v27 => [(31, v27)]), (fun v27 => [OwnR 119 kr_ref10_Obj v27 zs25]), fun _ => rfl⟩, tS 32 (bp b1 0), tS 33 (bp b1 1), ⟨Value, [31], (fun v27 => [(31, v27)]), (fun v27 => [OwnR 119 kr_ref10_Obj v27 zs25, Box b1 [vy1_0_e1, v27, .int .i64 0, .int .i64 0]]), fun _ => rfl⟩]) (D := [⟨[0], [], [6]⟩, ⟨[0], [], [7]⟩, ⟨[7], [], [8]⟩, ⟨[8], [], [9]⟩, ⟨[9, 4], [], [10]⟩, ⟨[], [], [11]⟩, ⟨[], [11], [12]⟩, ⟨[10], [12, 3], [13]⟩, ⟨[6], [], [14]⟩, ⟨[14], [], [15]⟩, ⟨[15], [4, 13], [16]⟩]) (ini := [0, 1, 2, 3, 4, 5]) (fin := [1, 0, 16, 2, 5]) (bf := [[], [], [1], [1, 2], [1, 2, 3], [], [5], [1, 2, 3, 4, 5, 6], [0, 1, 2, 3, 4, 5, 6, 7], [0, 1, 2, 3, 4, 5, 6, 7, 8], [0, 1, 2, 3, 4, 5, 6, 7, 8, 9]]) (by kernel_rfl) (by kernel_rfl) (fun Q => by kernel_rfl) (fun x w h1 h2 => ⟨(), (), (), (), (), (), EnvAll.of h1 ⟨rfl, rfl, rfl, trivial⟩, h2⟩) (fun Q => by kernel_rfl) ⟨?_, ?_, ?_, ?_, ?_, ?_, ?_, ?_, ?_, ?_, ?_, trivial⟩ ?_
      · rintro Fr _
        refine SO.v rfl (opv_move rfl) ?_
        exact SO.nilZ fun a w h1 h2 h3 h4 h5 => PZ.of h1 h3 h5 (.cons () (.cons () (.nil ⟨EnvAll.of h2 ⟨rfl, rfl, trivial⟩, h4⟩)))
      · rintro Fr _
        refine SO.v rfl (opv_move rfl) ?_
        exact SO.nilZ fun a w h1 h2 h3 h4 h5 => PZ.of h1 h3 h5 (.cons () (.cons () (.nil ⟨EnvAll.of h2 ⟨rfl, rfl, trivial⟩, h4⟩)))
      · rintro Fr _
        refine SO.v rfl (opv_nilCheck rfl) ?_
        exact SO.nilZ fun a w h1 h2 h3 h4 h5 => PZ.of h1 h3 h5 (.cons () (.cons () (.nil ⟨EnvAll.of h2 ⟨rfl, rfl, trivial⟩, h4⟩)))
      · rintro Fr _
        refine SO.v rfl (opv_fieldAddr Tryz.underlying124 rfl Tryz.sizeOf122 rfl rfl) ?_
        exact SO.nilZ fun a w h1 h2 h3 h4 h5 => PZ.of h1 h3 h5 (.cons () (.cons () (.nil ⟨EnvAll.of h2 ⟨rfl, rfl, trivial⟩, h4⟩)))
      · rintro Fr _ _
        refine SO.load1 rfl Tryz.isAgg122 rfl rfl ?_
        exact SO.nilZ fun a w h1 h2 h3 h4 h5 => PZ.of h1 h3 h5 (.cons () (.cons () (.cons () (.nil ⟨EnvAll.of h2 ⟨rfl, rfl, trivial⟩, h4⟩))))
      · rintro Fr 
        refine SO.call (pre := []) rfl Tryz.call41 rfl rfl rfl (ref10_Fresh.ct _ _ ht19) trivial ?_
        rintro _ _ ⟨u20_Queue, rfl, rfl⟩
        refine SO.rd fun hr21 => ?_
        exact SO.nilZ fun a w h1 h2 h3 h4 h5 => PZ.of h1 h3 h5 (.cons u20_Queue (.nil ⟨EnvAll.of h2 ⟨rfl, trivial⟩, h4⟩))
      · rintro Fr u20_Queue
        refine SO.rd fun hr22 => ?_
        refine SO.buildSliceR1 (K := kr_ref10_Obj) (y := t18) (cs := [.int .i64 t18.Kind, .int .i64 t18.Size, .int .i64 t18.Used, .int .i64 t18.First, .int .i64 t18.Radix, .int .i64 t18.Wait, u20_Queue, .int .i64 t18.Word, .int .i64 t18.State, .int .i64 t18.Owing, .int .i64 t18.Badge, .int .i64 t18.Prio, .int .i64 t18.On, .int .i64 t18.Owes, .int .i64 t18.Root.Kind, .int .i64 t18.Root.Rights, .int .i64 t18.Root.Obj, .int .i64 t18.Root.Badge, .int .i64 t18.Root.Guard, .int .i64 t18.Root.Bits, .int .i64 t18.Pages.a0, .int .i64 t18.Pages.a1, .int .i64 t18.Pages.a2, .int .i64 t18.Pages.a3, .int .i64 t18.Right.a0, .int .i64 t18.Right.a1, .int .i64 t18.Right.a2, .int .i64 t18.Right.a3, .int .i64 t18.In, .int .i64 t18.Page, .int .i64 t18.Bound, .int .i64 t18.Mask]) rfl Tryz.underlying122 Tryz.sizeOf119 Tryz.zeroValue119 rfl rfl (by kernel_rfl) ⟨rfl, rfl, rfl, rfl, rfl, rfl, hr22, rfl, rfl, rfl, rfl, rfl, rfl, rfl, rfl, rfl, rfl, rfl, rfl, rfl, rfl, rfl, rfl, rfl, rfl, rfl, rfl, rfl, rfl, rfl, rfl, rfl, trivial⟩ (fun v23 => ?_)
        exact SO.nilZ fun a w h1 h2 h3 h4 h5 => PZ.of h1 h3 h5 (.cons v23 (.nil ⟨EnvAll.of h2 ⟨rfl, trivial⟩, h4⟩))
      · rintro Fr _ v23 _
        refine SO.b1 ?_
        refine SO.closeR ?_
        refine SO.b1 ?_
        refine SO.b1 ?_
        refine SO.appendR rfl Tryz.underlying122 inf119 rfl rfl rfl (by decide) rfl rfl rfl hz26 (fun v27 => ?_)
        exact SO.nilZ fun a w h1 h2 h3 h4 h5 => PZ.of h1 h3 h5 (.cons () (.cons v27 (.nil ⟨EnvAll.of h2 ⟨rfl, rfl, trivial⟩, h4⟩)))
      · rintro Fr _
        refine SO.v rfl (opv_nilCheck rfl) ?_
        exact SO.nilZ fun a w h1 h2 h3 h4 h5 => PZ.of h1 h3 h5 (.cons () (.cons () (.nil ⟨EnvAll.of h2 ⟨rfl, rfl, trivial⟩, h4⟩)))
      · rintro Fr _
        refine SO.v rfl (opv_fieldAddr Tryz.underlying124 rfl Tryz.sizeOf122 rfl rfl) ?_
        exact SO.nilZ fun a w h1 h2 h3 h4 h5 => PZ.of h1 h3 h5 (.cons () (.cons () (.nil ⟨EnvAll.of h2 ⟨rfl, rfl, trivial⟩, h4⟩)))
      · rintro Fr _ _ v27
        refine SO.b1 ?_
        refine SO.oneR fun h128 => ?_
        refine SO.b1 ?_
        refine SO.store1 Tryz.sizeOf122 rfl rfl h128 rfl ?_
        refine SO.b1 ?_
        exact SO.nilZ fun a w h1 h2 h3 h4 h5 => PZ.of h1 h3 h5 (.cons () (.cons v27 (.nil ⟨EnvAll.of h2 ⟨rfl, rfl, trivial⟩, h4⟩)))
      rintro _ _ v27 _ _
      refine S.to (ρ' := [(3, .int .i64 x3_2), (0, .pointer none), (1, bp b1 0)]) ⟨rfl, rfl, rfl, trivial⟩ ?_
      refine S.inBlock ?_
      refine S.region ?_
      refine SO.v rfl (opv_move rfl) ?_
      refine SO.v rfl (opv_add rfl rfl) ?_
      refine SO.v rfl (opv_assign rfl) ?_
      refine SO.nil ?_
      refine S.b2 ?_
      refine S.closeR ?_
      refine S.b3 ?_
      refine S.b3 ?_
      refine S.b2 ?_
      refine S.b3 ?_
      refine S.to ?_ (ih2 ((w64 (x3_2 + 1), zs25), v27) h)
      exact ⟨rfl, rfl, rfl, trivial⟩
    replace h := cond_f b9 h
    refine S.condF rfl b9 ?_
    refine S.exit rfl ?_
    cases h
    refine S.b3 ?_
    refine S.b3 ?_
    refine S.b3 ?_
    refine S.b3 ?_
    refine S.to ?_ (hK2 vy1_1_2)
    exact ⟨rfl, rfl, trivial⟩
  rintro vy1_1_e2
  refine S.seq ?_
  refine S.region ?_
  refine SO.v rfl (opv_move rfl) ?_
  refine SO.v rfl (opv_assign rfl) ?_
  refine SO.nil ?_
  cases h
  refine S.b3 ?_
  refine S.b1 ?_
  refine S.b2 ?_
  refine S.b3 ?_
  exact S.ret1 Tryz.func40 rfl rfl (fun w hs hk => hR w _ _ ⟨b1, vy1_0_e1, vy1_1_e2, rfl, rfl⟩ hs hk)
end Go.Proofs
namespace Go.Proofs
open Go.Sl Go.RowKit
/-! 26 padstone/padstoneref10.Boot -/
def ref10_Boot.l1 (a0 : Int) : Nat → (Int × (List ref10_Obj) × (List ref10_Slot)) → Option (((List ref10_Slot) × (List ref10_Obj)))
  | 0, _ => none
  | k + 1, (x6_1, qu4_Objs_1, qu4_Slots_1) => bif decide (x6_1 < a0) then ((ref10_Fresh.f 5).bind fun t9 => (at_ qu4_Objs_1 x6_1).bind fun x18 => (at_ qu4_Slots_1 (w64 (14 + x6_1))).bind fun x31 => ref10_Boot.l1 a0 k (w64 (x6_1 + 1), qu4_Objs_1.set x6_1.toNat ({ t9 with State := 1, Root := (⟨2, 7, a0, 0, 0, 8⟩ : api_Cap) } : ref10_Obj), qu4_Slots_1.set (w64 (14 + x6_1)).toNat ({ x31 with Cap := (⟨5, 7, x6_1, 0, 0, 0⟩ : api_Cap) } : ref10_Slot))) else (some (qu4_Slots_1, qu4_Objs_1))
def ref10_Boot.l2 (a0 : Int) : Nat → (Int × (List ref10_Obj) × (List ref10_Slot)) → Option (((List ref10_Slot) × (List ref10_Obj)))
  | 0, _ => none
  | k + 1, (x8_2, qu4_Objs_2, qu4_Slots_2) => bif decide (x8_2 < 8) then ((at_ ([2, 2, 1, 3, 4, 8, 7, 6]) x8_2).bind fun x52 => (ref10_Fresh.f x52).bind fun t54 => (at_ qu4_Objs_2 (w64 (a0 + x8_2))).bind fun x58 => bif decide (2 ≤ x8_2) then ((at_ ([2, 2, 1, 3, 4, 8, 7, 6]) x8_2).bind fun x73 => (at_ qu4_Slots_2 (w64 (6 + x8_2))).bind fun x75 => ref10_Boot.l2 a0 k (w64 (x8_2 + 1), qu4_Objs_2.set (w64 (a0 + x8_2)).toNat t54, qu4_Slots_2.set (w64 (6 + x8_2)).toNat ({ x75 with Cap := (⟨x73, 7, w64 (a0 + x8_2), 0, 0, 0⟩ : api_Cap) } : ref10_Slot))) else (ref10_Boot.l2 a0 k (w64 (x8_2 + 1), qu4_Objs_2.set (w64 (a0 + x8_2)).toNat t54, qu4_Slots_2))) else (some (qu4_Slots_2, qu4_Objs_2))
def ref10_Boot.f (k : Nat) (a0 : Int) : Option (ref10_State) :=
  (ref10_New.f k ).bind fun t1 => (ref10_Boot.l1 a0 k (0, t1.Objs, t1.Slots)).bind fun (qu4_Slots_e1, qu4_Objs_e1) => (ref10_Boot.l2 a0 k (0, qu4_Objs_e1, qu4_Slots_e1)).bind fun (qu4_Slots_e2, qu4_Objs_e2) => (at_ qu4_Objs_e2 a0).bind fun x83 => (at_ (qu4_Objs_e2.set a0.toNat ({ x83 with Radix := 3 } : ref10_Obj)) (w64 (a0 + 1))).bind fun x95 => (at_ ((qu4_Objs_e2.set a0.toNat ({ x83 with Radix := 3 } : ref10_Obj)).set (w64 (a0 + 1)).toNat ({ x95 with First := 8 } : ref10_Obj)) (w64 (a0 + 1))).bind fun x103 => (at_ (((qu4_Objs_e2.set a0.toNat ({ x83 with Radix := 3 } : ref10_Obj)).set (w64 (a0 + 1)).toNat ({ x95 with First := 8 } : ref10_Obj)).set (w64 (a0 + 1)).toNat ({ x103 with Radix := 5 } : ref10_Obj)) (w64 (a0 + 2))).bind fun x111 => (at_ qu4_Slots_e2 0).bind fun x119 => (at_ (qu4_Slots_e2.set (0 : Int).toNat ({ x119 with Cap := (⟨2, 7, w64 (a0 + 1), 0, 0, 0⟩ : api_Cap) } : ref10_Slot)) 1).bind fun x131 => some (⟨(qu4_Slots_e2.set (0 : Int).toNat ({ x119 with Cap := (⟨2, 7, w64 (a0 + 1), 0, 0, 0⟩ : api_Cap) } : ref10_Slot)).set (1 : Int).toNat ({ x131 with Cap := (⟨2, 7, a0, 0, 0, 8⟩ : api_Cap) } : ref10_Slot), (((qu4_Objs_e2.set a0.toNat ({ x83 with Radix := 3 } : ref10_Obj)).set (w64 (a0 + 1)).toNat ({ x95 with First := 8 } : ref10_Obj)).set (w64 (a0 + 1)).toNat ({ x103 with Radix := 5 } : ref10_Obj)).set (w64 (a0 + 2)).toNat ({ x111 with Size := 200 } : ref10_Obj), 40, w64 (a0 + 8)⟩ : ref10_State)
set_option maxHeartbeats 8000000 in
set_option maxRecDepth 100000 in
theorem ref10_Boot.ct (k : Nat) (a0 : Int) (r0 : ref10_State) (h : ref10_Boot.f k a0 = some r0) :
    Ct Tryz.prog 26 [.int .i64 a0] (fun _ => True) [] (fun u H' => ∃ b_r0 w_r0_Slots w_r0_Objs, u = bp b_r0 0 ∧ H' = [Box b_r0 [w_r0_Slots, w_r0_Objs, .int .i64 r0.NS, .int .i64 r0.NO], OwnR 126 kr_ref10_Slot w_r0_Slots r0.Slots, OwnR 119 kr_ref10_Obj w_r0_Objs r0.Objs]) := by
  unfold ref10_Boot.f at h
  refine Ct.intro (n := 130) Tryz.func26 rfl rfl rfl ?_
  intro R w0 F hF hR
  refine S.seq ?_
  refine S.region ?_
  refine SO.v rfl (opv_assign rfl) ?_
  refine SO.nil ?_
  refine S.seq ?_
  refine S.region ?_
  obtain ⟨t1, ht2, h⟩ := opt_bind h
  refine SO.call (pre := []) rfl Tryz.call40 rfl rfl rfl (ref10_New.ct _ _ ht2) trivial ?_
  rintro _ _ ⟨b3, u4_Slots, u4_Objs, rfl, rfl⟩
  refine SO.v rfl (opv_assign rfl) ?_
  refine SO.nil ?_
  refine S.seq ?_
  refine S.region ?_
  refine SO.v rfl (opv_move rfl) ?_
  refine SO.v rfl (opv_build (v := .agg #[.int .i64 2, .int .i64 7, .int .i64 a0, .int .i64 0, .int .i64 0, .int .i64 8]) rfl (by intro w; kernel_rfl)) ?_
  refine SO.alloc rfl Tryz.zeroValue116 rfl (fun b5 => ?_)
  refine SO.storeN Tryz.sizeOf116 rfl rfl rfl rfl rfl rfl ?_
  refine SO.nil ?_
  refine S.seq ?_
  refine S.region ?_
  refine SO.buildSlice (K := ekI .i64) (xs := [2, 2, 1, 3, 4, 8, 7, 6]) (cs := [.int .i64 2, .int .i64 2, .int .i64 1, .int .i64 3, .int .i64 4, .int .i64 8, .int .i64 7, .int .i64 6]) rfl Tryz.underlying29 Tryz.sizeOf3 Tryz.zeroValue3 rfl rfl rfl (by kernel_rfl) rfl rfl rfl (fun v6 hr7 => ?_)
  refine SO.v rfl (opv_assign rfl) ?_
  refine SO.nil ?_
  refine S.seq ?_
  refine S.seq ?_
  refine S.region ?_
  refine SO.v rfl (opv_assign rfl) ?_
  refine SO.nil ?_
  obtain ⟨⟨qu4_Slots_e1, qu4_Objs_e1⟩, hlp1, h⟩ := opt_bind h
  refine S.b5 ?_
  refine S.b5 ?_
  refine S.b5 ?_
  refine S.b5 ?_
  refine S.b5 ?_
  refine S.b5 ?_
  refine S.to (ρ' := [(6, .int .i64 0), (5, v6), (4, bp b5 0), (3, bp b3 0), (2, .pointer none), (0, .int .i64 a0)]) ⟨rfl, rfl, rfl, rfl, rfl, rfl, trivial⟩ ?_
  refine S.forloop (X := (Int × (List ref10_Obj) × (List ref10_Slot)) × Unit) (O := ((List ref10_Slot) × (List ref10_Obj))) (fun m x => ref10_Boot.l1 a0 m x.1) (fun x => match x with | ((x6_1, qu4_Objs_1, qu4_Slots_1), _) => [(6, .int .i64 x6_1), (5, v6), (4, bp b5 0), (3, bp b3 0), (2, .pointer none), (0, .int .i64 a0)]) (fun x => match x with | ((x6_1, qu4_Objs_1, qu4_Slots_1), _) => [Own 3 (ekI .i64) v6 ([2, 2, 1, 3, 4, 8, 7, 6]), Box b5 [.int .i64 2, .int .i64 7, .int .i64 a0, .int .i64 0, .int .i64 0, .int .i64 8], Box b3 [u4_Slots, u4_Objs, .int .i64 t1.NS, .int .i64 t1.NO], OwnR 126 kr_ref10_Slot u4_Slots qu4_Slots_1, OwnR 119 kr_ref10_Obj u4_Objs qu4_Objs_1, F]) (fun Sk => (fun x => match x with | (qu4_Slots_e1, qu4_Objs_e1) => ∀ _ : Unit, Sk [(0, .int .i64 a0), (2, .pointer none), (3, bp b3 0), (4, bp b5 0), (5, v6)] [Own 3 (ekI .i64) v6 ([2, 2, 1, 3, 4, 8, 7, 6]), Box b5 [.int .i64 2, .int .i64 7, .int .i64 a0, .int .i64 0, .int .i64 0, .int .i64 8], Box b3 [u4_Slots, u4_Objs, .int .i64 t1.NS, .int .i64 t1.NO], OwnR 126 kr_ref10_Slot u4_Slots qu4_Slots_e1, OwnR 119 kr_ref10_Obj u4_Objs qu4_Objs_e1, F])) (fun _ => rfl) ?_ (m := k) (x := ((0, t1.Objs, t1.Slots), ())) hlp1 ?_
  · clear h hlp1
    intro k x o_1 h hK1 ih1
    obtain ⟨⟨x6_1, qu4_Objs_1, qu4_Slots_1⟩, _⟩ := x
    replace h : ref10_Boot.l1 a0 (k + 1) (x6_1, qu4_Objs_1, qu4_Slots_1) = some o_1 := h
    first | rw [ref10_Boot.l1] at h | unfold ref10_Boot.l1 at h
    refine S.seq ?_
    refine S.seq ?_
    refine S.region ?_
    refine SO.v rfl (opv_move rfl) ?_
    refine SO.v rfl (opv_move rfl) ?_
    refine SO.v rfl (opv_lss rfl rfl) ?_
    refine SO.nil ?_
    rcases bool_or (decide (x6_1 < a0)) with b8 | b8
    · replace h := cond_t b8 h
      refine S.condT rfl b8 ?_
      refine S.skip ?_
      refine S.seq ?_
      refine S.block ?_
      refine S.seq ?_
      refine S.region ?_
      obtain ⟨t9, ht10, h⟩ := opt_bind h
      refine SO.call (pre := []) rfl Tryz.call41 rfl rfl rfl (ref10_Fresh.ct _ _ ht10) trivial ?_
      rintro _ _ ⟨u11_Queue, rfl, rfl⟩
      refine SO.rd fun hr12 => ?_
      refine SO.alloc rfl Tryz.zeroValue119 rfl (fun b13 => ?_)
      refine SO.storeN Tryz.sizeOf119 rfl rfl (all1 rfl (all1 rfl (all1 rfl (all1 rfl (all1 rfl (all1 rfl (all1 (Rd.one hr12) (all1 rfl (all1 rfl (all1 rfl (all1 rfl (all1 rfl (all1 rfl (all1 rfl (all1 rfl (all1 rfl (all1 rfl (all1 rfl (all1 rfl (all1 rfl (all1 rfl (all1 rfl (all1 rfl (all1 rfl (all1 rfl (all1 rfl (all1 rfl (all1 rfl (all1 rfl (all1 rfl (all1 rfl (all1 rfl rfl)))))))))))))))))))))))))))))))) rfl rfl rfl ?_
      refine SO.nil ?_
      refine S.seq ?_
      refine S.region ?_
      refine SO.v rfl (opv_fieldAddr Tryz.underlying119 rfl Tryz.sizeOf3 rfl rfl) ?_
      refine SO.store1 Tryz.sizeOf3 rfl rfl rfl rfl ?_
      refine SO.nil ?_
      refine S.seq ?_
      refine S.region ?_
      refine SO.b3 ?_
      refine SO.loadN rfl Tryz.isAgg116 Tryz.sizeOf116 rfl rfl rfl ?_
      refine SO.v rfl (opv_fieldAddr Tryz.underlying119 rfl Tryz.sizeOf116 rfl rfl) ?_
      refine SO.b1 ?_
      refine SO.storeN Tryz.sizeOf116 rfl rfl rfl rfl rfl rfl ?_
      refine SO.nil ?_
      refine S.to (ρ' := [(6, .int .i64 x6_1), (5, v6), (4, bp b5 0), (3, bp b3 0), (2, .pointer none), (0, .int .i64 a0), (7, bp b13 0)]) ⟨rfl, rfl, rfl, rfl, rfl, rfl, rfl, trivial⟩ ?_
      refine S.seq ?_
      refine S.b6 ?_
      refine S.openR fun raws14 A15 hrel16 hR17 => ?_
      obtain ⟨x18, hx19, h⟩ := opt_bind h
      obtain ⟨r20, hr21, hc22⟩ := relR.at hrel16 hx19
      refine S.draw2 (Y := fun Q => ∃ (_ _ _ _ _ _ _ _ _ _ _ _ : Unit), Q [(3, bp b3 0), (6, .int .i64 x6_1), (7, bp b13 0), (5, v6), (4, bp b5 0), (2, .pointer none), (0, .int .i64 a0)] [OwnO 119 kr_ref10_Obj u4_Objs raws14 A15 qu4_Objs_1, Box b13 [.int .i64 t9.Kind, .int .i64 t9.Size, .int .i64 t9.Used, .int .i64 t9.First, .int .i64 t9.Radix, .int .i64 t9.Wait, u11_Queue, .int .i64 t9.Word, .int .i64 1, .int .i64 t9.Owing, .int .i64 t9.Badge, .int .i64 t9.Prio, .int .i64 t9.On, .int .i64 t9.Owes, .int .i64 2, .int .i64 7, .int .i64 a0, .int .i64 0, .int .i64 0, .int .i64 8, .int .i64 t9.Pages.a0, .int .i64 t9.Pages.a1, .int .i64 t9.Pages.a2, .int .i64 t9.Pages.a3, .int .i64 t9.Right.a0, .int .i64 t9.Right.a1, .int .i64 t9.Right.a2, .int .i64 t9.Right.a3, .int .i64 t9.In, .int .i64 t9.Page, .int .i64 t9.Bound, .int .i64 t9.Mask], Box b5 [.int .i64 2, .int .i64 7, .int .i64 a0, .int .i64 0, .int .i64 0, .int .i64 8], Own 3 (ekI .i64) u11_Queue t9.Queue, Own 3 (ekI .i64) v6 ([2, 2, 1, 3, 4, 8, 7, 6]), Box b3 [u4_Slots, u4_Objs, .int .i64 t1.NS, .int .i64 t1.NO], OwnR 126 kr_ref10_Slot u4_Slots qu4_Slots_1, F]) (Z := fun Q => ∀ (_ _ _ _ _ _ _ _ _ _ : Unit), Q [(6, .int .i64 x6_1), (5, v6), (4, bp b5 0), (2, .pointer none), (0, .int .i64 a0), (3, bp b3 0)] [OwnR 119 kr_ref10_Obj u4_Objs (qu4_Objs_1.set x6_1.toNat ({ t9 with State := 1, Root := (⟨2, 7, a0, 0, 0, 8⟩ : api_Cap) } : ref10_Obj)), Box b13 [.int .i64 t9.Kind, .int .i64 t9.Size, .int .i64 t9.Used, .int .i64 t9.First, .int .i64 t9.Radix, .int .i64 t9.Wait, u11_Queue, .int .i64 t9.Word, .int .i64 1, .int .i64 t9.Owing, .int .i64 t9.Badge, .int .i64 t9.Prio, .int .i64 t9.On, .int .i64 t9.Owes, .int .i64 2, .int .i64 7, .int .i64 a0, .int .i64 0, .int .i64 0, .int .i64 8, .int .i64 t9.Pages.a0, .int .i64 t9.Pages.a1, .int .i64 t9.Pages.a2, .int .i64 t9.Pages.a3, .int .i64 t9.Right.a0, .int .i64 t9.Right.a1, .int .i64 t9.Right.a2, .int .i64 t9.Right.a3, .int .i64 t9.In, .int .i64 t9.Page, .int .i64 t9.Bound, .int .i64 t9.Mask], Box b5 [.int .i64 2, .int .i64 7, .int .i64 a0, .int .i64 0, .int .i64 0, .int .i64 8], Own 3 (ekI .i64) v6 ([2, 2, 1, 3, 4, 8, 7, 6]), Box b3 [u4_Slots, u4_Objs, .int .i64 t1.NS, .int .i64 t1.NO], OwnR 126 kr_ref10_Slot u4_Slots qu4_Slots_1, F]) (T := [tS 3 (bp b3 0), tS 6 (.int .i64 x6_1), tS 7 (bp b13 0), tE [(5, v6), (4, bp b5 0), (2, .pointer none), (0, .int .i64 a0)], tR (OwnO 119 kr_ref10_Obj u4_Objs raws14 A15 qu4_Objs_1), tR (Box b13 [.int .i64 t9.Kind, .int .i64 t9.Size, .int .i64 t9.Used, .int .i64 t9.First, .int .i64 t9.Radix, .int .i64 t9.Wait, u11_Queue, .int .i64 t9.Word, .int .i64 1, .int .i64 t9.Owing, .int .i64 t9.Badge, .int .i64 t9.Prio, .int .i64 t9.On, .int .i64 t9.Owes, .int .i64 2, .int .i64 7, .int .i64 a0, .int .i64 0, .int .i64 0, .int .i64 8, .int .i64 t9.Pages.a0, .int .i64 t9.Pages.a1, .int .i64 t9.Pages.a2, .int .i64 t9.Pages.a3, .int .i64 t9.Right.a0, .int .i64 t9.Right.a1, .int .i64 t9.Right.a2, .int .i64 t9.Right.a3, .int .i64 t9.In, .int .i64 t9.Page, .int .i64 t9.Bound, .int .i64 t9.Mask]), tR (Box b5 [.int .i64 2, .int .i64 7, .int .i64 a0, .int .i64 0, .int .i64 0, .int .i64 8]), tR (Own 3 (ekI .i64) u11_Queue t9.Queue), tR (Own 3 (ekI .i64) v6 ([2, 2, 1, 3, 4, 8, 7, 6])), tR (Box b3 [u4_Slots, u4_Objs, .int .i64 t1.NS, .int .i64 t1.NO]), tR (OwnR 126 kr_ref10_Slot u4_Slots qu4_Slots_1), tR (F), tS 22 (bp b3 0), tS 23 (bp b3 0), tS 24 (bp b3 1), tS 25 (u4_Objs), tS 26 (.int .i64 x6_1), tS 27 (.agg #[.int .i64 t9.Kind, .int .i64 t9.Size, .int .i64 t9.Used, .int .i64 t9.First, .int .i64 t9.Radix, .int .i64 t9.Wait, u11_Queue, .int .i64 t9.Word, .int .i64 1, .int .i64 t9.Owing, .int .i64 t9.Badge, .int .i64 t9.Prio, .int .i64 t9.On, .int .i64 t9.Owes, .int .i64 2, .int .i64 7, .int .i64 a0, .int .i64 0, .int .i64 0, .int .i64 8, .int .i64 t9.Pages.a0, .int .i64 t9.Pages.a1, .int .i64 t9.Pages.a2, .int .i64 t9.Pages.a3, .int .i64 t9.Right.a0, .int .i64 t9.Right.a1, .int .i64 t9.Right.a2, .int .i64 t9.Right.a3, .int .i64 t9.In, .int .i64 t9.Page, .int .i64 t9.Bound, .int .i64 t9.Mask]), tS 28 (idxp u4_Objs (x6_1.toNat * kr_ref10_Obj.sz)), tR (OwnR 119 kr_ref10_Obj u4_Objs (qu4_Objs_1.set x6_1.toNat ({ t9 with State := 1, Root := (⟨2, 7, a0, 0, 0, 8⟩ : api_Cap) } : ref10_Obj)))]) (D := [⟨[0], [], [12]⟩, ⟨[12], [], [13]⟩, ⟨[13], [], [14]⟩, ⟨[14, 9], [], [15]⟩, ⟨[1], [], [16]⟩, ⟨[2, 5], [], [17]⟩, ⟨[15, 16, 4], [], [18]⟩, ⟨[17, 18], [4, 7], [19]⟩]) (ini := [0, 1, 2, 3, 4, 5, 6, 7, 8, 9, 10, 11]) (fin := [1, 3, 0, 19, 5, 6, 8, 9, 10, 11]) (bf := [[], [0], [0, 1], [0, 1, 2], [], [], [0, 1, 2, 3, 4, 5], [0, 1, 2, 3, 4, 5, 6]]) (by kernel_rfl) (by kernel_rfl) (fun Q => by kernel_rfl) (fun x w h1 h2 => ⟨(), (), (), (), (), (), (), (), (), (), (), (), EnvAll.of h1 ⟨rfl, rfl, rfl, rfl, rfl, rfl, rfl, trivial⟩, h2⟩) (fun Q => by kernel_rfl) ⟨?_, ?_, ?_, ?_, ?_, ?_, ?_, ?_, trivial⟩ ?_
      · rintro Fr _
        refine SO.v rfl (opv_move rfl) ?_
        exact SO.nilZ fun a w h1 h2 h3 h4 h5 => PZ.of h1 h3 h5 (.cons () (.cons () (.nil ⟨EnvAll.of h2 ⟨rfl, rfl, trivial⟩, h4⟩)))
      · rintro Fr _
        refine SO.v rfl (opv_nilCheck rfl) ?_
        exact SO.nilZ fun a w h1 h2 h3 h4 h5 => PZ.of h1 h3 h5 (.cons () (.cons () (.nil ⟨EnvAll.of h2 ⟨rfl, rfl, trivial⟩, h4⟩)))
      · rintro Fr _
        refine SO.v rfl (opv_fieldAddr Tryz.underlying124 rfl Tryz.sizeOf122 rfl rfl) ?_
        exact SO.nilZ fun a w h1 h2 h3 h4 h5 => PZ.of h1 h3 h5 (.cons () (.cons () (.nil ⟨EnvAll.of h2 ⟨rfl, rfl, trivial⟩, h4⟩)))
      · rintro Fr _ _
        refine SO.load1 rfl Tryz.isAgg122 rfl rfl ?_
        exact SO.nilZ fun a w h1 h2 h3 h4 h5 => PZ.of h1 h3 h5 (.cons () (.cons () (.cons () (.nil ⟨EnvAll.of h2 ⟨rfl, rfl, trivial⟩, h4⟩))))
      · rintro Fr _
        refine SO.v rfl (opv_move rfl) ?_
        exact SO.nilZ fun a w h1 h2 h3 h4 h5 => PZ.of h1 h3 h5 (.cons () (.cons () (.nil ⟨EnvAll.of h2 ⟨rfl, rfl, trivial⟩, h4⟩)))
      · rintro Fr _ _
        refine SO.loadN rfl Tryz.isAgg119 Tryz.sizeOf119 rfl rfl rfl ?_
        exact SO.nilZ fun a w h1 h2 h3 h4 h5 => PZ.of h1 h3 h5 (.cons () (.cons () (.cons () (.nil ⟨EnvAll.of h2 ⟨rfl, rfl, trivial⟩, h4⟩))))
      · rintro Fr _ _ _
        refine SO.v rfl (opv_idx Tryz.underlying122 Tryz.sizeOf119 hR17 rfl rfl hr21) ?_
        exact SO.nilZ fun a w h1 h2 h3 h4 h5 => PZ.of h1 h3 h5 (.cons () (.cons () (.cons () (.cons () (.nil ⟨EnvAll.of h2 ⟨rfl, rfl, rfl, trivial⟩, h4⟩)))))
      · rintro Fr _ _ _ _
        refine SO.b1 ?_
        refine SO.freeze hrel16 fun A23 hcov24 hru25 hrel26 hR27 => ?_
        refine SO.storeON (z' := ({ t9 with State := 1, Root := (⟨2, 7, a0, 0, 0, 8⟩ : api_Cap) } : ref10_Obj)) Tryz.sizeOf119 hrel26 hx19 rfl rfl rfl ⟨rfl, rfl, rfl, rfl, rfl, rfl, hru25, rfl, rfl, rfl, rfl, rfl, rfl, rfl, rfl, rfl, rfl, rfl, rfl, rfl, rfl, rfl, rfl, rfl, rfl, rfl, rfl, rfl, rfl, rfl, rfl, rfl, trivial⟩ (fun raws28 hrel29 hR30 => ?_)
        refine SO.closeR ?_
        exact SO.nilZ fun a w h1 h2 h3 h4 h5 => PZ.of h1 h3 h5 (.cons () (.cons () (.cons () (.nil ⟨EnvAll.of h2 ⟨rfl, rfl, trivial⟩, h4⟩))))
      rintro _ _ _ _ _ _ _ _ _ _
      refine S.to (ρ' := [(6, .int .i64 x6_1), (5, v6), (4, bp b5 0), (2, .pointer none), (0, .int .i64 a0), (3, bp b3 0)]) ⟨rfl, rfl, rfl, rfl, rfl, rfl, trivial⟩ ?_
      refine S.region ?_
      refine SO.v rfl (opv_move rfl) ?_
      refine SO.v rfl (opv_nilCheck rfl) ?_
      refine SO.v rfl (opv_fieldAddr Tryz.underlying124 rfl Tryz.sizeOf121 rfl rfl) ?_
      refine SO.b4 ?_
      refine SO.load1 rfl Tryz.isAgg121 rfl rfl ?_
      refine SO.v rfl (opv_move rfl) ?_
      refine SO.v rfl (opv_add rfl rfl) ?_
      refine SO.v rfl (opv_move rfl) ?_
      refine SO.v rfl (opv_build (v := .agg #[.int .i64 5, .int .i64 7, .int .i64 x6_1, .int .i64 0, .int .i64 0, .int .i64 0]) rfl (by intro w; kernel_rfl)) ?_
      refine SO.b5 ?_
      refine SO.openR fun raws36 A37 hrel38 hR39 => ?_
      obtain ⟨x31, hx32, h⟩ := opt_bind h
      obtain ⟨r33, hr34, hc35⟩ := relR.at hrel38 hx32
      refine SO.v rfl (opv_idx Tryz.underlying121 Tryz.sizeOf126 hR39 rfl rfl hr34) ?_
      refine SO.v rfl (opv_fieldIdx Tryz.underlying126 rfl Tryz.sizeOf116 hR39 hr34 rfl rfl) ?_
      refine SO.storeOP (j := 0) (us := [.int .i64 5, .int .i64 7, .int .i64 x6_1, .int .i64 0, .int .i64 0, .int .i64 0]) (z' := ({ x31 with Cap := (⟨5, 7, x6_1, 0, 0, 0⟩ : api_Cap) } : ref10_Slot)) Tryz.sizeOf116 hrel38 hx32 rfl rfl rfl rfl rfl rfl rfl (fun raws40 hrel41 hR42 => ?_)
      refine SO.nil ?_
      refine S.to (ρ' := [(6, .int .i64 x6_1), (5, v6), (4, bp b5 0), (2, .pointer none), (0, .int .i64 a0), (3, bp b3 0)]) ⟨rfl, rfl, rfl, rfl, rfl, rfl, trivial⟩ ?_
      refine S.inBlock ?_
      refine S.region ?_
      refine SO.v rfl (opv_move rfl) ?_
      refine SO.v rfl (opv_add rfl rfl) ?_
      refine SO.v rfl (opv_assign rfl) ?_
      refine SO.nil ?_
      refine S.closeR ?_
      refine S.b3 ?_
      refine S.drop ?_
      refine S.b5 ?_
      refine S.b3 ?_
      refine S.b2 ?_
      refine S.b3 ?_
      refine S.b4 ?_
      refine S.b5 ?_
      refine S.to ?_ (ih1 ((w64 (x6_1 + 1), qu4_Objs_1.set x6_1.toNat ({ t9 with State := 1, Root := (⟨2, 7, a0, 0, 0, 8⟩ : api_Cap) } : ref10_Obj), qu4_Slots_1.set (w64 (14 + x6_1)).toNat ({ x31 with Cap := (⟨5, 7, x6_1, 0, 0, 0⟩ : api_Cap) } : ref10_Slot)), ()) h)
      exact ⟨rfl, rfl, rfl, rfl, rfl, rfl, trivial⟩
    replace h := cond_f b8 h
    refine S.condF rfl b8 ?_
    refine S.exit rfl ?_
    cases h
    refine S.b5 ?_
    refine S.b5 ?_
    refine S.b5 ?_
    refine S.b5 ?_
    refine S.b5 ?_
    refine S.b5 ?_
    refine S.to ?_ (hK1 ())
    exact ⟨rfl, rfl, rfl, rfl, rfl, trivial⟩
  rintro _
  refine S.seq ?_
  refine S.seq ?_
  refine S.region ?_
  refine SO.v rfl (opv_assign rfl) ?_
  refine SO.nil ?_
  obtain ⟨⟨qu4_Slots_e2, qu4_Objs_e2⟩, hlp2, h⟩ := opt_bind h
  refine S.b5 ?_
  refine S.b5 ?_
  refine S.b5 ?_
  refine S.b5 ?_
  refine S.b5 ?_
  refine S.b5 ?_
  refine S.to (ρ' := [(8, .int .i64 0), (0, .int .i64 a0), (2, .pointer none), (3, bp b3 0), (4, bp b5 0), (5, v6)]) ⟨rfl, rfl, rfl, rfl, rfl, rfl, trivial⟩ ?_
  refine S.forloop (X := (Int × (List ref10_Obj) × (List ref10_Slot)) × Unit) (O := ((List ref10_Slot) × (List ref10_Obj))) (fun m x => ref10_Boot.l2 a0 m x.1) (fun x => match x with | ((x8_2, qu4_Objs_2, qu4_Slots_2), _) => [(8, .int .i64 x8_2), (0, .int .i64 a0), (2, .pointer none), (3, bp b3 0), (4, bp b5 0), (5, v6)]) (fun x => match x with | ((x8_2, qu4_Objs_2, qu4_Slots_2), _) => [Own 3 (ekI .i64) v6 ([2, 2, 1, 3, 4, 8, 7, 6]), Box b5 [.int .i64 2, .int .i64 7, .int .i64 a0, .int .i64 0, .int .i64 0, .int .i64 8], Box b3 [u4_Slots, u4_Objs, .int .i64 t1.NS, .int .i64 t1.NO], OwnR 126 kr_ref10_Slot u4_Slots qu4_Slots_2, OwnR 119 kr_ref10_Obj u4_Objs qu4_Objs_2, F]) (fun Sk => (fun x => match x with | (qu4_Slots_e2, qu4_Objs_e2) => ∀ _ : Unit, Sk [(0, .int .i64 a0), (2, .pointer none), (3, bp b3 0), (4, bp b5 0)] [Own 3 (ekI .i64) v6 ([2, 2, 1, 3, 4, 8, 7, 6]), Box b5 [.int .i64 2, .int .i64 7, .int .i64 a0, .int .i64 0, .int .i64 0, .int .i64 8], Box b3 [u4_Slots, u4_Objs, .int .i64 t1.NS, .int .i64 t1.NO], OwnR 126 kr_ref10_Slot u4_Slots qu4_Slots_e2, OwnR 119 kr_ref10_Obj u4_Objs qu4_Objs_e2, F])) (fun _ => rfl) ?_ (m := k) (x := ((0, qu4_Objs_e1, qu4_Slots_e1), ())) hlp2 ?_
  · clear h hlp2
    intro k x o_2 h hK2 ih2
    obtain ⟨⟨x8_2, qu4_Objs_2, qu4_Slots_2⟩, _⟩ := x
    replace h : ref10_Boot.l2 a0 (k + 1) (x8_2, qu4_Objs_2, qu4_Slots_2) = some o_2 := h
    first | rw [ref10_Boot.l2] at h | unfold ref10_Boot.l2 at h
    refine S.seq ?_
    refine S.seq ?_
    refine S.region ?_
    refine SO.v rfl (opv_move rfl) ?_
    refine SO.v rfl (opv_lss rfl rfl) ?_
    refine SO.nil ?_
    rcases bool_or (decide (x8_2 < 8)) with b43 | b43
    · replace h := cond_t b43 h
      refine S.condT rfl b43 ?_
      refine S.skip ?_
      refine S.seq ?_
      refine S.block ?_
      refine S.seq ?_
      refine S.b3 ?_
      refine S.openR fun raws44 A45 hrel46 hR47 => ?_
      refine S.b4 ?_
      refine S.openR fun raws48 A49 hrel50 hR51 => ?_
      obtain ⟨x52, hx53, h⟩ := opt_bind h
      obtain ⟨t54, ht55, h⟩ := opt_bind h
      obtain ⟨x58, hx59, h⟩ := opt_bind h
      obtain ⟨r60, hr61, hc62⟩ := relR.at hrel50 hx59
      refine S.draw2 (Y := fun Q => ∃ (_ _ _ _ _ _ _ _ _ _ _ : Unit), Q [(3, bp b3 0), (0, .int .i64 a0), (8, .int .i64 x8_2), (5, v6), (2, .pointer none), (4, bp b5 0)] [OwnO 119 kr_ref10_Obj u4_Objs raws48 A49 qu4_Objs_2, OwnO 126 kr_ref10_Slot u4_Slots raws44 A45 qu4_Slots_2, Own 3 (ekI .i64) v6 ([2, 2, 1, 3, 4, 8, 7, 6]), Box b5 [.int .i64 2, .int .i64 7, .int .i64 a0, .int .i64 0, .int .i64 0, .int .i64 8], Box b3 [u4_Slots, u4_Objs, .int .i64 t1.NS, .int .i64 t1.NO], F]) (Z := fun Q => ∀ (_ _ _ _ _ _ _ _ _ _ _ : Unit), Q [(8, .int .i64 x8_2), (0, .int .i64 a0), (2, .pointer none), (4, bp b5 0), (3, bp b3 0), (5, v6)] [OwnR 119 kr_ref10_Obj u4_Objs (qu4_Objs_2.set (w64 (a0 + x8_2)).toNat t54), OwnO 126 kr_ref10_Slot u4_Slots raws44 A45 qu4_Slots_2, Own 3 (ekI .i64) v6 ([2, 2, 1, 3, 4, 8, 7, 6]), Box b5 [.int .i64 2, .int .i64 7, .int .i64 a0, .int .i64 0, .int .i64 0, .int .i64 8], Box b3 [u4_Slots, u4_Objs, .int .i64 t1.NS, .int .i64 t1.NO], F]) (T := [tS 3 (bp b3 0), tS 0 (.int .i64 a0), tS 8 (.int .i64 x8_2), tS 5 (v6), tE [(2, .pointer none), (4, bp b5 0)], tR (OwnO 119 kr_ref10_Obj u4_Objs raws48 A49 qu4_Objs_2), tR (OwnO 126 kr_ref10_Slot u4_Slots raws44 A45 qu4_Slots_2), tR (Own 3 (ekI .i64) v6 ([2, 2, 1, 3, 4, 8, 7, 6])), tR (Box b5 [.int .i64 2, .int .i64 7, .int .i64 a0, .int .i64 0, .int .i64 0, .int .i64 8]), tR (Box b3 [u4_Slots, u4_Objs, .int .i64 t1.NS, .int .i64 t1.NO]), tR (F), tS 43 (bp b3 0), tS 44 (bp b3 0), tS 45 (bp b3 1), tS 46 (u4_Objs), tS 47 (.int .i64 a0), tS 48 (.int .i64 x8_2), tS 49 (.int .i64 (w64 (a0 + x8_2))), tS 50 (v6), tS 51 (.int .i64 x8_2), tS 52 (idxp v6 (x8_2.toNat * (ekI .i64).sz)), tS 53 (.int .i64 x52), ⟨Value, [54], (fun u56_Queue => [(54, .agg #[.int .i64 t54.Kind, .int .i64 t54.Size, .int .i64 t54.Used, .int .i64 t54.First, .int .i64 t54.Radix, .int .i64 t54.Wait, u56_Queue, .int .i64 t54.Word, .int .i64 t54.State, .int .i64 t54.Owing, .int .i64 t54.Badge, .int .i64 t54.Prio, .int .i64 t54.On, .int .i64 t54.Owes, .int .i64 t54.Root.Kind, .int .i64 t54.Root.Rights, .int .i64 t54.Root.Obj, .int .i64 t54.Root.Badge, .int .i64 t54.Root.Guard, .int .i64 t54.Root.Bits, .int .i64 t54.Pages.a0, .int .i64 t54.Pages.a1, .int .i64 t54.Pages.a2, .int .i64 t54.Pages.a3, .int .i64 t54.Right.a0, .int .i64 t54.Right.a1, .int .i64 t54.Right.a2, .int .i64 t54.Right.a3, .int .i64 t54.In, .int .i64 t54.Page, .int .i64 t54.Bound, .int .i64 t54.Mask])]), (fun u56_Queue => [Own 3 (ekI .i64) u56_Queue t54.Queue]), fun _ => rfl⟩, tS 55 (idxp u4_Objs ((w64 (a0 + x8_2)).toNat * kr_ref10_Obj.sz)), tR (OwnR 119 kr_ref10_Obj u4_Objs (qu4_Objs_2.set (w64 (a0 + x8_2)).toNat t54))]) (D := [⟨[0], [], [11]⟩, ⟨[11], [], [12]⟩, ⟨[12], [], [13]⟩, ⟨[13, 9], [], [14]⟩, ⟨[1], [], [15]⟩, ⟨[2], [], [16]⟩, ⟨[15, 16], [], [17]⟩, ⟨[3], [], [18]⟩, ⟨[2], [], [19]⟩, ⟨[18, 19, 7], [], [20]⟩, ⟨[20, 7], [], [21]⟩, ⟨[21], [], [22]⟩, ⟨[14, 17, 5], [], [23]⟩, ⟨[23], [22, 5], [24]⟩]) (ini := [0, 1, 2, 3, 4, 5, 6, 7, 8, 9, 10]) (fin := [2, 1, 4, 0, 3, 24, 6, 7, 8, 9, 10]) (bf := [[], [0], [0, 1], [0, 1, 2], [], [], [4, 5], [], [], [7, 8], [7, 8, 9], [7, 8, 9, 10], [0, 1, 2, 3, 4, 5, 6, 7, 8, 9, 10, 11], [0, 1, 2, 3, 4, 5, 6, 7, 8, 9, 10, 11, 12]]) (by kernel_rfl) (by kernel_rfl) (fun Q => by kernel_rfl) (fun x w h1 h2 => ⟨(), (), (), (), (), (), (), (), (), (), (), EnvAll.of h1 ⟨rfl, rfl, rfl, rfl, rfl, rfl, trivial⟩, h2⟩) (fun Q => by kernel_rfl) ⟨?_, ?_, ?_, ?_, ?_, ?_, ?_, ?_, ?_, ?_, ?_, ?_, ?_, ?_, trivial⟩ ?_
      · rintro Fr _
        refine SO.v rfl (opv_move rfl) ?_
        exact SO.nilZ fun a w h1 h2 h3 h4 h5 => PZ.of h1 h3 h5 (.cons () (.cons () (.nil ⟨EnvAll.of h2 ⟨rfl, rfl, trivial⟩, h4⟩)))
      · rintro Fr _
        refine SO.v rfl (opv_nilCheck rfl) ?_
        exact SO.nilZ fun a w h1 h2 h3 h4 h5 => PZ.of h1 h3 h5 (.cons () (.cons () (.nil ⟨EnvAll.of h2 ⟨rfl, rfl, trivial⟩, h4⟩)))
      · rintro Fr _
        refine SO.v rfl (opv_fieldAddr Tryz.underlying124 rfl Tryz.sizeOf122 rfl rfl) ?_
        exact SO.nilZ fun a w h1 h2 h3 h4 h5 => PZ.of h1 h3 h5 (.cons () (.cons () (.nil ⟨EnvAll.of h2 ⟨rfl, rfl, trivial⟩, h4⟩)))
      · rintro Fr _ _
        refine SO.load1 rfl Tryz.isAgg122 rfl rfl ?_
        exact SO.nilZ fun a w h1 h2 h3 h4 h5 => PZ.of h1 h3 h5 (.cons () (.cons () (.cons () (.nil ⟨EnvAll.of h2 ⟨rfl, rfl, trivial⟩, h4⟩))))
      · rintro Fr _
        refine SO.v rfl (opv_move rfl) ?_
        exact SO.nilZ fun a w h1 h2 h3 h4 h5 => PZ.of h1 h3 h5 (.cons () (.cons () (.nil ⟨EnvAll.of h2 ⟨rfl, rfl, trivial⟩, h4⟩)))
      · rintro Fr _
        refine SO.v rfl (opv_move rfl) ?_
        exact SO.nilZ fun a w h1 h2 h3 h4 h5 => PZ.of h1 h3 h5 (.cons () (.cons () (.nil ⟨EnvAll.of h2 ⟨rfl, rfl, trivial⟩, h4⟩)))
      · rintro Fr _ _
        refine SO.v rfl (opv_add rfl rfl) ?_
        exact SO.nilZ fun a w h1 h2 h3 h4 h5 => PZ.of h1 h3 h5 (.cons () (.cons () (.cons () (.nil ⟨EnvAll.of h2 ⟨rfl, rfl, rfl, trivial⟩, h4⟩))))
      · rintro Fr _
        refine SO.v rfl (opv_move rfl) ?_
        exact SO.nilZ fun a w h1 h2 h3 h4 h5 => PZ.of h1 h3 h5 (.cons () (.cons () (.nil ⟨EnvAll.of h2 ⟨rfl, rfl, trivial⟩, h4⟩)))
      · rintro Fr _
        refine SO.v rfl (opv_move rfl) ?_
        exact SO.nilZ fun a w h1 h2 h3 h4 h5 => PZ.of h1 h3 h5 (.cons () (.cons () (.nil ⟨EnvAll.of h2 ⟨rfl, rfl, trivial⟩, h4⟩)))
      · rintro Fr _ _ _
        refine SO.v rfl (opv_idx Tryz.underlying29 Tryz.sizeOf3 hr7 rfl rfl hx53) ?_
        exact SO.nilZ fun a w h1 h2 h3 h4 h5 => PZ.of h1 h3 h5 (.cons () (.cons () (.cons () (.cons () (.nil ⟨EnvAll.of h2 ⟨rfl, rfl, rfl, trivial⟩, h4⟩)))))
      · rintro Fr _ _
        refine SO.loadI1 (j := 0) rfl Tryz.isAgg3 (Rd.head hr7) hx53 rfl rfl rfl rfl ?_
        exact SO.nilZ fun a w h1 h2 h3 h4 h5 => PZ.of h1 h3 h5 (.cons () (.cons () (.cons () (.nil ⟨EnvAll.of h2 ⟨rfl, rfl, trivial⟩, h4⟩))))
      · rintro Fr _
        refine SO.call (pre := []) rfl Tryz.call41 rfl rfl rfl (ref10_Fresh.ct _ _ ht55) trivial ?_
        rintro _ _ ⟨u56_Queue, rfl, rfl⟩
        refine SO.rd fun hr57 => ?_
        exact SO.nilZ fun a w h1 h2 h3 h4 h5 => PZ.of h1 h3 h5 (.cons () (.cons u56_Queue (.nil ⟨EnvAll.of h2 ⟨rfl, rfl, trivial⟩, h4⟩)))
      · rintro Fr _ _ _
        refine SO.v rfl (opv_idx Tryz.underlying122 Tryz.sizeOf119 hR51 rfl rfl hr61) ?_
        exact SO.nilZ fun a w h1 h2 h3 h4 h5 => PZ.of h1 h3 h5 (.cons () (.cons () (.cons () (.cons () (.nil ⟨EnvAll.of h2 ⟨rfl, rfl, rfl, trivial⟩, h4⟩)))))
      · rintro Fr _ u56_Queue _
        refine SO.rd fun hr63 => ?_
        refine SO.b1 ?_
        refine SO.b1 ?_
        refine SO.freeze hrel50 fun A64 hcov65 hru66 hrel67 hR68 => ?_
        refine SO.storeON (z' := t54) Tryz.sizeOf119 hrel67 hx59 rfl rfl rfl ⟨rfl, rfl, rfl, rfl, rfl, rfl, hru66, rfl, rfl, rfl, rfl, rfl, rfl, rfl, rfl, rfl, rfl, rfl, rfl, rfl, rfl, rfl, rfl, rfl, rfl, rfl, rfl, rfl, rfl, rfl, rfl, rfl, trivial⟩ (fun raws69 hrel70 hR71 => ?_)
        refine SO.closeR ?_
        exact SO.nilZ fun a w h1 h2 h3 h4 h5 => PZ.of h1 h3 h5 (.cons () (.cons () (.nil ⟨EnvAll.of h2 ⟨rfl, trivial⟩, h4⟩)))
      rintro _ _ _ _ _ _ _ _ _ _ _
      refine S.to (ρ' := [(8, .int .i64 x8_2), (0, .int .i64 a0), (2, .pointer none), (4, bp b5 0), (3, bp b3 0), (5, v6)]) ⟨rfl, rfl, rfl, rfl, rfl, rfl, trivial⟩ ?_
      refine S.seq ?_
      refine S.region ?_
      refine SO.v rfl (opv_move rfl) ?_
      refine SO.v rfl (opv_geq rfl rfl) ?_
      refine SO.nil ?_
      rcases bool_or (decide (2 ≤ x8_2)) with b72 | b72
      · replace h := cond_t b72 h
        refine S.condT rfl b72 ?_
        obtain ⟨x73, hx74, h⟩ := opt_bind h
        obtain ⟨x75, hx76, h⟩ := opt_bind h
        obtain ⟨r77, hr78, hc79⟩ := relR.at hrel46 hx76
        refine S.draw2 (Y := fun Q => ∃ (_ _ _ _ _ _ _ _ _ _ _ : Unit), Q [(3, bp b3 0), (8, .int .i64 x8_2), (5, v6), (0, .int .i64 a0), (2, .pointer none), (4, bp b5 0)] [OwnR 119 kr_ref10_Obj u4_Objs (qu4_Objs_2.set (w64 (a0 + x8_2)).toNat t54), OwnO 126 kr_ref10_Slot u4_Slots raws44 A45 qu4_Slots_2, Own 3 (ekI .i64) v6 ([2, 2, 1, 3, 4, 8, 7, 6]), Box b5 [.int .i64 2, .int .i64 7, .int .i64 a0, .int .i64 0, .int .i64 0, .int .i64 8], Box b3 [u4_Slots, u4_Objs, .int .i64 t1.NS, .int .i64 t1.NO], F]) (Z := fun Q => ∀ (_ _ _ _ _ _ _ _ _ _ _ : Unit), Q [(8, .int .i64 x8_2), (0, .int .i64 a0), (2, .pointer none), (4, bp b5 0), (3, bp b3 0), (5, v6)] [OwnR 119 kr_ref10_Obj u4_Objs (qu4_Objs_2.set (w64 (a0 + x8_2)).toNat t54), OwnR 126 kr_ref10_Slot u4_Slots (qu4_Slots_2.set (w64 (6 + x8_2)).toNat ({ x75 with Cap := (⟨x73, 7, w64 (a0 + x8_2), 0, 0, 0⟩ : api_Cap) } : ref10_Slot)), Own 3 (ekI .i64) v6 ([2, 2, 1, 3, 4, 8, 7, 6]), Box b5 [.int .i64 2, .int .i64 7, .int .i64 a0, .int .i64 0, .int .i64 0, .int .i64 8], Box b3 [u4_Slots, u4_Objs, .int .i64 t1.NS, .int .i64 t1.NO], F]) (T := [tS 3 (bp b3 0), tS 8 (.int .i64 x8_2), tS 5 (v6), tS 0 (.int .i64 a0), tE [(2, .pointer none), (4, bp b5 0)], tR (OwnR 119 kr_ref10_Obj u4_Objs (qu4_Objs_2.set (w64 (a0 + x8_2)).toNat t54)), tR (OwnO 126 kr_ref10_Slot u4_Slots raws44 A45 qu4_Slots_2), tR (Own 3 (ekI .i64) v6 ([2, 2, 1, 3, 4, 8, 7, 6])), tR (Box b5 [.int .i64 2, .int .i64 7, .int .i64 a0, .int .i64 0, .int .i64 0, .int .i64 8]), tR (Box b3 [u4_Slots, u4_Objs, .int .i64 t1.NS, .int .i64 t1.NO]), tR (F), tS 58 (bp b3 0), tS 59 (bp b3 0), tS 60 (bp b3 0), tS 61 (u4_Slots), tS 62 (.int .i64 x8_2), tS 63 (.int .i64 (w64 (6 + x8_2))), tS 64 (v6), tS 65 (.int .i64 x8_2), tS 66 (idxp v6 (x8_2.toNat * (ekI .i64).sz)), tS 67 (.int .i64 x73), tS 68 (.int .i64 a0), tS 69 (.int .i64 x8_2), tS 70 (.int .i64 (w64 (a0 + x8_2))), tS 71 (.agg #[.int .i64 x73, .int .i64 7, .int .i64 (w64 (a0 + x8_2)), .int .i64 0, .int .i64 0, .int .i64 0]), tS 72 (idxp u4_Slots ((w64 (6 + x8_2)).toNat * kr_ref10_Slot.sz)), tS 73 (idxp u4_Slots ((w64 (6 + x8_2)).toNat * kr_ref10_Slot.sz)), tR (OwnR 126 kr_ref10_Slot u4_Slots (qu4_Slots_2.set (w64 (6 + x8_2)).toNat ({ x75 with Cap := (⟨x73, 7, w64 (a0 + x8_2), 0, 0, 0⟩ : api_Cap) } : ref10_Slot)))]) (D := [⟨[0], [], [11]⟩, ⟨[11], [], [12]⟩, ⟨[12], [], [13]⟩, ⟨[13, 9], [], [14]⟩, ⟨[1], [], [15]⟩, ⟨[15], [], [16]⟩, ⟨[2], [], [17]⟩, ⟨[1], [], [18]⟩, ⟨[17, 18, 7], [], [19]⟩, ⟨[19, 7], [], [20]⟩, ⟨[3], [], [21]⟩, ⟨[1], [], [22]⟩, ⟨[21, 22], [], [23]⟩, ⟨[20, 23], [], [24]⟩, ⟨[14, 16, 6], [], [25]⟩, ⟨[25, 6], [], [26]⟩, ⟨[24, 26], [6], [27]⟩]) (ini := [0, 1, 2, 3, 4, 5, 6, 7, 8, 9, 10]) (fin := [1, 3, 4, 0, 2, 5, 27, 7, 8, 9, 10]) (bf := [[], [0], [0, 1], [0, 1, 2], [], [4], [], [], [6, 7], [6, 7, 8], [], [], [10, 11], [6, 7, 8, 9, 10, 11, 12], [0, 1, 2, 3, 4, 5, 6, 7, 8, 9, 10, 11, 12, 13], [0, 1, 2, 3, 4, 5, 6, 7, 8, 9, 10, 11, 12, 13, 14], [0, 1, 2, 3, 4, 5, 6, 7, 8, 9, 10, 11, 12, 13, 14, 15]]) (by kernel_rfl) (by kernel_rfl) (fun Q => by kernel_rfl) (fun x w h1 h2 => ⟨(), (), (), (), (), (), (), (), (), (), (), EnvAll.of h1 ⟨rfl, rfl, rfl, rfl, rfl, rfl, trivial⟩, h2⟩) (fun Q => by kernel_rfl) ⟨?_, ?_, ?_, ?_, ?_, ?_, ?_, ?_, ?_, ?_, ?_, ?_, ?_, ?_, ?_, ?_, ?_, trivial⟩ ?_
        · rintro Fr _
          refine SO.v rfl (opv_move rfl) ?_
          exact SO.nilZ fun a w h1 h2 h3 h4 h5 => PZ.of h1 h3 h5 (.cons () (.cons () (.nil ⟨EnvAll.of h2 ⟨rfl, rfl, trivial⟩, h4⟩)))
        · rintro Fr _
          refine SO.v rfl (opv_nilCheck rfl) ?_
          exact SO.nilZ fun a w h1 h2 h3 h4 h5 => PZ.of h1 h3 h5 (.cons () (.cons () (.nil ⟨EnvAll.of h2 ⟨rfl, rfl, trivial⟩, h4⟩)))
        · rintro Fr _
          refine SO.v rfl (opv_fieldAddr Tryz.underlying124 rfl Tryz.sizeOf121 rfl rfl) ?_
          exact SO.nilZ fun a w h1 h2 h3 h4 h5 => PZ.of h1 h3 h5 (.cons () (.cons () (.nil ⟨EnvAll.of h2 ⟨rfl, rfl, trivial⟩, h4⟩)))
        · rintro Fr _ _
          refine SO.load1 rfl Tryz.isAgg121 rfl rfl ?_
          exact SO.nilZ fun a w h1 h2 h3 h4 h5 => PZ.of h1 h3 h5 (.cons () (.cons () (.cons () (.nil ⟨EnvAll.of h2 ⟨rfl, rfl, trivial⟩, h4⟩))))
        · rintro Fr _
          refine SO.v rfl (opv_move rfl) ?_
          exact SO.nilZ fun a w h1 h2 h3 h4 h5 => PZ.of h1 h3 h5 (.cons () (.cons () (.nil ⟨EnvAll.of h2 ⟨rfl, rfl, trivial⟩, h4⟩)))
        · rintro Fr _
          refine SO.v rfl (opv_add rfl rfl) ?_
          exact SO.nilZ fun a w h1 h2 h3 h4 h5 => PZ.of h1 h3 h5 (.cons () (.cons () (.nil ⟨EnvAll.of h2 ⟨rfl, rfl, trivial⟩, h4⟩)))
        · rintro Fr _
          refine SO.v rfl (opv_move rfl) ?_
          exact SO.nilZ fun a w h1 h2 h3 h4 h5 => PZ.of h1 h3 h5 (.cons () (.cons () (.nil ⟨EnvAll.of h2 ⟨rfl, rfl, trivial⟩, h4⟩)))
        · rintro Fr _
          refine SO.v rfl (opv_move rfl) ?_
          exact SO.nilZ fun a w h1 h2 h3 h4 h5 => PZ.of h1 h3 h5 (.cons () (.cons () (.nil ⟨EnvAll.of h2 ⟨rfl, rfl, trivial⟩, h4⟩)))
        · rintro Fr _ _ _
          refine SO.v rfl (opv_idx Tryz.underlying29 Tryz.sizeOf3 hr7 rfl rfl hx74) ?_
          exact SO.nilZ fun a w h1 h2 h3 h4 h5 => PZ.of h1 h3 h5 (.cons () (.cons () (.cons () (.cons () (.nil ⟨EnvAll.of h2 ⟨rfl, rfl, rfl, trivial⟩, h4⟩)))))
        · rintro Fr _ _
          refine SO.loadI1 (j := 0) rfl Tryz.isAgg3 (Rd.head hr7) hx74 rfl rfl rfl rfl ?_
          exact SO.nilZ fun a w h1 h2 h3 h4 h5 => PZ.of h1 h3 h5 (.cons () (.cons () (.cons () (.nil ⟨EnvAll.of h2 ⟨rfl, rfl, trivial⟩, h4⟩))))
        · rintro Fr _
          refine SO.v rfl (opv_move rfl) ?_
          exact SO.nilZ fun a w h1 h2 h3 h4 h5 => PZ.of h1 h3 h5 (.cons () (.cons () (.nil ⟨EnvAll.of h2 ⟨rfl, rfl, trivial⟩, h4⟩)))
        · rintro Fr _
          refine SO.v rfl (opv_move rfl) ?_
          exact SO.nilZ fun a w h1 h2 h3 h4 h5 => PZ.of h1 h3 h5 (.cons () (.cons () (.nil ⟨EnvAll.of h2 ⟨rfl, rfl, trivial⟩, h4⟩)))
        · rintro Fr _ _
          refine SO.v rfl (opv_add rfl rfl) ?_
          exact SO.nilZ fun a w h1 h2 h3 h4 h5 => PZ.of h1 h3 h5 (.cons () (.cons () (.cons () (.nil ⟨EnvAll.of h2 ⟨rfl, rfl, rfl, trivial⟩, h4⟩))))
        · rintro Fr _ _
          refine SO.v rfl (opv_build (v := .agg #[.int .i64 x73, .int .i64 7, .int .i64 (w64 (a0 + x8_2)), .int .i64 0, .int .i64 0, .int .i64 0]) rfl (by intro w; kernel_rfl)) ?_
          exact SO.nilZ fun a w h1 h2 h3 h4 h5 => PZ.of h1 h3 h5 (.cons () (.cons () (.cons () (.nil ⟨EnvAll.of h2 ⟨rfl, rfl, rfl, trivial⟩, h4⟩))))
        · rintro Fr _ _ _
          refine SO.v rfl (opv_idx Tryz.underlying121 Tryz.sizeOf126 hR47 rfl rfl hr78) ?_
          exact SO.nilZ fun a w h1 h2 h3 h4 h5 => PZ.of h1 h3 h5 (.cons () (.cons () (.cons () (.cons () (.nil ⟨EnvAll.of h2 ⟨rfl, rfl, rfl, trivial⟩, h4⟩)))))
        · rintro Fr _ _
          refine SO.v rfl (opv_fieldIdx Tryz.underlying126 rfl Tryz.sizeOf116 hR47 hr78 rfl rfl) ?_
          exact SO.nilZ fun a w h1 h2 h3 h4 h5 => PZ.of h1 h3 h5 (.cons () (.cons () (.cons () (.nil ⟨EnvAll.of h2 ⟨rfl, rfl, trivial⟩, h4⟩))))
        · rintro Fr _ _ _
          refine SO.storeOP (j := 0) (us := [.int .i64 x73, .int .i64 7, .int .i64 (w64 (a0 + x8_2)), .int .i64 0, .int .i64 0, .int .i64 0]) (z' := ({ x75 with Cap := (⟨x73, 7, w64 (a0 + x8_2), 0, 0, 0⟩ : api_Cap) } : ref10_Slot)) Tryz.sizeOf116 hrel46 hx76 rfl rfl rfl rfl rfl rfl rfl (fun raws80 hrel81 hR82 => ?_)
          refine SO.closeR ?_
          exact SO.nilZ fun a w h1 h2 h3 h4 h5 => PZ.of h1 h3 h5 (.cons () (.cons () (.cons () (.nil ⟨EnvAll.of h2 ⟨rfl, rfl, trivial⟩, h4⟩))))
        rintro _ _ _ _ _ _ _ _ _ _ _
        refine S.to (ρ' := [(8, .int .i64 x8_2), (0, .int .i64 a0), (2, .pointer none), (4, bp b5 0), (3, bp b3 0), (5, v6)]) ⟨rfl, rfl, rfl, rfl, rfl, rfl, trivial⟩ ?_
        refine S.inBlock ?_
        refine S.region ?_
        refine SO.v rfl (opv_move rfl) ?_
        refine SO.v rfl (opv_add rfl rfl) ?_
        refine SO.v rfl (opv_assign rfl) ?_
        refine SO.nil ?_
        refine S.b5 ?_
        refine S.b1 ?_
        refine S.b2 ?_
        refine S.b5 ?_
        refine S.b5 ?_
        refine S.b5 ?_
        refine S.to ?_ (ih2 ((w64 (x8_2 + 1), qu4_Objs_2.set (w64 (a0 + x8_2)).toNat t54, qu4_Slots_2.set (w64 (6 + x8_2)).toNat ({ x75 with Cap := (⟨x73, 7, w64 (a0 + x8_2), 0, 0, 0⟩ : api_Cap) } : ref10_Slot)), ()) h)
        exact ⟨rfl, rfl, rfl, rfl, rfl, rfl, trivial⟩
      replace h := cond_f b72 h
      refine S.condF rfl b72 ?_
      refine S.skip ?_
      refine S.inBlock ?_
      refine S.region ?_
      refine SO.v rfl (opv_move rfl) ?_
      refine SO.v rfl (opv_add rfl rfl) ?_
      refine SO.v rfl (opv_assign rfl) ?_
      refine SO.nil ?_
      refine S.b1 ?_
      refine S.closeR ?_
      refine S.b5 ?_
      refine S.b2 ?_
      refine S.b2 ?_
      refine S.b5 ?_
      refine S.b5 ?_
      refine S.b5 ?_
      refine S.to ?_ (ih2 ((w64 (x8_2 + 1), qu4_Objs_2.set (w64 (a0 + x8_2)).toNat t54, qu4_Slots_2), ()) h)
      exact ⟨rfl, rfl, rfl, rfl, rfl, rfl, trivial⟩
    replace h := cond_f b43 h
    refine S.condF rfl b43 ?_
    refine S.exit rfl ?_
    cases h
    refine S.b5 ?_
    refine S.b5 ?_
    refine S.b5 ?_
    refine S.b5 ?_
    refine S.b5 ?_
    refine S.b5 ?_
    refine S.to ?_ (hK2 ())
    exact ⟨rfl, rfl, rfl, rfl, trivial⟩
  rintro _
  refine S.seq ?_
  refine S.region ?_
  refine SO.v rfl (opv_move rfl) ?_
  refine SO.v rfl (opv_nilCheck rfl) ?_
  refine SO.v rfl (opv_fieldAddr Tryz.underlying124 rfl Tryz.sizeOf122 rfl rfl) ?_
  refine SO.b2 ?_
  refine SO.load1 rfl Tryz.isAgg122 rfl rfl ?_
  refine SO.v rfl (opv_move rfl) ?_
  refine SO.b4 ?_
  refine SO.openR fun raws88 A89 hrel90 hR91 => ?_
  obtain ⟨x83, hx84, h⟩ := opt_bind h
  obtain ⟨r85, hr86, hc87⟩ := relR.at hrel90 hx84
  refine SO.v rfl (opv_idx Tryz.underlying122 Tryz.sizeOf119 hR91 rfl rfl hr86) ?_
  refine SO.v rfl (opv_fieldIdx Tryz.underlying119 rfl Tryz.sizeOf3 hR91 hr86 rfl rfl) ?_
  refine SO.storeO1 (j := 4) (q := .val (.int .i64 3)) (z' := ({ x83 with Radix := 3 } : ref10_Obj)) Tryz.sizeOf3 hrel90 hx84 rfl rfl rfl rfl rfl rfl rfl (fun raws92 hrel93 hR94 => ?_)
  refine SO.nil ?_
  refine S.to (ρ' := [(0, .int .i64 a0), (2, .pointer none), (3, bp b3 0), (4, bp b5 0)]) ⟨rfl, rfl, rfl, rfl, trivial⟩ ?_
  refine S.seq ?_
  refine S.region ?_
  refine SO.v rfl (opv_move rfl) ?_
  refine SO.v rfl (opv_nilCheck rfl) ?_
  refine SO.v rfl (opv_fieldAddr Tryz.underlying124 rfl Tryz.sizeOf122 rfl rfl) ?_
  refine SO.b1 ?_
  refine SO.load1 rfl Tryz.isAgg122 rfl rfl ?_
  refine SO.v rfl (opv_move rfl) ?_
  refine SO.v rfl (opv_add rfl rfl) ?_
  obtain ⟨x95, hx96, h⟩ := opt_bind h
  obtain ⟨r97, hr98, hc99⟩ := relR.at hrel93 hx96
  refine SO.v rfl (opv_idx Tryz.underlying122 Tryz.sizeOf119 hR94 rfl rfl hr98) ?_
  refine SO.v rfl (opv_fieldIdx Tryz.underlying119 rfl Tryz.sizeOf3 hR94 hr98 rfl rfl) ?_
  refine SO.b1 ?_
  refine SO.storeO1 (j := 3) (q := .val (.int .i64 8)) (z' := ({ x95 with First := 8 } : ref10_Obj)) Tryz.sizeOf3 hrel93 hx96 rfl rfl rfl rfl rfl rfl rfl (fun raws100 hrel101 hR102 => ?_)
  refine SO.nil ?_
  refine S.to (ρ' := [(0, .int .i64 a0), (2, .pointer none), (3, bp b3 0), (4, bp b5 0)]) ⟨rfl, rfl, rfl, rfl, trivial⟩ ?_
  refine S.seq ?_
  refine S.region ?_
  refine SO.v rfl (opv_move rfl) ?_
  refine SO.v rfl (opv_nilCheck rfl) ?_
  refine SO.v rfl (opv_fieldAddr Tryz.underlying124 rfl Tryz.sizeOf122 rfl rfl) ?_
  refine SO.b1 ?_
  refine SO.load1 rfl Tryz.isAgg122 rfl rfl ?_
  refine SO.v rfl (opv_move rfl) ?_
  refine SO.v rfl (opv_add rfl rfl) ?_
  obtain ⟨x103, hx104, h⟩ := opt_bind h
  obtain ⟨r105, hr106, hc107⟩ := relR.at hrel101 hx104
  refine SO.v rfl (opv_idx Tryz.underlying122 Tryz.sizeOf119 hR102 rfl rfl hr106) ?_
  refine SO.v rfl (opv_fieldIdx Tryz.underlying119 rfl Tryz.sizeOf3 hR102 hr106 rfl rfl) ?_
  refine SO.b1 ?_
  refine SO.storeO1 (j := 4) (q := .val (.int .i64 5)) (z' := ({ x103 with Radix := 5 } : ref10_Obj)) Tryz.sizeOf3 hrel101 hx104 rfl rfl rfl rfl rfl rfl rfl (fun raws108 hrel109 hR110 => ?_)
  refine SO.nil ?_
  refine S.to (ρ' := [(0, .int .i64 a0), (2, .pointer none), (3, bp b3 0), (4, bp b5 0)]) ⟨rfl, rfl, rfl, rfl, trivial⟩ ?_
  refine S.seq ?_
  refine S.region ?_
  refine SO.v rfl (opv_move rfl) ?_
  refine SO.v rfl (opv_nilCheck rfl) ?_
  refine SO.v rfl (opv_fieldAddr Tryz.underlying124 rfl Tryz.sizeOf122 rfl rfl) ?_
  refine SO.b1 ?_
  refine SO.load1 rfl Tryz.isAgg122 rfl rfl ?_
  refine SO.v rfl (opv_move rfl) ?_
  refine SO.v rfl (opv_add rfl rfl) ?_
  obtain ⟨x111, hx112, h⟩ := opt_bind h
  obtain ⟨r113, hr114, hc115⟩ := relR.at hrel109 hx112
  refine SO.v rfl (opv_idx Tryz.underlying122 Tryz.sizeOf119 hR110 rfl rfl hr114) ?_
  refine SO.v rfl (opv_fieldIdx Tryz.underlying119 rfl Tryz.sizeOf3 hR110 hr114 rfl rfl) ?_
  refine SO.b1 ?_
  refine SO.storeO1 (j := 1) (q := .val (.int .i64 200)) (z' := ({ x111 with Size := 200 } : ref10_Obj)) Tryz.sizeOf3 hrel109 hx112 rfl rfl rfl rfl rfl rfl rfl (fun raws116 hrel117 hR118 => ?_)
  refine SO.nil ?_
  refine S.to (ρ' := [(0, .int .i64 a0), (2, .pointer none), (3, bp b3 0), (4, bp b5 0)]) ⟨rfl, rfl, rfl, rfl, trivial⟩ ?_
  refine S.seq ?_
  refine S.region ?_
  refine SO.v rfl (opv_move rfl) ?_
  refine SO.v rfl (opv_nilCheck rfl) ?_
  refine SO.v rfl (opv_fieldAddr Tryz.underlying124 rfl Tryz.sizeOf121 rfl rfl) ?_
  refine SO.b1 ?_
  refine SO.load1 rfl Tryz.isAgg121 rfl rfl ?_
  refine SO.v rfl (opv_move rfl) ?_
  refine SO.v rfl (opv_add rfl rfl) ?_
  refine SO.v rfl (opv_build (v := .agg #[.int .i64 2, .int .i64 7, .int .i64 (w64 (a0 + 1)), .int .i64 0, .int .i64 0, .int .i64 0]) rfl (by intro w; kernel_rfl)) ?_
  refine SO.b4 ?_
  refine SO.openR fun raws124 A125 hrel126 hR127 => ?_
  obtain ⟨x119, hx120, h⟩ := opt_bind h
  obtain ⟨r121, hr122, hc123⟩ := relR.at hrel126 hx120
  refine SO.v rfl (opv_idx Tryz.underlying121 Tryz.sizeOf126 hR127 rfl rfl hr122) ?_
  refine SO.v rfl (opv_fieldIdx Tryz.underlying126 rfl Tryz.sizeOf116 hR127 hr122 rfl rfl) ?_
  refine SO.storeOP (j := 0) (us := [.int .i64 2, .int .i64 7, .int .i64 (w64 (a0 + 1)), .int .i64 0, .int .i64 0, .int .i64 0]) (z' := ({ x119 with Cap := (⟨2, 7, w64 (a0 + 1), 0, 0, 0⟩ : api_Cap) } : ref10_Slot)) Tryz.sizeOf116 hrel126 hx120 rfl rfl rfl rfl rfl rfl rfl (fun raws128 hrel129 hR130 => ?_)
  refine SO.nil ?_
  refine S.to (ρ' := [(0, .int .i64 a0), (2, .pointer none), (3, bp b3 0), (4, bp b5 0)]) ⟨rfl, rfl, rfl, rfl, trivial⟩ ?_
  refine S.seq ?_
  obtain ⟨x131, hx132, h⟩ := opt_bind h
  obtain ⟨r133, hr134, hc135⟩ := relR.at hrel129 hx132
  refine S.draw2 (Y := fun Q => ∃ (_ _ _ _ _ _ _ _ _ : Unit), Q [(3, bp b3 0), (4, bp b5 0), (0, .int .i64 a0), (2, .pointer none)] [OwnO 126 kr_ref10_Slot u4_Slots raws128 A125 (qu4_Slots_e2.set (0 : Int).toNat ({ x119 with Cap := (⟨2, 7, w64 (a0 + 1), 0, 0, 0⟩ : api_Cap) } : ref10_Slot)), Box b3 [u4_Slots, u4_Objs, .int .i64 t1.NS, .int .i64 t1.NO], OwnO 119 kr_ref10_Obj u4_Objs raws116 A89 ((((qu4_Objs_e2.set a0.toNat ({ x83 with Radix := 3 } : ref10_Obj)).set (w64 (a0 + 1)).toNat ({ x95 with First := 8 } : ref10_Obj)).set (w64 (a0 + 1)).toNat ({ x103 with Radix := 5 } : ref10_Obj)).set (w64 (a0 + 2)).toNat ({ x111 with Size := 200 } : ref10_Obj)), Own 3 (ekI .i64) v6 ([2, 2, 1, 3, 4, 8, 7, 6]), Box b5 [.int .i64 2, .int .i64 7, .int .i64 a0, .int .i64 0, .int .i64 0, .int .i64 8], F]) (Z := fun Q => ∀ (_ _ _ _ _ _ _ _ : Unit), Q [(0, .int .i64 a0), (2, .pointer none), (3, bp b3 0)] [OwnR 126 kr_ref10_Slot u4_Slots ((qu4_Slots_e2.set (0 : Int).toNat ({ x119 with Cap := (⟨2, 7, w64 (a0 + 1), 0, 0, 0⟩ : api_Cap) } : ref10_Slot)).set (1 : Int).toNat ({ x131 with Cap := (⟨2, 7, a0, 0, 0, 8⟩ : api_Cap) } : ref10_Slot)), Box b3 [u4_Slots, u4_Objs, .int .i64 t1.NS, .int .i64 t1.NO], OwnO 119 kr_ref10_Obj u4_Objs raws116 A89 ((((qu4_Objs_e2.set a0.toNat ({ x83 with Radix := 3 } : ref10_Obj)).set (w64 (a0 + 1)).toNat ({ x95 with First := 8 } : ref10_Obj)).set (w64 (a0 + 1)).toNat ({ x103 with Radix := 5 } : ref10_Obj)).set (w64 (a0 + 2)).toNat ({ x111 with Size := 200 } : ref10_Obj)), Own 3 (ekI .i64) v6 ([2, 2, 1, 3, 4, 8, 7, 6]), Box b5 [.int .i64 2, .int .i64 7, .int .i64 a0, .int .i64 0, .int .i64 0, .int .i64 8], F]) (T := [tS 3 (bp b3 0), tS 4 (bp b5 0), tE [(0, .int .i64 a0), (2, .pointer none)], tR (OwnO 126 kr_ref10_Slot u4_Slots raws128 A125 (qu4_Slots_e2.set (0 : Int).toNat ({ x119 with Cap := (⟨2, 7, w64 (a0 + 1), 0, 0, 0⟩ : api_Cap) } : ref10_Slot))), tR (Box b3 [u4_Slots, u4_Objs, .int .i64 t1.NS, .int .i64 t1.NO]), tR (OwnO 119 kr_ref10_Obj u4_Objs raws116 A89 ((((qu4_Objs_e2.set a0.toNat ({ x83 with Radix := 3 } : ref10_Obj)).set (w64 (a0 + 1)).toNat ({ x95 with First := 8 } : ref10_Obj)).set (w64 (a0 + 1)).toNat ({ x103 with Radix := 5 } : ref10_Obj)).set (w64 (a0 + 2)).toNat ({ x111 with Size := 200 } : ref10_Obj))), tR (Own 3 (ekI .i64) v6 ([2, 2, 1, 3, 4, 8, 7, 6])), tR (Box b5 [.int .i64 2, .int .i64 7, .int .i64 a0, .int .i64 0, .int .i64 0, .int .i64 8]), tR (F), tS 114 (bp b3 0), tS 115 (bp b3 0), tS 116 (bp b3 0), tS 117 (u4_Slots), tS 118 (.agg #[.int .i64 2, .int .i64 7, .int .i64 a0, .int .i64 0, .int .i64 0, .int .i64 8]), tS 119 (idxp u4_Slots ((1 : Int).toNat * kr_ref10_Slot.sz)), tS 120 (idxp u4_Slots ((1 : Int).toNat * kr_ref10_Slot.sz)), tR (OwnR 126 kr_ref10_Slot u4_Slots ((qu4_Slots_e2.set (0 : Int).toNat ({ x119 with Cap := (⟨2, 7, w64 (a0 + 1), 0, 0, 0⟩ : api_Cap) } : ref10_Slot)).set (1 : Int).toNat ({ x131 with Cap := (⟨2, 7, a0, 0, 0, 8⟩ : api_Cap) } : ref10_Slot)))]) (D := [⟨[0], [], [9]⟩, ⟨[9], [], [10]⟩, ⟨[10], [], [11]⟩, ⟨[11, 4], [], [12]⟩, ⟨[1, 7], [], [13]⟩, ⟨[12, 3], [], [14]⟩, ⟨[14, 3], [], [15]⟩, ⟨[13, 15], [3], [16]⟩]) (ini := [0, 1, 2, 3, 4, 5, 6, 7, 8]) (fin := [2, 0, 16, 4, 5, 6, 7, 8]) (bf := [[], [0], [0, 1], [0, 1, 2], [], [0, 1, 2, 3, 4], [0, 1, 2, 3, 4, 5], [0, 1, 2, 3, 4, 5, 6]]) (by kernel_rfl) (by kernel_rfl) (fun Q => by kernel_rfl) (fun x w h1 h2 => ⟨(), (), (), (), (), (), (), (), (), EnvAll.of h1 ⟨rfl, rfl, rfl, rfl, trivial⟩, h2⟩) (fun Q => by kernel_rfl) ⟨?_, ?_, ?_, ?_, ?_, ?_, ?_, ?_, trivial⟩ ?_
  · rintro Fr _
    refine SO.v rfl (opv_move rfl) ?_
    exact SO.nilZ fun a w h1 h2 h3 h4 h5 => PZ.of h1 h3 h5 (.cons () (.cons () (.nil ⟨EnvAll.of h2 ⟨rfl, rfl, trivial⟩, h4⟩)))
  · rintro Fr _
    refine SO.v rfl (opv_nilCheck rfl) ?_
    exact SO.nilZ fun a w h1 h2 h3 h4 h5 => PZ.of h1 h3 h5 (.cons () (.cons () (.nil ⟨EnvAll.of h2 ⟨rfl, rfl, trivial⟩, h4⟩)))
  · rintro Fr _
    refine SO.v rfl (opv_fieldAddr Tryz.underlying124 rfl Tryz.sizeOf121 rfl rfl) ?_
    exact SO.nilZ fun a w h1 h2 h3 h4 h5 => PZ.of h1 h3 h5 (.cons () (.cons () (.nil ⟨EnvAll.of h2 ⟨rfl, rfl, trivial⟩, h4⟩)))
  · rintro Fr _ _
    refine SO.load1 rfl Tryz.isAgg121 rfl rfl ?_
    exact SO.nilZ fun a w h1 h2 h3 h4 h5 => PZ.of h1 h3 h5 (.cons () (.cons () (.cons () (.nil ⟨EnvAll.of h2 ⟨rfl, rfl, trivial⟩, h4⟩))))
  · rintro Fr _ _
    refine SO.loadN rfl Tryz.isAgg116 Tryz.sizeOf116 rfl rfl rfl ?_
    exact SO.nilZ fun a w h1 h2 h3 h4 h5 => PZ.of h1 h3 h5 (.cons () (.cons () (.cons () (.nil ⟨EnvAll.of h2 ⟨rfl, rfl, trivial⟩, h4⟩))))
  · rintro Fr _ _
    refine SO.v rfl (opv_idx Tryz.underlying121 Tryz.sizeOf126 hR130 rfl rfl hr134) ?_
    exact SO.nilZ fun a w h1 h2 h3 h4 h5 => PZ.of h1 h3 h5 (.cons () (.cons () (.cons () (.nil ⟨EnvAll.of h2 ⟨rfl, rfl, trivial⟩, h4⟩))))
  · rintro Fr _ _
    refine SO.v rfl (opv_fieldIdx Tryz.underlying126 rfl Tryz.sizeOf116 hR130 hr134 rfl rfl) ?_
    exact SO.nilZ fun a w h1 h2 h3 h4 h5 => PZ.of h1 h3 h5 (.cons () (.cons () (.cons () (.nil ⟨EnvAll.of h2 ⟨rfl, rfl, trivial⟩, h4⟩))))
  · rintro Fr _ _ _
    refine SO.storeOP (j := 0) (us := [.int .i64 2, .int .i64 7, .int .i64 a0, .int .i64 0, .int .i64 0, .int .i64 8]) (z' := ({ x131 with Cap := (⟨2, 7, a0, 0, 0, 8⟩ : api_Cap) } : ref10_Slot)) Tryz.sizeOf116 hrel129 hx132 rfl rfl rfl rfl rfl rfl rfl (fun raws136 hrel137 hR138 => ?_)
    refine SO.closeR ?_
    exact SO.nilZ fun a w h1 h2 h3 h4 h5 => PZ.of h1 h3 h5 (.cons () (.cons () (.cons () (.nil ⟨EnvAll.of h2 ⟨rfl, rfl, trivial⟩, h4⟩))))
  rintro _ _ _ _ _ _ _ _
  refine S.to (ρ' := [(0, .int .i64 a0), (2, .pointer none), (3, bp b3 0)]) ⟨rfl, rfl, rfl, trivial⟩ ?_
  refine S.seq ?_
  refine S.region ?_
  refine SO.v rfl (opv_move rfl) ?_
  refine SO.v rfl (opv_nilCheck rfl) ?_
  refine SO.v rfl (opv_fieldAddr Tryz.underlying124 rfl Tryz.sizeOf3 rfl rfl) ?_
  refine SO.b1 ?_
  refine SO.store1 Tryz.sizeOf3 rfl rfl rfl rfl ?_
  refine SO.nil ?_
  refine S.seq ?_
  refine S.region ?_
  refine SO.v rfl (opv_move rfl) ?_
  refine SO.v rfl (opv_move rfl) ?_
  refine SO.v rfl (opv_add rfl rfl) ?_
  refine SO.v rfl (opv_nilCheck rfl) ?_
  refine SO.v rfl (opv_fieldAddr Tryz.underlying124 rfl Tryz.sizeOf3 rfl rfl) ?_
  refine SO.store1 Tryz.sizeOf3 rfl rfl rfl rfl ?_
  refine SO.nil ?_
  refine S.to (ρ' := [(2, .pointer none), (3, bp b3 0)]) ⟨rfl, rfl, trivial⟩ ?_
  refine S.seq ?_
  refine S.region ?_
  refine SO.v rfl (opv_move rfl) ?_
  refine SO.v rfl (opv_assign rfl) ?_
  refine SO.nil ?_
  cases h
  refine S.b2 ?_
  refine S.closeR ?_
  refine S.b3 ?_
  refine S.drop ?_
  refine S.b3 ?_
  refine S.drop ?_
  refine S.b3 ?_
  refine S.b1 ?_
  refine S.b3 ?_
  refine S.b3 ?_
  exact S.ret1 Tryz.func26 rfl rfl (fun w hs hk => hR w _ _ ⟨b3, u4_Slots, u4_Objs, rfl, rfl⟩ hs hk)
end Go.Proofs
namespace Go.Proofs
open Go.Sl Go.RowKit
/-! 42 padstone/padstoneref01.Word -/
def ref01_Word.f (a0 : api_Cap) : Option (Int) :=
  some (wu64 ((wu64 ((wu64 ((wu64 ((wu64 ((wu64 a0.Kind) + (wu64 (16 * (wu64 a0.Rights))))) + (wu64 (128 * (wu64 a0.Obj))))) + (wu64 (4096 * (wu64 a0.Badge))))) + (wu64 (268435456 * (wu64 a0.Bits))))) + (wu64 (4294967296 * (wu64 a0.Guard)))))
set_option maxHeartbeats 8000000 in
set_option maxRecDepth 100000 in
theorem ref01_Word.ct (a0 : api_Cap) (r0 : Int) (h : ref01_Word.f a0 = some r0) :
    Ct Tryz.prog 42 [.agg #[.int .i64 a0.Kind, .int .i64 a0.Rights, .int .i64 a0.Obj, .int .i64 a0.Badge, .int .i64 a0.Guard, .int .i64 a0.Bits]] (fun _ => True) [] (fun u H' => u = .int .u64 r0 ∧ H' = []) := by
  unfold ref01_Word.f at h
  refine Ct.intro (n := 31) Tryz.func42 rfl rfl rfl ?_
  intro R w0 F hF hR
  refine S.seq ?_
  refine S.region ?_
  refine SO.box rfl rfl rfl (fun b1 => ?_)
  refine SO.v rfl (opv_assign rfl) ?_
  refine SO.nil ?_
  refine S.seq ?_
  refine S.region ?_
  refine SO.v rfl (opv_fieldAddr Tryz.underlying116 rfl Tryz.sizeOf3 rfl rfl) ?_
  refine SO.load1 rfl Tryz.isAgg3 rfl rfl ?_
  refine SO.v rfl (opv_conv Tryz.underlying3 Tryz.underlying58 rfl) ?_
  refine SO.v rfl (opv_fieldAddr Tryz.underlying116 rfl Tryz.sizeOf3 rfl rfl) ?_
  refine SO.load1 rfl Tryz.isAgg3 rfl rfl ?_
  refine SO.v rfl (opv_conv Tryz.underlying3 Tryz.underlying58 rfl) ?_
  refine SO.v rfl (opv_mul rfl rfl) ?_
  refine SO.v rfl (opv_add rfl rfl) ?_
  refine SO.v rfl (opv_fieldAddr Tryz.underlying116 rfl Tryz.sizeOf3 rfl rfl) ?_
  refine SO.load1 rfl Tryz.isAgg3 rfl rfl ?_
  refine SO.v rfl (opv_conv Tryz.underlying3 Tryz.underlying58 rfl) ?_
  refine SO.v rfl (opv_mul rfl rfl) ?_
  refine SO.v rfl (opv_add rfl rfl) ?_
  refine SO.v rfl (opv_fieldAddr Tryz.underlying116 rfl Tryz.sizeOf3 rfl rfl) ?_
  refine SO.load1 rfl Tryz.isAgg3 rfl rfl ?_
  refine SO.v rfl (opv_conv Tryz.underlying3 Tryz.underlying58 rfl) ?_
  refine SO.v rfl (opv_mul rfl rfl) ?_
  refine SO.v rfl (opv_add rfl rfl) ?_
  refine SO.v rfl (opv_fieldAddr Tryz.underlying116 rfl Tryz.sizeOf3 rfl rfl) ?_
  refine SO.load1 rfl Tryz.isAgg3 rfl rfl ?_
  refine SO.v rfl (opv_conv Tryz.underlying3 Tryz.underlying58 rfl) ?_
  refine SO.v rfl (opv_mul rfl rfl) ?_
  refine SO.v rfl (opv_add rfl rfl) ?_
  refine SO.v rfl (opv_fieldAddr Tryz.underlying116 rfl Tryz.sizeOf3 rfl rfl) ?_
  refine SO.load1 rfl Tryz.isAgg3 rfl rfl ?_
  refine SO.v rfl (opv_conv Tryz.underlying3 Tryz.underlying58 rfl) ?_
  refine SO.v rfl (opv_mul rfl rfl) ?_
  refine SO.v rfl (opv_add rfl rfl) ?_
  refine SO.v rfl (opv_assign rfl) ?_
  refine SO.nil ?_
  refine S.to (ρ' := [(2, .int .u64 (wu64 ((wu64 ((wu64 ((wu64 ((wu64 ((wu64 a0.Kind) + (wu64 (16 * (wu64 a0.Rights))))) + (wu64 (128 * (wu64 a0.Obj))))) + (wu64 (4096 * (wu64 a0.Badge))))) + (wu64 (268435456 * (wu64 a0.Bits))))) + (wu64 (4294967296 * (wu64 a0.Guard))))))]) ⟨rfl, trivial⟩ ?_
  cases h
  refine S.drop ?_
  exact S.ret1 Tryz.func42 rfl rfl (fun w hs hk => hR w _ _ ⟨rfl, rfl⟩ hs hk)
end Go.Proofs
