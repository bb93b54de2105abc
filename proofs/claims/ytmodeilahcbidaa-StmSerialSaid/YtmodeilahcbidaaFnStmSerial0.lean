/- What the functions that StmSerial reaches come to, and that they do. On no condition. -/
import Derived.Test.YtmodeilahcbidaaFr2
import Derived.Test.YtmodeilahcbidaaProg
set_option linter.all false
namespace Go.Proofs
open Go.Sl Go.RowKit
theorem inf3 : Try.prog.info? 3 = some Try.t3 := by kernel_rfl
theorem inf44 : Try.prog.info? 44 = some Try.t44 := by kernel_rfl
theorem inf46 : Try.prog.info? 46 = some Try.t46 := by kernel_rfl
theorem inf88 : Try.prog.info? 88 = some Try.t88 := by kernel_rfl
theorem inf114 : Try.prog.info? 114 = some Try.t114 := by kernel_rfl
theorem inf118 : Try.prog.info? 118 = some Try.t118 := by kernel_rfl
structure api_Cell where
  Value : Int
  Version : Int
  Mark : Int
  deriving DecidableEq, Inhabited
def ek_api_Cell : EK api_Cell := ⟨3, fun x => [.int .u64 x.Value, .int .u32 x.Version, .int .i64 x.Mark], fun _ => rfl, fun x v hv => by
  simp only [List.mem_cons, List.not_mem_nil, or_false] at hv
  rcases hv with rfl | rfl | rfl <;> rfl, by decide⟩
theorem eqI_api_Cell (x y : api_Cell) : eqI [x.Value, x.Version, x.Mark] [y.Value, y.Version, y.Mark] = decide (x = y) := by
  cases x; cases y
  rw [Bool.eq_iff_iff]
  simp [eqI]
theorem fi_api_Cell : ∀ fs, Try.prog.underlying 88 = some (.struct fs) → FI Try.prog fs.toList 0 [.u64, .u32, .i64] := by
  intro fs h
  rw [Try.underlying88] at h
  injection h with h
  injection h with h
  subst h
  exact ⟨by decide, Try.underlying46, rfl, ⟨by decide, Try.underlying22, rfl, ⟨by decide, Try.underlying3, rfl, trivial⟩⟩⟩
theorem eq_eql_api_Cell {ρ : Env} {t2 : TypeId} {x y : api_Cell} {a b : Operand} (ha : ev ρ a = some (.agg (encI [.u64, .u32, .i64] [x.Value, x.Version, x.Mark]).toArray)) (hb : ev ρ b = some (.agg (encI [.u64, .u32, .i64] [y.Value, y.Version, y.Mark]).toArray)) : OpV Try.prog ρ (.binOp .eql 88 a b t2) (.bool (decide (x = y))) :=
  opv_eqlS Try.underlying88 Try.stoodInHeld88 Try.eqGuardType88 (fi_api_Cell _ Try.underlying88) rfl rfl ha hb (by rw [eqI_api_Cell])
theorem eq_neq_api_Cell {ρ : Env} {t2 : TypeId} {x y : api_Cell} {a b : Operand} (ha : ev ρ a = some (.agg (encI [.u64, .u32, .i64] [x.Value, x.Version, x.Mark]).toArray)) (hb : ev ρ b = some (.agg (encI [.u64, .u32, .i64] [y.Value, y.Version, y.Mark]).toArray)) : OpV Try.prog ρ (.binOp .neq 88 a b t2) (.bool (!decide (x = y))) :=
  opv_neqS Try.underlying88 Try.stoodInHeld88 Try.eqGuardType88 (fi_api_Cell _ Try.underlying88) rfl rfl ha hb (by rw [eqI_api_Cell])
structure word_Store where
  l : List api_Cell
  limit : Int
  deriving DecidableEq, Inhabited
def kr_word_Store : EKR word_Store := ⟨2, fun x => [.sl ek_api_Cell x.l, .val (.int .u32 x.limit)], fun _ => rfl, fun x v hv => by
  simp only [List.mem_cons, List.not_mem_nil, or_false, CellP.val.injEq, reduceCtorEq, false_or] at hv
  rcases hv with rfl <;> rfl, by decide⟩
structure tx_Tx where
  cells : Int
  l : Option (List (Int × api_Cell))
  out : Option (List (Int × Int))
  lack : Int
  fine : Bool
  deriving DecidableEq, Inhabited
structure tx_Entry where
  Cell : Int
  Version : Int
  Old : Int
  New : Int
  Write : Bool
  deriving DecidableEq, Inhabited
def ek_tx_Entry : EK tx_Entry := ⟨5, fun x => [.int .i64 x.Cell, .int .u32 x.Version, .int .u64 x.Old, .int .u64 x.New, .bool x.Write], fun _ => rfl, fun x v hv => by
  simp only [List.mem_cons, List.not_mem_nil, or_false] at hv
  rcases hv with rfl | rfl | rfl | rfl | rfl <;> rfl, by decide⟩
structure desc_Desc where
  mark : Int
  l : List tx_Entry
  status : Int
  at_ : Int
  deriving DecidableEq, Inhabited
def kr_desc_Desc : EKR desc_Desc := ⟨4, fun x => [.val (.int .i64 x.mark), .sl ek_tx_Entry x.l, .val (.int .i64 x.status), .val (.int .i64 x.at_)], fun _ => rfl, fun x v hv => by
  simp only [List.mem_cons, List.not_mem_nil, or_false, CellP.val.injEq, reduceCtorEq, false_or] at hv
  rcases hv with rfl | rfl | rfl <;> rfl, by decide⟩
structure view_Pair_api_Cell where
  At : Int
  Val : api_Cell
  deriving DecidableEq, Inhabited
def ek_view_Pair_api_Cell : EK view_Pair_api_Cell := ⟨4, fun x => [.int .i64 x.At, .int .u64 x.Val.Value, .int .u32 x.Val.Version, .int .i64 x.Val.Mark], fun _ => rfl, fun x v hv => by
  simp only [List.mem_cons, List.not_mem_nil, or_false] at hv
  rcases hv with rfl | rfl | rfl | rfl <;> rfl, by decide⟩
structure stm_Entry where
  Worker : Int
  Job : Int
  Told : Int
  Spent : Bool
  deriving DecidableEq, Inhabited
def ek_stm_Entry : EK stm_Entry := ⟨4, fun x => [.int .i64 x.Worker, .int .i64 x.Job, .int .i64 x.Told, .bool x.Spent], fun _ => rfl, fun x v hv => by
  simp only [List.mem_cons, List.not_mem_nil, or_false] at hv
  rcases hv with rfl | rfl | rfl | rfl <;> rfl, by decide⟩

structure law06_Op where
  Look : Bool
  Jump : Bool
  From : Int
  To : Int
  N : Int
  deriving DecidableEq, Inhabited
def ek_law06_Op : EK law06_Op := ⟨5, fun x => [.bool x.Look, .bool x.Jump, .int .i64 x.From, .int .i64 x.To, .int .u64 x.N], fun _ => rfl, fun x v hv => by
  simp only [List.mem_cons, List.not_mem_nil, or_false] at hv
  rcases hv with rfl | rfl | rfl | rfl | rfl <;> rfl, by decide⟩

end Go.Proofs
set_option linter.unusedVariables false
namespace Go.Proofs
open Go.Sl Go.RowKit
def rep_desc_Desc (b : Nat) (t : desc_Desc) : HProp := fun m => ∃ (g_l : Value), stars [Box b [.int .i64 t.mark, g_l, .int .i64 t.status, .int .i64 t.at_], Own 114 ek_tx_Entry g_l t.l] m
theorem so_open_desc_Desc {P : Program} {n : Nat} {Z : Act → World → Prop} {w0 : Beg} {ops : Array Oper} {l : List Oper} {ρ : Env} {rest : List HProp} {b : Nat} {t : desc_Desc} (h : ∀ g_l, SO P n Z w0 ops l ρ (Box b [.int .i64 t.mark, g_l, .int .i64 t.status, .int .i64 t.at_] :: Own 114 ek_tx_Entry g_l t.l :: rest)) : SO P n Z w0 ops l ρ (rep_desc_Desc b t :: rest) := by
  intro a w h1 h2 h3 h4 h5
  obtain ⟨m1, m2, d, s1, s2, ⟨g_l, hx⟩, hr⟩ := h4
  exact h g_l a w h1 h2 h3 ((stars_append [Box b [.int .i64 t.mark, g_l, .int .i64 t.status, .int .i64 t.at_], Own 114 ek_tx_Entry g_l t.l] rest (hp w)).2 ⟨m1, m2, d, s1, s2, hx, hr⟩) h5
theorem so_close_desc_Desc {P : Program} {n : Nat} {Z : Act → World → Prop} {w0 : Beg} {ops : Array Oper} {l : List Oper} {ρ : Env} {rest : List HProp} {b : Nat} {t : desc_Desc} {g_l : Value} (h : SO P n Z w0 ops l ρ (rep_desc_Desc b t :: rest)) : SO P n Z w0 ops l ρ (Box b [.int .i64 t.mark, g_l, .int .i64 t.status, .int .i64 t.at_] :: Own 114 ek_tx_Entry g_l t.l :: rest) := h.sat fun w s => by
  have h2 : stars ([Box b [.int .i64 t.mark, g_l, .int .i64 t.status, .int .i64 t.at_], Own 114 ek_tx_Entry g_l t.l] ++ rest) (hp w) := s
  obtain ⟨m1, m2, d, s1, s2, hx, hr⟩ := (stars_append _ _ _).1 h2
  exact ⟨m1, m2, d, s1, s2, ⟨g_l, hx⟩, hr⟩
theorem s_open_desc_Desc {P : Program} {f : FuncId} {n : Nat} {R : Ending → World → Prop} {w0 : Beg} {k : List Item} {ρ : Env} {rest : List HProp} {b : Nat} {t : desc_Desc} (h : ∀ g_l, S P f n R w0 k ρ (Box b [.int .i64 t.mark, g_l, .int .i64 t.status, .int .i64 t.at_] :: Own 114 ek_tx_Entry g_l t.l :: rest)) : S P f n R w0 k ρ (rep_desc_Desc b t :: rest) := by
  intro a w h1 h2 h3 h4 h5
  obtain ⟨m1, m2, d, s1, s2, ⟨g_l, hx⟩, hr⟩ := h4
  exact h g_l a w h1 h2 h3 ((stars_append [Box b [.int .i64 t.mark, g_l, .int .i64 t.status, .int .i64 t.at_], Own 114 ek_tx_Entry g_l t.l] rest (hp w)).2 ⟨m1, m2, d, s1, s2, hx, hr⟩) h5
theorem s_close_desc_Desc {P : Program} {f : FuncId} {n : Nat} {R : Ending → World → Prop} {w0 : Beg} {k : List Item} {ρ : Env} {rest : List HProp} {b : Nat} {t : desc_Desc} {g_l : Value} (h : S P f n R w0 k ρ (rep_desc_Desc b t :: rest)) : S P f n R w0 k ρ (Box b [.int .i64 t.mark, g_l, .int .i64 t.status, .int .i64 t.at_] :: Own 114 ek_tx_Entry g_l t.l :: rest) := h.sat fun w s => by
  have h2 : stars ([Box b [.int .i64 t.mark, g_l, .int .i64 t.status, .int .i64 t.at_], Own 114 ek_tx_Entry g_l t.l] ++ rest) (hp w) := s
  obtain ⟨m1, m2, d, s1, s2, hx, hr⟩ := (stars_append _ _ _).1 h2
  exact ⟨m1, m2, d, s1, s2, ⟨g_l, hx⟩, hr⟩
def ekMd : EK (Nat × stm_Entry) := ⟨5, fun x => [bp x.1 0, .int .i64 x.2.Worker, .int .i64 x.2.Job, .int .i64 x.2.Told, .bool x.2.Spent], fun _ => rfl, fun x v hv => by
  simp only [List.mem_cons, List.not_mem_nil, or_false] at hv
  rcases hv with rfl | rfl | rfl | rfl | rfl <;> rfl, by decide⟩
/-- A pointer to a record, or nil. -/
def TxO (v : Value) (t : Option tx_Tx) : HProp := fun m => match t with | none => v = .pointer none | some t => ∃ b vl vo, v = bp b 0 ∧ stars [Box b [.int .i64 t.cells, vl, vo, .int .i64 t.lack, .bool t.fine], MapO (aggE ek_api_Cell) vl t.l, MapO (Value.int .u64) vo t.out] m
theorem S.txNil {P : Program} {f : FuncId} {n : Nat} {R : Ending → World → Prop} {w0 : Beg} {k : List Item} {ρ : Env} {rest : List HProp} (h : S P f n R w0 k ρ (TxO (.pointer none) none :: rest)) : S P f n R w0 k ρ rest :=
  h.sat fun w s => show stars (TxO (.pointer none) none :: rest) (hp w) from ⟨fun _ => none, hp w, fun _ => .inl rfl, fun _ _ e => by simp at e, .refl _, rfl, s⟩
theorem S.txSome {P : Program} {f : FuncId} {n : Nat} {R : Ending → World → Prop} {w0 : Beg} {k : List Item} {ρ : Env} {rest : List HProp} {b : Nat} {c l : Int} {L : Option (List (Int × api_Cell))} {O : Option (List (Int × Int))} {fi : Bool} {vl vo : Value} (h : S P f n R w0 k ρ (TxO (bp b 0) (some ⟨c, L, O, l, fi⟩) :: rest)) : S P f n R w0 k ρ (Box b [.int .i64 c, vl, vo, .int .i64 l, .bool fi] :: MapO (aggE ek_api_Cell) vl L :: MapO (Value.int .u64) vo O :: rest) := h.sat fun w s => by
  have h2 : stars ([Box b [.int .i64 c, vl, vo, .int .i64 l, .bool fi], MapO (aggE ek_api_Cell) vl L, MapO (Value.int .u64) vo O] ++ rest) (hp w) := s
  obtain ⟨m1, m2, d, s1, s2, hx, hr⟩ := (stars_append _ _ _).1 h2
  exact ⟨m1, m2, d, s1, s2, ⟨b, vl, vo, rfl, hx⟩, hr⟩
/-- What a feed tells: nothing, or a job, with what it owns. -/
def IsNil (u : Value) : HProp := fun _ => u = .nilFunc
def IsJob (JR : Value → HProp) (u : Value) : HProp := fun m => (∃ (jf : FuncId) (jcs : List Value), u = .func (.func jf) #[] jcs.toArray) ∧ JR u m
theorem SO.openNil {P : Program} {n : Nat} {Z : Act → World → Prop} {w0 : Beg} {ops : Array Oper} {l : List Oper} {ρ : Env} {rest : List HProp} {u : Value} (h : u = .nilFunc → SO P n Z w0 ops l ρ rest) : SO P n Z w0 ops l ρ (IsNil u :: rest) := by
  intro a w h1 h2 h3 h4 h5
  obtain ⟨m1, m2, d, s1, s2, hx, hr⟩ := h4
  exact h hx a w h1 h2 h3 (stars_mono _ s2 hr) h5
theorem SO.openJob {P : Program} {n : Nat} {Z : Act → World → Prop} {w0 : Beg} {ops : Array Oper} {l : List Oper} {ρ : Env} {rest : List HProp} {u : Value} {JR : Value → HProp} (h : ∀ (jf : FuncId) (jcs : List Value), u = .func (.func jf) #[] jcs.toArray → SO P n Z w0 ops l ρ (JR u :: rest)) : SO P n Z w0 ops l ρ (IsJob JR u :: rest) := by
  intro a w h1 h2 h3 h4 h5
  obtain ⟨m1, m2, d, s1, s2, ⟨⟨jf, jcs, e⟩, hx⟩, hr⟩ := h4
  exact h jf jcs e a w h1 h2 h3 ⟨m1, m2, d, s1, s2, hx, hr⟩ h5
/-- A row of functions. -/
def ekV {α : Type} (jv : α → Value) (h : ∀ a, (jv a).oneCell' = true) : EK α := ⟨1, fun a => [jv a], fun _ => rfl, fun a v hv => by simp at hv; subst hv; exact h a, by decide⟩
/-- A worker that has done nothing yet. -/
abbrev NW {α : Type} (jv : α → Value) (b : Nat) (a : α) : HProp := Box b [jv a, .nilFunc, .pointer none, .pointer none, .slice none 0 0]
section
variable {P : Program} {ρ : Env}
theorem opv_lenW {α : Type} {bs : List Nat} {ys : List α} {v : Value} {A : HProp} {x : Operand} {tys : Array TypeId} {t e : TypeId} (hl : bs.length = ys.length) (ht0 : tys[0]? = some t) (ht : P.underlying t = some (.slice e)) (hR : Rd ekP v bs A) (hx : ev ρ x = some v) : OpV P ρ (.call ⟨.builtin .len, #[x], tys⟩) (.int .i64 (ys.length : Int)) := by
  have := opv_lenR (ρ := ρ) ht0 ht hR hx
  rwa [hl] at this
theorem opv_eqlFV {t t2 : TypeId} {x : Operand} {fn : Fn} {us cs : Array Value} {u : TypeDesc} (ht : P.underlying t = some u) (hu : (match u with | .func .. => true | _ => false) = true) (hx : ev ρ x = some (.func fn us cs)) : OpV P ρ (.binOp .eql t x (.const .nilFunc) t2) (.bool false) := opv_eqlFN ht hu hx
theorem opv_neqFV {t t2 : TypeId} {x : Operand} {fn : Fn} {us cs : Array Value} {u : TypeDesc} (ht : P.underlying t = some u) (hu : (match u with | .func .. => true | _ => false) = true) (hx : ev ρ x = some (.func fn us cs)) : OpV P ρ (.binOp .neq t x (.const .nilFunc) t2) (.bool true) :=
  fun r w d t' p af g hr => by
    have h0 : r (.const .nilFunc) = .nilFunc := hr _ _ rfl
    have key : ∀ d, (Op.equalIn (d + 2) t (.func fn us cs) .nilFunc).run P w = .ok false w := fun d => by
      cases u <;> first | (simp at hu; done) | simp [Op.equalIn, run_underlying ht]
    simp [execOp, hr x _ hx, h0, eqGuard, binOp, eql_run w key]
theorem opv_eqlFF {t t2 : TypeId} {x : Operand} {u : TypeDesc} (ht : P.underlying t = some u) (hu : (match u with | .func .. => true | _ => false) = true) (hx : ev ρ x = some .nilFunc) : OpV P ρ (.binOp .eql t x (.const .nilFunc) t2) (.bool true) :=
  fun r w d t' p af g hr => by
    have h0 : r (.const .nilFunc) = .nilFunc := hr _ _ rfl
    have key : ∀ d, (Op.equalIn (d + 2) t .nilFunc .nilFunc).run P w = .ok true w := fun d => by
      cases u <;> first | (simp at hu; done) | simp [Op.equalIn, run_underlying ht]
    simp [execOp, hr x _ hx, h0, eqGuard, binOp, eql_run w key]
theorem opv_neqFF {t t2 : TypeId} {x : Operand} {u : TypeDesc} (ht : P.underlying t = some u) (hu : (match u with | .func .. => true | _ => false) = true) (hx : ev ρ x = some .nilFunc) : OpV P ρ (.binOp .neq t x (.const .nilFunc) t2) (.bool false) :=
  fun r w d t' p af g hr => by
    have h0 : r (.const .nilFunc) = .nilFunc := hr _ _ rfl
    have key : ∀ d, (Op.equalIn (d + 2) t .nilFunc .nilFunc).run P w = .ok true w := fun d => by
      cases u <;> first | (simp at hu; done) | simp [Op.equalIn, run_underlying ht]
    simp [execOp, hr x _ hx, h0, eqGuard, binOp, eql_run w key]
theorem opv_eqlEV {t t2 : TypeId} {x : Operand} {v : Value} {b : Bool} {u : TypeDesc} (ht : P.underlying t = some u) (hu : (match u with | .func .. => true | _ => false) = true) (hc : cond b (v = .nilFunc) (∃ fn us cs, v = .func fn us cs)) (hx : ev ρ x = some v) : OpV P ρ (.binOp .eql t x (.const .nilFunc) t2) (.bool b) := by
  cases b with
  | true => have hc : v = .nilFunc := hc
            subst hc; exact opv_eqlFF ht hu hx
  | false => obtain ⟨fn, us, cs, rfl⟩ : ∃ fn us cs, v = .func fn us cs := hc
             exact opv_eqlFV ht hu hx
end

end Go.Proofs
namespace Go.Proofs
open Go.Sl Go.RowKit
/-! 13 padstone/padstonelaw06.Do -/
def law06_Do.l1 (a1 : List law06_Op) : Nat → (Int × Int) → VM (Int)
  | 0, _ => VM.fail
  | k + 1, (x6_1, x5_1) => bif decide (x6_1 < (a1.length : Int)) then ((VM.opt (at_ a1 x6_1)).bind fun x2 => VM.rd x2.From fun t4 => (VM.opt (at_ a1 x6_1)).bind fun x7 => bif x7.Jump && ((t4.tmod 2) == 1) then ((VM.opt (at_ a1 x6_1)).bind fun x11 => law06_Do.l1 a1 k (w64 ((w64 (x6_1 + (w64 (x11.N.tmod 4)))) + 1), wu64 ((wu64 (x5_1 * 3)) + t4))) else ((VM.opt (at_ a1 x6_1)).bind fun x13 => bif !x13.Look then ((VM.opt (at_ a1 x6_1)).bind fun x16 => (VM.opt (at_ a1 x6_1)).bind fun x18 => VM.wr x16.To (wu64 (t4 + x18.N)) (law06_Do.l1 a1 k (w64 (x6_1 + 1), wu64 ((wu64 (x5_1 * 3)) + t4)))) else (law06_Do.l1 a1 k (w64 (x6_1 + 1), wu64 ((wu64 (x5_1 * 3)) + t4))))) else (VM.ret x5_1)
def law06_Do.f (k : Nat) (a1 : List law06_Op) : VM (Int) :=
  (law06_Do.l1 a1 k (0, 0)).bind fun j5_e1 => VM.ret j5_e1
set_option maxHeartbeats 8000000 in
set_option maxRecDepth 100000 in
theorem law06_Do.ct (V : VW Try.prog) (k : Nat) (v1 : Value) (a1 : List law06_Op) (r0 : Int) (s s' : V.S) (h : VM.run V.toVI (law06_Do.f k a1) s = some (r0, s')) :
    Ct Try.prog 13 [V.val, v1] (fun F => Rd ek_law06_Op v1 a1 F) [V.rep s] (fun u H' => u = .int .u64 r0 ∧ H' = [V.rep s']) := by
  unfold law06_Do.f at h
  refine Ct.intro (n := 71) Try.func13 rfl rfl rfl ?_
  intro R w0 F hF hR
  have hF1 := hF
  refine S.seq ?_
  refine S.region ?_
  refine SO.v rfl (opv_assign rfl) ?_
  refine SO.nil ?_
  refine S.seq ?_
  refine S.region ?_
  refine SO.v rfl (opv_assign rfl) ?_
  refine SO.nil ?_
  refine S.seq ?_
  refine S.seq ?_
  refine S.region ?_
  refine SO.v rfl (opv_assign rfl) ?_
  refine SO.nil ?_
  obtain ⟨j5_e1, so_1, hlp1, h⟩ := VM.bind_some V.toVI h
  refine S.b1 ?_
  refine S.b1 ?_
  refine S.to (ρ' := [(6, .int .i64 0), (5, .int .u64 0), (4, .int .u64 0), (0, V.val), (1, v1)]) ⟨rfl, rfl, rfl, rfl, rfl, trivial⟩ ?_
  refine S.forloop (X := ((Int × Int) × V.S) × Unit) (O := (Int) × V.S) (fun m x => VM.run V.toVI (law06_Do.l1 a1 m x.1.1) x.1.2) (fun x => match x with | (((x6_1, x5_1), sx_1), _) => [(6, .int .i64 x6_1), (5, .int .u64 x5_1), (4, .int .u64 0), (0, V.val), (1, v1)]) (fun x => match x with | (((x6_1, x5_1), sx_1), _) => [V.rep sx_1, F]) (fun Sk oo => match oo with | (j5_e1, so_1) => ∀ _ : Unit, Sk [(4, .int .u64 0), (5, .int .u64 j5_e1)] [V.rep so_1, F]) (fun _ => rfl) ?_ (m := k) (x := (((0, 0), s), ())) hlp1 ?_
  · clear h hlp1
    intro k x o_1 h hK1 ih1
    obtain ⟨⟨⟨x6_1, x5_1⟩, sx_1⟩, _⟩ := x
    obtain ⟨o_1, so_1_⟩ := o_1
    replace h : VM.run V.toVI (law06_Do.l1 a1 (k + 1) (x6_1, x5_1)) sx_1 = some (o_1, so_1_) := h
    first | rw [law06_Do.l1] at h | unfold law06_Do.l1 at h
    refine S.seq ?_
    refine S.seq ?_
    refine S.region ?_
    refine SO.v rfl (opv_move rfl) ?_
    refine SO.v rfl (opv_move rfl) ?_
    refine SO.v rfl (opv_lenR rfl Try.underlying48 hF1 rfl) ?_
    refine SO.v rfl (opv_lss rfl rfl) ?_
    refine SO.nil ?_
    rcases bool_or (decide (x6_1 < (a1.length : Int))) with b1 | b1
    · replace h := VM.cond_t V.toVI b1 h
      refine S.condT rfl b1 ?_
      refine S.skip ?_
      refine S.seq ?_
      refine S.block ?_
      refine S.seq ?_
      obtain ⟨x2, hx3, h⟩ := VM.opt_some V.toVI h
      obtain ⟨t4, s5, hv6, h⟩ := VM.rd_some V.toVI h
      refine S.draw2 (Y := fun Q => ∃ (_ _ _ _ _ _ : Unit), Q [(0, V.val), (1, v1), (6, .int .i64 x6_1), (5, .int .u64 x5_1), (4, .int .u64 0)] [V.rep sx_1, F]) (Z := fun Q => ∀ (_ _ _ _ _ _ _ : Unit), Q [(6, .int .i64 x6_1), (5, .int .u64 x5_1), (4, .int .u64 0), (0, V.val), (1, v1), (7, .int .u64 t4)] [V.rep s5, F]) (T := [tS 0 (V.val), tS 1 (v1), tS 6 (.int .i64 x6_1), tE [(5, .int .u64 x5_1), (4, .int .u64 0)], tR (V.rep sx_1), tR (F), tS 14 (V.val), tS 15 (v1), tS 16 (.int .i64 x6_1), tS 17 (idxp v1 (x6_1.toNat * ek_law06_Op.sz)), tS 18 (idxp v1 (x6_1.toNat * ek_law06_Op.sz + 2)), tS 19 (.int .i64 x2.From), tS 20 (.func (.method "Read") #[V.val] #[]), tS 21 (.func (.method "Read") #[V.val] #[]), tS 22 (V.val), tR (V.rep s5), tS 23 (.int .u64 t4), tS 7 (.int .u64 t4)]) (D := [⟨[0], [], [6]⟩, ⟨[1], [], [7]⟩, ⟨[2], [], [8]⟩, ⟨[7, 8, 5], [], [9]⟩, ⟨[9, 5], [], [10]⟩, ⟨[10, 5], [], [11]⟩, ⟨[6], [], [12]⟩, ⟨[12], [], [13]⟩, ⟨[6], [], [14]⟩, ⟨[11, 14], [4], [15, 16]⟩, ⟨[16], [], [17]⟩]) (ini := [0, 1, 2, 3, 4, 5]) (fin := [2, 3, 0, 1, 17, 15, 5]) (bf := [[], [], [], [1, 2], [1, 2, 3], [1, 2, 3, 4], [0], [0, 6], [0, 6, 7], [0, 1, 2, 3, 4, 5, 6, 7, 8], [0, 1, 2, 3, 4, 5, 6, 7, 8, 9]]) (by kernel_rfl) (by kernel_rfl) (fun Q => by kernel_rfl) (fun x w h1 h2 => ⟨(), (), (), (), (), (), EnvAll.of h1 ⟨rfl, rfl, rfl, rfl, rfl, trivial⟩, h2⟩) (fun Q => by kernel_rfl) ⟨?_, ?_, ?_, ?_, ?_, ?_, ?_, ?_, ?_, ?_, ?_, trivial⟩ ?_
      · rintro Fr _
        refine SO.v rfl (opv_move rfl) ?_
        exact SO.nilZ fun a w h1 h2 h3 h4 h5 => PZ.of h1 h3 h5 (.cons () (.cons () (.nil ⟨EnvAll.of h2 ⟨rfl, rfl, trivial⟩, h4⟩)))
      · rintro Fr _
        refine SO.v rfl (opv_move rfl) ?_
        exact SO.nilZ fun a w h1 h2 h3 h4 h5 => PZ.of h1 h3 h5 (.cons () (.cons () (.nil ⟨EnvAll.of h2 ⟨rfl, rfl, trivial⟩, h4⟩)))
      · rintro Fr _
        refine SO.v rfl (opv_move rfl) ?_
        exact SO.nilZ fun a w h1 h2 h3 h4 h5 => PZ.of h1 h3 h5 (.cons () (.cons () (.nil ⟨EnvAll.of h2 ⟨rfl, rfl, trivial⟩, h4⟩)))
      · rintro Fr _ _ _
        refine SO.v rfl (opv_idx Try.underlying48 Try.sizeOf84 hF1 rfl rfl hx3) ?_
        exact SO.nilZ fun a w h1 h2 h3 h4 h5 => PZ.of h1 h3 h5 (.cons () (.cons () (.cons () (.cons () (.nil ⟨EnvAll.of h2 ⟨rfl, rfl, rfl, trivial⟩, h4⟩)))))
      · rintro Fr _ _
        refine SO.v rfl (opv_fieldIdx Try.underlying84 rfl Try.sizeOf3 hF1 hx3 rfl rfl) ?_
        exact SO.nilZ fun a w h1 h2 h3 h4 h5 => PZ.of h1 h3 h5 (.cons () (.cons () (.cons () (.nil ⟨EnvAll.of h2 ⟨rfl, rfl, trivial⟩, h4⟩))))
      · rintro Fr _ _
        refine SO.loadI1 (j := 2) rfl Try.isAgg3 (Rd.head hF1) hx3 rfl rfl rfl rfl ?_
        exact SO.nilZ fun a w h1 h2 h3 h4 h5 => PZ.of h1 h3 h5 (.cons () (.cons () (.cons () (.nil ⟨EnvAll.of h2 ⟨rfl, rfl, trivial⟩, h4⟩))))
      · rintro Fr _
        refine SO.v rfl (opv_makeFunc (fn := .method "Read") rfl rfl) ?_
        exact SO.nilZ fun a w h1 h2 h3 h4 h5 => PZ.of h1 h3 h5 (.cons () (.cons () (.nil ⟨EnvAll.of h2 ⟨rfl, rfl, trivial⟩, h4⟩)))
      · rintro Fr _
        refine SO.v rfl (opv_nilCheckR V rfl) ?_
        exact SO.nilZ fun a w h1 h2 h3 h4 h5 => PZ.of h1 h3 h5 (.cons () (.cons () (.nil ⟨EnvAll.of h2 ⟨rfl, rfl, trivial⟩, h4⟩)))
      · rintro Fr _
        refine SO.v rfl (opv_move rfl) ?_
        exact SO.nilZ fun a w h1 h2 h3 h4 h5 => PZ.of h1 h3 h5 (.cons () (.cons () (.nil ⟨EnvAll.of h2 ⟨rfl, rfl, trivial⟩, h4⟩)))
      · rintro Fr _ _ _
        refine SO.vread' V rfl rfl rfl hv6 ?_
        exact SO.nilZ fun a w h1 h2 h3 h4 h5 => PZ.of h1 h3 h5 (.cons () (.cons () (.cons () (.cons () (.nil ⟨EnvAll.of h2 ⟨rfl, rfl, rfl, trivial⟩, h4⟩)))))
      · rintro Fr _
        refine SO.v rfl (opv_assign rfl) ?_
        exact SO.nilZ fun a w h1 h2 h3 h4 h5 => PZ.of h1 h3 h5 (.cons () (.cons () (.nil ⟨EnvAll.of h2 ⟨rfl, rfl, trivial⟩, h4⟩)))
      rintro _ _ _ _ _ _ _
      refine S.to (ρ' := [(6, .int .i64 x6_1), (5, .int .u64 x5_1), (4, .int .u64 0), (0, V.val), (1, v1), (7, .int .u64 t4)]) ⟨rfl, rfl, rfl, rfl, rfl, rfl, trivial⟩ ?_
      refine S.seq ?_
      refine S.region ?_
      refine SO.v rfl (opv_move rfl) ?_
      refine SO.v rfl (opv_mul rfl rfl) ?_
      refine SO.v rfl (opv_move rfl) ?_
      refine SO.v rfl (opv_add rfl rfl) ?_
      refine SO.v rfl (opv_assign rfl) ?_
      refine SO.nil ?_
      refine S.seq ?_
      refine S.seq ?_
      refine S.region ?_
      refine SO.v rfl (opv_move rfl) ?_
      refine SO.v rfl (opv_move rfl) ?_
      obtain ⟨x7, hx8, h⟩ := VM.opt_some V.toVI h
      refine SO.v rfl (opv_idx Try.underlying48 Try.sizeOf84 hF1 rfl rfl hx8) ?_
      refine SO.v rfl (opv_fieldIdx Try.underlying84 rfl Try.sizeOf4 hF1 hx8 rfl rfl) ?_
      refine SO.loadI1 (j := 1) rfl Try.isAgg4 (Rd.tail (Rd.head hF1)) hx8 rfl rfl rfl rfl ?_
      refine SO.v rfl (opv_move rfl) ?_
      refine SO.cut 4 37 (.bool (x7.Jump && ((t4.tmod 2) == 1))) [V.rep s5, F] (fun l2 hk2 => ?_) ?_
      · rcases bool_or x7.Jump with b9 | b9
        · refine SO.takeT rfl rfl rfl b9 ?_
          refine SO.v rfl (opv_move rfl) ?_
          refine SO.takeT rfl rfl rfl b9 ?_
          refine SO.v rfl (opv_rem rfl rfl (by decide)) ?_
          refine SO.takeT rfl rfl rfl b9 ?_
          refine SO.v rfl (opv_eql rfl rfl) ?_
          refine SO.v rfl (opv_pick_t' b9 rfl rfl) ?_
          refine SO.b1 ?_
          refine SO.b1 ?_
          exact hk2.fitc (m := 4) rfl (and_t b9) rfl
        refine SO.passF rfl rfl rfl b9 rfl rfl ?_
        refine SO.passF rfl rfl rfl b9 rfl rfl ?_
        refine SO.passF rfl rfl rfl b9 rfl rfl ?_
        refine SO.v rfl (opv_pick_f' b9 rfl rfl) ?_
        refine SO.b1 ?_
        refine SO.b1 ?_
        exact hk2.fitc (m := 4) rfl (and_f b9) rfl
      refine SO.nil ?_
      refine S.to (ρ' := [(6, .int .i64 x6_1), (5, .int .u64 (wu64 ((wu64 (x5_1 * 3)) + t4))), (4, .int .u64 0), (0, V.val), (1, v1), (7, .int .u64 t4), (37, .bool (x7.Jump && ((t4.tmod 2) == 1)))]) ⟨rfl, rfl, rfl, rfl, rfl, rfl, rfl, trivial⟩ ?_
      rcases bool_or (x7.Jump && ((t4.tmod 2) == 1)) with b10 | b10
      · replace h := VM.cond_t V.toVI b10 h
        refine S.condT rfl b10 ?_
        refine S.seq ?_
        refine S.region ?_
        refine SO.v rfl (opv_move rfl) ?_
        refine SO.v rfl (opv_move rfl) ?_
        refine SO.v rfl (opv_move rfl) ?_
        obtain ⟨x11, hx12, h⟩ := VM.opt_some V.toVI h
        refine SO.v rfl (opv_idx Try.underlying48 Try.sizeOf84 hF1 rfl rfl hx12) ?_
        refine SO.v rfl (opv_fieldIdx Try.underlying84 rfl Try.sizeOf46 hF1 hx12 rfl rfl) ?_
        refine SO.loadI1 (j := 4) rfl Try.isAgg46 (Rd.tail (Rd.head hF1)) hx12 rfl rfl rfl rfl ?_
        refine SO.v rfl (opv_rem rfl rfl (by decide)) ?_
        refine SO.v rfl (opv_conv Try.underlying46 Try.underlying3 rfl) ?_
        refine SO.v rfl (opv_add rfl rfl) ?_
        refine SO.v rfl (opv_assign rfl) ?_
        refine SO.nil ?_
        refine S.to (ρ' := [(6, .int .i64 (w64 (x6_1 + (w64 (x11.N.tmod 4))))), (5, .int .u64 (wu64 ((wu64 (x5_1 * 3)) + t4))), (4, .int .u64 0), (0, V.val), (1, v1)]) ⟨rfl, rfl, rfl, rfl, rfl, trivial⟩ ?_
        refine S.exit rfl ?_
        refine S.region ?_
        refine SO.v rfl (opv_move rfl) ?_
        refine SO.v rfl (opv_add rfl rfl) ?_
        refine SO.v rfl (opv_assign rfl) ?_
        refine SO.nil ?_
        refine S.b1 ?_
        refine S.b1 ?_
        refine S.to ?_ (ih1 (((w64 ((w64 (x6_1 + (w64 (x11.N.tmod 4)))) + 1), wu64 ((wu64 (x5_1 * 3)) + t4)), s5), ()) h)
        exact ⟨rfl, rfl, rfl, rfl, rfl, trivial⟩
      replace h := VM.cond_f V.toVI b10 h
      refine S.condF rfl b10 ?_
      refine S.skip ?_
      refine S.seq ?_
      refine S.region ?_
      refine SO.v rfl (opv_move rfl) ?_
      refine SO.v rfl (opv_move rfl) ?_
      obtain ⟨x13, hx14, h⟩ := VM.opt_some V.toVI h
      refine SO.v rfl (opv_idx Try.underlying48 Try.sizeOf84 hF1 rfl rfl hx14) ?_
      refine SO.v rfl (opv_fieldIdx Try.underlying84 rfl Try.sizeOf4 hF1 hx14 rfl rfl) ?_
      refine SO.loadI1 (j := 0) rfl Try.isAgg4 (Rd.tail (Rd.head hF1)) hx14 rfl rfl rfl rfl ?_
      refine SO.v rfl (opv_not rfl) ?_
      refine SO.nil ?_
      rcases bool_or (!x13.Look) with b15 | b15
      · replace h := VM.cond_t V.toVI b15 h
        refine S.condT rfl b15 ?_
        obtain ⟨x16, hx17, h⟩ := VM.opt_some V.toVI h
        obtain ⟨x18, hx19, h⟩ := VM.opt_some V.toVI h
        obtain ⟨s20, hv21, h⟩ := VM.wr_some V.toVI h
        refine S.draw2 (Y := fun Q => ∃ (_ _ _ _ _ _ _ : Unit), Q [(0, V.val), (1, v1), (6, .int .i64 x6_1), (7, .int .u64 t4), (5, .int .u64 (wu64 ((wu64 (x5_1 * 3)) + t4))), (4, .int .u64 0)] [V.rep s5, F]) (Z := fun Q => ∀ (_ _ _ _ _ _ : Unit), Q [(6, .int .i64 x6_1), (5, .int .u64 (wu64 ((wu64 (x5_1 * 3)) + t4))), (4, .int .u64 0), (0, V.val), (1, v1)] [V.rep s20, F]) (T := [tS 0 (V.val), tS 1 (v1), tS 6 (.int .i64 x6_1), tS 7 (.int .u64 t4), tE [(5, .int .u64 (wu64 ((wu64 (x5_1 * 3)) + t4))), (4, .int .u64 0)], tR (V.rep s5), tR (F), tS 53 (V.val), tS 54 (v1), tS 55 (.int .i64 x6_1), tS 56 (idxp v1 (x6_1.toNat * ek_law06_Op.sz)), tS 57 (idxp v1 (x6_1.toNat * ek_law06_Op.sz + 3)), tS 58 (.int .i64 x16.To), tS 59 (.int .u64 t4), tS 60 (v1), tS 61 (.int .i64 x6_1), tS 62 (idxp v1 (x6_1.toNat * ek_law06_Op.sz)), tS 63 (idxp v1 (x6_1.toNat * ek_law06_Op.sz + 4)), tS 64 (.int .u64 x18.N), tS 65 (.int .u64 (wu64 (t4 + x18.N))), tS 66 (.func (.method "Write") #[V.val] #[]), tS 67 (.func (.method "Write") #[V.val] #[]), tS 68 (V.val), tR (V.rep s20), tS 69 (.tuple #[])]) (D := [⟨[0], [], [7]⟩, ⟨[1], [], [8]⟩, ⟨[2], [], [9]⟩, ⟨[8, 9, 6], [], [10]⟩, ⟨[10, 6], [], [11]⟩, ⟨[11, 6], [], [12]⟩, ⟨[3], [], [13]⟩, ⟨[1], [], [14]⟩, ⟨[2], [], [15]⟩, ⟨[14, 15, 6], [], [16]⟩, ⟨[16, 6], [], [17]⟩, ⟨[17, 6], [], [18]⟩, ⟨[13, 18], [], [19]⟩, ⟨[7], [], [20]⟩, ⟨[20], [], [21]⟩, ⟨[7], [], [22]⟩, ⟨[12, 19, 22], [5], [23, 24]⟩]) (ini := [0, 1, 2, 3, 4, 5, 6]) (fin := [2, 4, 0, 1, 23, 6]) (bf := [[], [], [], [1, 2], [1, 2, 3], [1, 2, 3, 4], [], [], [], [7, 8], [7, 8, 9], [7, 8, 9, 10], [6, 7, 8, 9, 10, 11], [0], [0, 13], [0, 13, 14], [0, 1, 2, 3, 4, 5, 6, 7, 8, 9, 10, 11, 12, 13, 14, 15]]) (by kernel_rfl) (by kernel_rfl) (fun Q => by kernel_rfl) (fun x w h1 h2 => ⟨(), (), (), (), (), (), (), EnvAll.of h1 ⟨rfl, rfl, rfl, rfl, rfl, rfl, trivial⟩, h2⟩) (fun Q => by kernel_rfl) ⟨?_, ?_, ?_, ?_, ?_, ?_, ?_, ?_, ?_, ?_, ?_, ?_, ?_, ?_, ?_, ?_, ?_, trivial⟩ ?_
        · rintro Fr _
          refine SO.v rfl (opv_move rfl) ?_
          exact SO.nilZ fun a w h1 h2 h3 h4 h5 => PZ.of h1 h3 h5 (.cons () (.cons () (.nil ⟨EnvAll.of h2 ⟨rfl, rfl, trivial⟩, h4⟩)))
        · rintro Fr _
          refine SO.v rfl (opv_move rfl) ?_
          exact SO.nilZ fun a w h1 h2 h3 h4 h5 => PZ.of h1 h3 h5 (.cons () (.cons () (.nil ⟨EnvAll.of h2 ⟨rfl, rfl, trivial⟩, h4⟩)))
        · rintro Fr _
          refine SO.v rfl (opv_move rfl) ?_
          exact SO.nilZ fun a w h1 h2 h3 h4 h5 => PZ.of h1 h3 h5 (.cons () (.cons () (.nil ⟨EnvAll.of h2 ⟨rfl, rfl, trivial⟩, h4⟩)))
        · rintro Fr _ _ _
          refine SO.v rfl (opv_idx Try.underlying48 Try.sizeOf84 hF1 rfl rfl hx17) ?_
          exact SO.nilZ fun a w h1 h2 h3 h4 h5 => PZ.of h1 h3 h5 (.cons () (.cons () (.cons () (.cons () (.nil ⟨EnvAll.of h2 ⟨rfl, rfl, rfl, trivial⟩, h4⟩)))))
        · rintro Fr _ _
          refine SO.v rfl (opv_fieldIdx Try.underlying84 rfl Try.sizeOf3 hF1 hx17 rfl rfl) ?_
          exact SO.nilZ fun a w h1 h2 h3 h4 h5 => PZ.of h1 h3 h5 (.cons () (.cons () (.cons () (.nil ⟨EnvAll.of h2 ⟨rfl, rfl, trivial⟩, h4⟩))))
        · rintro Fr _ _
          refine SO.loadI1 (j := 3) rfl Try.isAgg3 (Rd.head hF1) hx17 rfl rfl rfl rfl ?_
          exact SO.nilZ fun a w h1 h2 h3 h4 h5 => PZ.of h1 h3 h5 (.cons () (.cons () (.cons () (.nil ⟨EnvAll.of h2 ⟨rfl, rfl, trivial⟩, h4⟩))))
        · rintro Fr _
          refine SO.v rfl (opv_move rfl) ?_
          exact SO.nilZ fun a w h1 h2 h3 h4 h5 => PZ.of h1 h3 h5 (.cons () (.cons () (.nil ⟨EnvAll.of h2 ⟨rfl, rfl, trivial⟩, h4⟩)))
        · rintro Fr _
          refine SO.v rfl (opv_move rfl) ?_
          exact SO.nilZ fun a w h1 h2 h3 h4 h5 => PZ.of h1 h3 h5 (.cons () (.cons () (.nil ⟨EnvAll.of h2 ⟨rfl, rfl, trivial⟩, h4⟩)))
        · rintro Fr _
          refine SO.v rfl (opv_move rfl) ?_
          exact SO.nilZ fun a w h1 h2 h3 h4 h5 => PZ.of h1 h3 h5 (.cons () (.cons () (.nil ⟨EnvAll.of h2 ⟨rfl, rfl, trivial⟩, h4⟩)))
        · rintro Fr _ _ _
          refine SO.v rfl (opv_idx Try.underlying48 Try.sizeOf84 hF1 rfl rfl hx19) ?_
          exact SO.nilZ fun a w h1 h2 h3 h4 h5 => PZ.of h1 h3 h5 (.cons () (.cons () (.cons () (.cons () (.nil ⟨EnvAll.of h2 ⟨rfl, rfl, rfl, trivial⟩, h4⟩)))))
        · rintro Fr _ _
          refine SO.v rfl (opv_fieldIdx Try.underlying84 rfl Try.sizeOf46 hF1 hx19 rfl rfl) ?_
          exact SO.nilZ fun a w h1 h2 h3 h4 h5 => PZ.of h1 h3 h5 (.cons () (.cons () (.cons () (.nil ⟨EnvAll.of h2 ⟨rfl, rfl, trivial⟩, h4⟩))))
        · rintro Fr _ _
          refine SO.loadI1 (j := 4) rfl Try.isAgg46 (Rd.head hF1) hx19 rfl rfl rfl rfl ?_
          exact SO.nilZ fun a w h1 h2 h3 h4 h5 => PZ.of h1 h3 h5 (.cons () (.cons () (.cons () (.nil ⟨EnvAll.of h2 ⟨rfl, rfl, trivial⟩, h4⟩))))
        · rintro Fr _ _
          refine SO.v rfl (opv_add rfl rfl) ?_
          exact SO.nilZ fun a w h1 h2 h3 h4 h5 => PZ.of h1 h3 h5 (.cons () (.cons () (.cons () (.nil ⟨EnvAll.of h2 ⟨rfl, rfl, rfl, trivial⟩, h4⟩))))
        · rintro Fr _
          refine SO.v rfl (opv_makeFunc (fn := .method "Write") rfl rfl) ?_
          exact SO.nilZ fun a w h1 h2 h3 h4 h5 => PZ.of h1 h3 h5 (.cons () (.cons () (.nil ⟨EnvAll.of h2 ⟨rfl, rfl, trivial⟩, h4⟩)))
        · rintro Fr _
          refine SO.v rfl (opv_nilCheckW V rfl) ?_
          exact SO.nilZ fun a w h1 h2 h3 h4 h5 => PZ.of h1 h3 h5 (.cons () (.cons () (.nil ⟨EnvAll.of h2 ⟨rfl, rfl, trivial⟩, h4⟩)))
        · rintro Fr _
          refine SO.v rfl (opv_move rfl) ?_
          exact SO.nilZ fun a w h1 h2 h3 h4 h5 => PZ.of h1 h3 h5 (.cons () (.cons () (.nil ⟨EnvAll.of h2 ⟨rfl, rfl, trivial⟩, h4⟩)))
        · rintro Fr _ _ _ _
          refine SO.vwrite' V rfl rfl rfl rfl hv21 ?_
          exact SO.nilZ fun a w h1 h2 h3 h4 h5 => PZ.of2 (Y := fun Q => ∃ (_ _ _ _ _ : Unit), Q [(58, .int .i64 x16.To), (65, .int .u64 (wu64 (t4 + x18.N))), (68, V.val), (69, .tuple #[])] [V.rep s20]) (fun Q => by kernel_rfl) h1 h3 h5 ⟨(), (), (), (), (), EnvAll.of h2 ⟨rfl, rfl, rfl, rfl, trivial⟩, h4⟩
        rintro _ _ _ _ _ _
        refine S.to (ρ' := [(6, .int .i64 x6_1), (5, .int .u64 (wu64 ((wu64 (x5_1 * 3)) + t4))), (4, .int .u64 0), (0, V.val), (1, v1)]) ⟨rfl, rfl, rfl, rfl, rfl, trivial⟩ ?_
        refine S.inBlock ?_
        refine S.region ?_
        refine SO.v rfl (opv_move rfl) ?_
        refine SO.v rfl (opv_add rfl rfl) ?_
        refine SO.v rfl (opv_assign rfl) ?_
        refine SO.nil ?_
        refine S.b1 ?_
        refine S.b1 ?_
        refine S.to ?_ (ih1 (((w64 (x6_1 + 1), wu64 ((wu64 (x5_1 * 3)) + t4)), s20), ()) h)
        exact ⟨rfl, rfl, rfl, rfl, rfl, trivial⟩
      replace h := VM.cond_f V.toVI b15 h
      refine S.condF rfl b15 ?_
      refine S.skip ?_
      refine S.inBlock ?_
      refine S.region ?_
      refine SO.v rfl (opv_move rfl) ?_
      refine SO.v rfl (opv_add rfl rfl) ?_
      refine SO.v rfl (opv_assign rfl) ?_
      refine SO.nil ?_
      refine S.to (ρ' := [(6, .int .i64 (w64 (x6_1 + 1))), (5, .int .u64 (wu64 ((wu64 (x5_1 * 3)) + t4))), (4, .int .u64 0), (0, V.val), (1, v1)]) ⟨rfl, rfl, rfl, rfl, rfl, trivial⟩ ?_
      refine S.b1 ?_
      refine S.b1 ?_
      refine S.to ?_ (ih1 (((w64 (x6_1 + 1), wu64 ((wu64 (x5_1 * 3)) + t4)), s5), ()) h)
      exact ⟨rfl, rfl, rfl, rfl, rfl, trivial⟩
    replace h := VM.cond_f V.toVI b1 h
    refine S.condF rfl b1 ?_
    refine S.exit rfl ?_
    obtain ⟨hq, rfl⟩ := VM.ret_some V.toVI h
    cases hq
    refine S.b1 ?_
    refine S.b1 ?_
    refine S.to ?_ (hK1 ())
    exact ⟨rfl, rfl, trivial⟩
  rintro _
  refine S.seq ?_
  refine S.region ?_
  refine SO.v rfl (opv_move rfl) ?_
  refine SO.v rfl (opv_assign rfl) ?_
  refine SO.nil ?_
  obtain ⟨hq, rfl⟩ := VM.ret_some V.toVI h
  cases hq
  refine S.b1 ?_
  refine S.b1 ?_
  exact S.ret1 Try.func13 rfl rfl (fun w hs hk => hR w _ _ ⟨rfl, rfl⟩ hs hk)
end Go.Proofs
namespace Go.Proofs
open Go.Sl Go.RowKit
/-! 33 slices.Clone[[]int,int] -/
def slices_Clone_int_int.f (a0 : List Int) : Option (List Int) := app [] a0
set_option maxRecDepth 100000 in
theorem slices_Clone_int_int.ct (v0 : Value) (a0 : List Int) (r0 : List Int) (h : slices_Clone_int_int.f a0 = some r0) :
    Ct Try.prog 33 [v0] (fun F => Rd (ekI .i64) v0 a0 F) [] (fun u H' => ∃ v_r0, u = v_r0 ∧ H' = [Own 3 (ekI .i64) v_r0 r0]) := by
  unfold slices_Clone_int_int.f at h
  refine Ct.intro (n := 8) Try.func33 rfl rfl rfl ?_
  intro R w0 F hF0 hR
  obtain ⟨a, cap, ⟨hv, hcap⟩, hel⟩ := hF0
  have hF0 : Rd (ekI .i64) v0 a0 F := ⟨a, cap, ⟨hv, hcap⟩, hel⟩
  have hv2 : ev (num 0 [v0]) (.tmp 0) = some (.slice a a0.length cap) := by rw [← hv]; rfl
  refine S.seq ?_
  refine S.region ?_
  refine SO.v rfl (opv_assign rfl) ?_
  refine SO.nil ?_
  refine S.seq ?_
  refine S.seq ?_
  refine S.region ?_
  refine SO.v rfl (opv_move rfl) ?_
  rw [show v0 = .slice a a0.length cap from hv]
  refine SO.v rfl (opv_eqlSN Try.underlying24 rfl) ?_
  rw [← hv]
  refine SO.nil ?_
  cases a with
  | none =>
    have h0 : a0 = [] := by
      cases a0 with
      | nil => rfl
      | cons x l => obtain ⟨b, off, hh, _⟩ := hel 0 x rfl; cases hh
    subst h0
    have hr : r0 = [] := by injection h with h; exact h.symm
    subst hr
    refine S.cond_true rfl ?_
    refine S.seq ?_
    refine S.region ?_
    refine SO.v rfl (opv_assign rfl) ?_
    refine SO.nil ?_
    refine S.newOwn 3 (ekI .i64) ?_
    exact S.ret1 Try.func33 rfl rfl (fun w hs hk => hR w _ _ ⟨_, rfl, rfl⟩ hs hk)
  | some ad =>
    refine S.cond_false rfl ?_
    refine S.skip ?_
    refine S.seq ?_
    refine S.region ?_
    refine SO.buildSlice0 (ekI .i64) rfl Try.underlying24 Try.sizeOf3 (fun v1 hr1 => ?_)
    refine SO.v rfl (opv_move rfl) ?_
    refine SO.append rfl Try.underlying24 Try.underlying24 inf3 rfl rfl rfl (by decide) rfl rfl rfl (Rd.head hF0) h (fun v2 => ?_)
    refine SO.v rfl (opv_assign rfl) ?_
    refine SO.nil ?_
    exact S.ret1 Try.func33 rfl rfl (fun w hs hk => hR w _ _ ⟨_, rfl, rfl⟩ hs hk)
end Go.Proofs
set_option linter.unusedVariables false
namespace Go.Proofs
open Go.Sl Go.RowKit

/-! 23 (*padstone/stm.Machine).in -/
def stm_Machine_in.f (ws : List Nat) (id : Int) : Option (Bool) :=
  (bif decide (0 ≤ id) then (some (decide (id < (ws.length : Int)))) else (some false)).bind fun c3 => some c3
set_option maxHeartbeats 8000000 in
set_option maxRecDepth 100000 in
theorem stm_Machine_in.ct (bpm bps : Nat) (vl va vg : Value) (ws : List Nat) (id : Int) (r0 : Bool) (h : stm_Machine_in.f ws id = some r0) :
    Ct Try.prog 23 [bp bpm 0, .int .i64 id] (fun _ => True) [Box bpm [bp bps 0, vl, va, vg], Own 68 ekP vl ws] (fun u H' => u = .bool r0 ∧ H' = [Box bpm [bp bps 0, vl, va, vg], Own 68 ekP vl ws]) := by
  unfold stm_Machine_in.f at h
  refine Ct.intro (n := 16) Try.func23 rfl rfl rfl ?_
  intro R w0 F hF hR
  refine S.b1 ?_
  refine S.rd fun hr1 => ?_
  refine S.seq ?_
  refine S.region ?_
  refine SO.v rfl (opv_assign rfl) ?_
  refine SO.nil ?_
  refine S.seq ?_
  refine S.region ?_
  refine SO.v rfl (opv_move rfl) ?_
  refine SO.v rfl (opv_geq rfl rfl) ?_
  refine SO.v rfl (opv_move rfl) ?_
  obtain ⟨c3, hc4, hgk⟩ := opt_bind h
  refine SO.cut 8 15 (.bool c3) [Own 68 ekP vl ws, Box bpm [bp bps 0, vl, va, vg], F] (fun l2 hk2 => ?_) ?_
  · clear hgk
    replace h := hc4
    rcases bool_or (decide (0 ≤ id)) with b2 | b2
    · replace h := cond_t b2 h
      refine SO.takeT rfl rfl rfl b2 ?_
      refine SO.v rfl (opv_move rfl) ?_
      refine SO.takeT rfl rfl rfl b2 ?_
      refine SO.v rfl (opv_move rfl) ?_
      refine SO.takeT rfl rfl rfl b2 ?_
      refine SO.v rfl (opv_nilCheck rfl) ?_
      refine SO.takeT rfl rfl rfl b2 ?_
      refine SO.v rfl (opv_fieldAddr Try.underlying67 rfl Try.sizeOf64 rfl rfl) ?_
      refine SO.takeT rfl rfl rfl b2 ?_
      refine SO.b1 ?_
      refine SO.load1 rfl Try.isAgg64 rfl rfl ?_
      refine SO.takeT rfl rfl rfl b2 ?_
      refine SO.v rfl (opv_lenR rfl Try.underlying64 hr1 rfl) ?_
      refine SO.takeT rfl rfl rfl b2 ?_
      refine SO.v rfl (opv_lss rfl rfl) ?_
      cases h
      refine SO.v rfl (opv_pick_t' b2 rfl rfl) ?_
      refine SO.b2 ?_
      refine SO.b1 ?_
      refine SO.b2 ?_
      exact hk2.fitc (m := 8) rfl (rfl) rfl
    replace h := cond_f b2 h
    refine SO.passF rfl rfl rfl b2 rfl rfl ?_
    refine SO.passF rfl rfl rfl b2 rfl rfl ?_
    refine SO.passF rfl rfl rfl b2 rfl rfl ?_
    refine SO.passF rfl rfl rfl b2 rfl rfl ?_
    refine SO.passF rfl rfl rfl b2 rfl rfl ?_
    refine SO.passF rfl rfl rfl b2 rfl rfl ?_
    refine SO.passF rfl rfl rfl b2 rfl rfl ?_
    cases h
    refine SO.v rfl (opv_pick_f' b2 rfl rfl) ?_
    refine SO.b2 ?_
    refine SO.b2 ?_
    refine SO.b2 ?_
    exact hk2.fitc (m := 8) rfl (rfl) rfl
  clear hc4
  replace h := hgk
  refine SO.v rfl (opv_assign rfl) ?_
  refine SO.nil ?_
  cases h
  refine S.b2 ?_
  refine S.b1 ?_
  refine S.b2 ?_
  exact S.ret1 Try.func23 rfl rfl (fun w hs hk => hR w _ _ ⟨rfl, rfl⟩ hs hk)
end Go.Proofs
set_option linter.unusedVariables false
namespace Go.Proofs
open Go.Sl Go.RowKit

/-! 21 (*padstone/stm.Machine).Busy -/
set_option maxHeartbeats 8000000 in
set_option maxRecDepth 100000 in
theorem stm_Busy_n.ct (bpm bps : Nat) (vl va vg : Value) (ws : List Nat) (id : Int) (bw : Nat) (hbw : at_ ws id = some bw) (hin : stm_Machine_in.f ws id = some true) (fv tv dv tl : Value)  :
    Ct Try.prog 21 [bp bpm 0, .int .i64 id] (fun _ => True) [Box bpm [bp bps 0, vl, va, vg], Own 68 ekP vl ws, Box bw [fv, .nilFunc, tv, dv, tl]] (fun u H' => u = .bool false ∧ H' = [Box bpm [bp bps 0, vl, va, vg], Own 68 ekP vl ws, Box bw [fv, .nilFunc, tv, dv, tl]]) := by
  refine Ct.intro (n := 21) Try.func21 rfl rfl rfl ?_
  intro R w0 F hF hR
  refine S.b1 ?_
  refine S.rd fun hr1 => ?_
  refine S.seq ?_
  refine S.region ?_
  refine SO.v rfl (opv_assign rfl) ?_
  refine SO.nil ?_
  refine S.seq ?_
  refine S.region ?_
  refine SO.v rfl (opv_move rfl) ?_
  refine SO.v rfl (opv_move rfl) ?_
  refine SO.b1 ?_
  refine SO.call (pre := [Box _ _, Own _ _ _ _]) rfl Try.call23 rfl rfl rfl (stm_Machine_in.ct bpm bps vl va vg ws id _ hin) trivial ?_
  rintro _ _ ⟨rfl, rfl⟩
  refine SO.v rfl (opv_move rfl) ?_
  refine SO.takeT rfl rfl rfl rfl ?_
  refine SO.v rfl (opv_move rfl) ?_
  refine SO.takeT rfl rfl rfl rfl ?_
  refine SO.v rfl (opv_nilCheck rfl) ?_
  refine SO.takeT rfl rfl rfl rfl ?_
  refine SO.v rfl (opv_fieldAddr Try.underlying67 rfl Try.sizeOf64 rfl rfl) ?_
  refine SO.takeT rfl rfl rfl rfl ?_
  refine SO.load1 rfl Try.isAgg64 rfl rfl ?_
  refine SO.takeT rfl rfl rfl rfl ?_
  refine SO.v rfl (opv_move rfl) ?_
  refine SO.takeT rfl rfl rfl rfl ?_
  refine SO.v rfl (opv_idx Try.underlying64 Try.sizeOf68 hr1 rfl rfl hbw) ?_
  refine SO.takeT rfl rfl rfl rfl ?_
  refine SO.loadI1 (j := 0) rfl Try.isAgg68 (Rd.tail (Rd.head hr1)) hbw rfl rfl rfl rfl ?_
  refine SO.takeT rfl rfl rfl rfl ?_
  refine SO.v rfl (opv_nilCheck rfl) ?_
  refine SO.takeT rfl rfl rfl rfl ?_
  refine SO.v rfl (opv_fieldAddr Try.underlying73 rfl Try.sizeOf69 rfl rfl) ?_
  refine SO.takeT rfl rfl rfl rfl ?_
  refine SO.b2 ?_
  refine SO.load1 rfl Try.isAgg69 rfl rfl ?_
  refine SO.takeT rfl rfl rfl rfl ?_
  refine SO.v rfl (opv_neqFF Try.underlying69 rfl rfl) ?_
  refine SO.v rfl (opv_pick_tt rfl rfl) ?_
  refine SO.v rfl (opv_assign rfl) ?_
  refine SO.nil ?_
  refine S.to (ρ' := [(4, .bool false)]) ⟨rfl, trivial⟩ ?_
  refine S.b3 ?_
  refine S.b1 ?_
  refine S.b3 ?_
  refine S.b3 ?_
  exact S.ret1 Try.func21 rfl rfl (fun w hs hk => hR w _ _ ⟨rfl, rfl⟩ hs hk)
end Go.Proofs
set_option linter.unusedVariables false
namespace Go.Proofs
open Go.Sl Go.RowKit

/-! 21 (*padstone/stm.Machine).Busy -/
set_option maxHeartbeats 8000000 in
set_option maxRecDepth 100000 in
theorem stm_Busy_out.ct (bpm bps : Nat) (vl va vg : Value) (ws : List Nat) (id : Int) (hin : stm_Machine_in.f ws id = some false)  :
    Ct Try.prog 21 [bp bpm 0, .int .i64 id] (fun _ => True) [Box bpm [bp bps 0, vl, va, vg], Own 68 ekP vl ws] (fun u H' => u = .bool false ∧ H' = [Box bpm [bp bps 0, vl, va, vg], Own 68 ekP vl ws]) := by
  refine Ct.intro (n := 21) Try.func21 rfl rfl rfl ?_
  intro R w0 F hF hR
  refine S.b1 ?_
  refine S.rd fun hr1 => ?_
  refine S.seq ?_
  refine S.region ?_
  refine SO.v rfl (opv_assign rfl) ?_
  refine SO.nil ?_
  refine S.seq ?_
  refine S.region ?_
  refine SO.v rfl (opv_move rfl) ?_
  refine SO.v rfl (opv_move rfl) ?_
  refine SO.b1 ?_
  refine SO.call (pre := [Box _ _, Own _ _ _ _]) rfl Try.call23 rfl rfl rfl (stm_Machine_in.ct bpm bps vl va vg ws id _ hin) trivial ?_
  rintro _ _ ⟨rfl, rfl⟩
  refine SO.v rfl (opv_move rfl) ?_
  refine SO.passF rfl rfl rfl rfl rfl rfl ?_
  refine SO.passF rfl rfl rfl rfl rfl rfl ?_
  refine SO.passF rfl rfl rfl rfl rfl rfl ?_
  refine SO.passF rfl rfl rfl rfl rfl rfl ?_
  refine SO.passF rfl rfl rfl rfl rfl rfl ?_
  refine SO.passF rfl rfl rfl rfl rfl rfl ?_
  refine SO.passF rfl rfl rfl rfl rfl rfl ?_
  refine SO.passF rfl rfl rfl rfl rfl rfl ?_
  refine SO.passF rfl rfl rfl rfl rfl rfl ?_
  refine SO.passF rfl rfl rfl rfl rfl rfl ?_
  refine SO.passF rfl rfl rfl rfl rfl rfl ?_
  refine SO.v rfl (opv_pick_ff rfl rfl) ?_
  refine SO.v rfl (opv_assign rfl) ?_
  refine SO.nil ?_
  refine S.to (ρ' := [(4, .bool false)]) ⟨rfl, trivial⟩ ?_
  refine S.b2 ?_
  refine S.b2 ?_
  refine S.b2 ?_
  exact S.ret1 Try.func21 rfl rfl (fun w hs hk => hR w _ _ ⟨rfl, rfl⟩ hs hk)
end Go.Proofs
set_option linter.unusedVariables false
namespace Go.Proofs
open Go.Sl Go.RowKit

/-! 21 (*padstone/stm.Machine).Busy -/
set_option maxHeartbeats 8000000 in
set_option maxRecDepth 100000 in
theorem stm_Busy_s.ct (bpm bps : Nat) (vl va vg : Value) (ws : List Nat) (id : Int) (bw : Nat) (hbw : at_ ws id = some bw) (hin : stm_Machine_in.f ws id = some true) (fv tv dv tl : Value) (jf : FuncId) (jcs : List Value)  :
    Ct Try.prog 21 [bp bpm 0, .int .i64 id] (fun _ => True) [Box bpm [bp bps 0, vl, va, vg], Own 68 ekP vl ws, Box bw [fv, .func (.func jf) #[] jcs.toArray, tv, dv, tl]] (fun u H' => u = .bool true ∧ H' = [Box bpm [bp bps 0, vl, va, vg], Own 68 ekP vl ws, Box bw [fv, .func (.func jf) #[] jcs.toArray, tv, dv, tl]]) := by
  refine Ct.intro (n := 21) Try.func21 rfl rfl rfl ?_
  intro R w0 F hF hR
  refine S.b1 ?_
  refine S.rd fun hr1 => ?_
  refine S.seq ?_
  refine S.region ?_
  refine SO.v rfl (opv_assign rfl) ?_
  refine SO.nil ?_
  refine S.seq ?_
  refine S.region ?_
  refine SO.v rfl (opv_move rfl) ?_
  refine SO.v rfl (opv_move rfl) ?_
  refine SO.b1 ?_
  refine SO.call (pre := [Box _ _, Own _ _ _ _]) rfl Try.call23 rfl rfl rfl (stm_Machine_in.ct bpm bps vl va vg ws id _ hin) trivial ?_
  rintro _ _ ⟨rfl, rfl⟩
  refine SO.v rfl (opv_move rfl) ?_
  refine SO.takeT rfl rfl rfl rfl ?_
  refine SO.v rfl (opv_move rfl) ?_
  refine SO.takeT rfl rfl rfl rfl ?_
  refine SO.v rfl (opv_nilCheck rfl) ?_
  refine SO.takeT rfl rfl rfl rfl ?_
  refine SO.v rfl (opv_fieldAddr Try.underlying67 rfl Try.sizeOf64 rfl rfl) ?_
  refine SO.takeT rfl rfl rfl rfl ?_
  refine SO.load1 rfl Try.isAgg64 rfl rfl ?_
  refine SO.takeT rfl rfl rfl rfl ?_
  refine SO.v rfl (opv_move rfl) ?_
  refine SO.takeT rfl rfl rfl rfl ?_
  refine SO.v rfl (opv_idx Try.underlying64 Try.sizeOf68 hr1 rfl rfl hbw) ?_
  refine SO.takeT rfl rfl rfl rfl ?_
  refine SO.loadI1 (j := 0) rfl Try.isAgg68 (Rd.tail (Rd.head hr1)) hbw rfl rfl rfl rfl ?_
  refine SO.takeT rfl rfl rfl rfl ?_
  refine SO.v rfl (opv_nilCheck rfl) ?_
  refine SO.takeT rfl rfl rfl rfl ?_
  refine SO.v rfl (opv_fieldAddr Try.underlying73 rfl Try.sizeOf69 rfl rfl) ?_
  refine SO.takeT rfl rfl rfl rfl ?_
  refine SO.b2 ?_
  refine SO.load1 rfl Try.isAgg69 rfl rfl ?_
  refine SO.takeT rfl rfl rfl rfl ?_
  refine SO.v rfl (opv_neqFV Try.underlying69 rfl rfl) ?_
  refine SO.v rfl (opv_pick_tt rfl rfl) ?_
  refine SO.v rfl (opv_assign rfl) ?_
  refine SO.nil ?_
  refine S.to (ρ' := [(4, .bool true)]) ⟨rfl, trivial⟩ ?_
  refine S.b3 ?_
  refine S.b1 ?_
  refine S.b3 ?_
  refine S.b3 ?_
  exact S.ret1 Try.func21 rfl rfl (fun w hs hk => hR w _ _ ⟨rfl, rfl⟩ hs hk)
end Go.Proofs
set_option linter.unusedVariables false
namespace Go.Proofs
open Go.Sl Go.RowKit

/-! 48 slices.IndexFunc[[]*padstone/stm.worker,*padstone/stm.worker] -/
variable {α : Type}
def stm_IndexFunc.l1 (gf : α → Bool) (xs : List α) : Nat → Int → Option (Brk Int Unit)
  | 0, _ => none
  | k + 1, x8_1 => bif decide (x8_1 < (xs.length : Int)) then ((at_ xs x8_1).bind fun x3 => bif gf x3 then (some (Brk.ret x8_1)) else (stm_IndexFunc.l1 gf xs k (w64 (x8_1 + 1)))) else (some (Brk.nx ()))
def stm_IndexFunc.f (k : Nat) (gf : α → Bool) (xs : List α) : Option (Int) :=
  (stm_IndexFunc.l1 gf xs k 0).bind fun o1 => Brk.go o1 (fun r => some r) (fun _ => some (-1))
set_option maxHeartbeats 8000000 in
set_option maxRecDepth 100000 in
theorem stm_IndexFunc.ct (k : Nat) (vl : Value) (ws : List Nat) (WR : Nat → α → HProp) (gf : α → Bool) (FR : HProp) (xs : List α) (hlw : ws.length = xs.length) (hid : ∀ (b : Nat) (z : α), Ct Try.prog 37 [bp b 0] (fun _ => True) [WR b z, FR] (fun u H' => u = .bool (gf z) ∧ H' = [WR b z, FR])) (r0 : Int) (h : stm_IndexFunc.f k gf xs = some r0) :
    Ct Try.prog 48 [vl, .func (.func 37) #[] #[]] (fun _ => True) [Own 68 ekP vl ws, ZipR WR ws xs, FR] (fun u H' => u = .int .i64 r0 ∧ H' = [Own 68 ekP vl ws, ZipR WR ws xs, FR]) := by
  unfold stm_IndexFunc.f at h
  refine Ct.intro (n := 19) Try.func48 rfl rfl rfl ?_
  intro R w0 F hF hR
  refine S.rd fun hr1 => ?_
  refine S.seq ?_
  refine S.region ?_
  refine SO.v rfl (opv_assign rfl) ?_
  refine SO.nil ?_
  refine S.seq ?_
  refine S.seq ?_
  refine S.region ?_
  refine SO.v rfl (opv_move rfl) ?_
  refine SO.v rfl (opv_lenW hlw rfl Try.underlying64 hr1 rfl) ?_
  refine SO.v rfl (opv_move rfl) ?_
  refine SO.nil ?_
  obtain ⟨o1, hlp1, h⟩ := opt_bind h
  refine S.b3 ?_
  refine S.b3 ?_
  refine S.b3 ?_
  refine S.b3 ?_
  refine S.to (ρ' := [(8, .int .i64 0), (7, .int .i64 (xs.length : Int)), (4, .int .i64 0), (0, vl), (1, .func (.func 37) #[] #[])]) ⟨rfl, rfl, rfl, rfl, rfl, trivial⟩ ?_
  refine S.forloop (X := Int × Unit) (O := Brk Int Unit) (fun m x => stm_IndexFunc.l1 gf xs m x.1) (fun x => match x with | (x8_1, _) => [(8, .int .i64 x8_1), (7, .int .i64 (xs.length : Int)), (4, .int .i64 0), (0, vl), (1, .func (.func 37) #[] #[])]) (fun x => match x with | (x8_1, _) => [Own 68 ekP vl ws, ZipR WR ws xs, FR, F]) (fun Sk o' => (∀ r', o' = Brk.ret r' → some r' = some r0) ∧ ∀ _ : Unit, ∀ _ : Unit, o' = Brk.nx () → Sk [(4, .int .i64 0)] [Own 68 ekP vl ws, ZipR WR ws xs, FR, F]) (fun _ => rfl) ?_ (m := k) (x := (0, ())) hlp1 ?_
  · clear h hlp1
    intro k x o_1 h hK1 ih1
    obtain ⟨x8_1, _⟩ := x
    replace h : stm_IndexFunc.l1 gf xs (k + 1) x8_1 = some o_1 := h
    first | rw [stm_IndexFunc.l1] at h | unfold stm_IndexFunc.l1 at h
    refine S.seq ?_
    refine S.region ?_
    refine SO.v rfl (opv_lss rfl rfl) ?_
    refine SO.nil ?_
    refine S.seq ?_
    rcases bool_or (decide (x8_1 < (xs.length : Int))) with b2 | b2
    · replace h := cond_t b2 h
      refine S.condT rfl b2 ?_
      refine S.skip ?_
      refine S.seq ?_
      refine S.block ?_
      refine S.seq ?_
      refine S.region ?_
      refine SO.v rfl (opv_move rfl) ?_
      refine SO.v rfl (opv_assign rfl) ?_
      refine SO.nil ?_
      refine S.seq ?_
      refine S.region ?_
      refine SO.v rfl (opv_move rfl) ?_
      refine SO.v rfl (opv_move rfl) ?_
      refine SO.v rfl (opv_move rfl) ?_
      obtain ⟨x3, hx4, h⟩ := opt_bind h
      obtain ⟨b5, hb6⟩ := at_len hlw hx4
      refine SO.v rfl (opv_idx Try.underlying64 Try.sizeOf68 hr1 rfl rfl hb6) ?_
      refine SO.loadI1 (j := 0) rfl Try.isAgg68 (Rd.head hr1) hb6 rfl rfl rfl rfl ?_
      refine SO.b1 ?_
      refine SO.focusZ hb6 hx4 ?_
      refine SO.b3 ?_
      refine SO.b1 ?_
      refine SO.call (pre := [WR _ _, FR]) rfl Try.call37 rfl rfl rfl (hid b5 x3) trivial ?_
      rintro _ _ ⟨rfl, rfl⟩
      refine SO.b2 ?_
      refine SO.b1 ?_
      refine SO.unfocusZ0 hb6 hx4 ?_
      refine SO.nil ?_
      refine S.to (ρ' := [(8, .int .i64 x8_1), (7, .int .i64 (xs.length : Int)), (4, .int .i64 0), (0, vl), (1, .func (.func 37) #[] #[]), (5, .int .i64 x8_1), (16, .bool (gf x3))]) ⟨rfl, rfl, rfl, rfl, rfl, rfl, rfl, trivial⟩ ?_
      rcases bool_or (gf x3) with b7 | b7
      · replace h := cond_t b7 h
        refine S.condT rfl b7 ?_
        refine S.seq ?_
        refine S.region ?_
        refine SO.v rfl (opv_move rfl) ?_
        refine SO.v rfl (opv_assign rfl) ?_
        refine SO.nil ?_
        refine S.to (ρ' := [(4, .int .i64 x8_1)]) ⟨rfl, trivial⟩ ?_
        cases h
        replace h := hK1.1 _ rfl
        cases h
        refine S.b3 ?_
        refine S.b2 ?_
        refine S.b2 ?_
        refine S.b3 ?_
        exact S.ret1 Try.func48 rfl rfl (fun w hs hk => hR w _ _ ⟨rfl, rfl⟩ hs hk)
      replace h := cond_f b7 h
      refine S.condF rfl b7 ?_
      refine S.skip ?_
      refine S.inBlock ?_
      refine S.region ?_
      refine SO.v rfl (opv_add rfl rfl) ?_
      refine SO.v rfl (opv_move rfl) ?_
      refine SO.nil ?_
      refine S.b3 ?_
      refine S.b2 ?_
      refine S.b2 ?_
      refine S.b3 ?_
      refine S.to ?_ (ih1 (w64 (x8_1 + 1), ()) h)
      exact ⟨rfl, rfl, rfl, rfl, rfl, trivial⟩
    replace h := cond_f b2 h
    refine S.condF rfl b2 ?_
    refine S.exit rfl ?_
    cases h
    refine S.b3 ?_
    refine S.b3 ?_
    refine S.b3 ?_
    refine S.b3 ?_
    refine S.to ?_ (hK1.2 () () rfl)
    exact ⟨rfl, trivial⟩
  refine ⟨fun r' e' => ?_, ?_⟩
  · subst e'
    have h9 := Brk.of_ret h
    exact h9
  rintro _ _ e'
  subst e'
  replace h := Brk.of_nx h
  refine S.seq ?_
  refine S.region ?_
  refine SO.v rfl (opv_assign rfl) ?_
  refine SO.nil ?_
  cases h
  refine S.b3 ?_
  refine S.b3 ?_
  refine S.b3 ?_
  refine S.b3 ?_
  exact S.ret1 Try.func48 rfl rfl (fun w hs hk => hR w _ _ ⟨rfl, rfl⟩ hs hk)
end Go.Proofs
set_option linter.unusedVariables false
namespace Go.Proofs
open Go.Sl Go.RowKit

/-! 36 slices.ContainsFunc[[]*padstone/stm.worker,*padstone/stm.worker] -/
variable {α : Type}
def stm_ContainsFunc.f (k : Nat) (gf : α → Bool) (xs : List α) : Option (Bool) :=
  (stm_IndexFunc.f k gf xs).bind fun t2 => some (decide (0 ≤ t2))
set_option maxHeartbeats 8000000 in
set_option maxRecDepth 100000 in
theorem stm_ContainsFunc.ct (k : Nat) (vl : Value) (ws : List Nat) (WR : Nat → α → HProp) (gf : α → Bool) (FR : HProp) (xs : List α) (hlw : ws.length = xs.length) (hid : ∀ (b : Nat) (z : α), Ct Try.prog 37 [bp b 0] (fun _ => True) [WR b z, FR] (fun u H' => u = .bool (gf z) ∧ H' = [WR b z, FR])) (r0 : Bool) (h : stm_ContainsFunc.f k gf xs = some r0) :
    Ct Try.prog 36 [vl, .func (.func 37) #[] #[]] (fun _ => True) [Own 68 ekP vl ws, ZipR WR ws xs, FR] (fun u H' => u = .bool r0 ∧ H' = [Own 68 ekP vl ws, ZipR WR ws xs, FR]) := by
  unfold stm_ContainsFunc.f at h
  refine Ct.intro (n := 9) Try.func36 rfl rfl rfl ?_
  intro R w0 F hF hR
  refine S.rd fun hr1 => ?_
  refine S.seq ?_
  refine S.region ?_
  refine SO.v rfl (opv_assign rfl) ?_
  refine SO.nil ?_
  refine S.seq ?_
  refine S.region ?_
  refine SO.v rfl (opv_move rfl) ?_
  refine SO.v rfl (opv_move rfl) ?_
  obtain ⟨t2, ht3, h⟩ := opt_bind h
  refine SO.b2 ?_
  refine SO.b2 ?_
  refine SO.b2 ?_
  refine SO.call (pre := [Own _ _ _ _, ZipR _ _ _, FR]) rfl Try.call48 rfl rfl rfl (stm_IndexFunc.ct k vl ws WR gf FR xs hlw hid t2 ht3) trivial ?_
  rintro _ _ ⟨rfl, rfl⟩
  refine SO.rd fun hr4 => ?_
  refine SO.v rfl (opv_geq rfl rfl) ?_
  refine SO.v rfl (opv_assign rfl) ?_
  refine SO.nil ?_
  cases h
  refine S.b3 ?_
  refine S.b3 ?_
  refine S.b3 ?_
  refine S.b3 ?_
  exact S.ret1 Try.func36 rfl rfl (fun w hs hk => hR w _ _ ⟨rfl, rfl⟩ hs hk)
end Go.Proofs
set_option linter.unusedVariables false
namespace Go.Proofs
open Go.Sl Go.RowKit

/-! 18 (*padstone/stm.Machine).Idle -/
variable {α : Type}
def stm_Idle.f (k : Nat) (gf : α → Bool) (xs : List α) : Option (Bool) :=
  (stm_ContainsFunc.f k gf xs).bind fun t2 => some (!t2)
set_option maxHeartbeats 8000000 in
set_option maxRecDepth 100000 in
theorem stm_Idle.ct (k : Nat) (bpm bps : Nat) (vl va vg : Value) (ws : List Nat) (WR : Nat → α → HProp) (gf : α → Bool) (FR : HProp) (xs : List α) (hlw : ws.length = xs.length) (hid : ∀ (b : Nat) (z : α), Ct Try.prog 37 [bp b 0] (fun _ => True) [WR b z, FR] (fun u H' => u = .bool (gf z) ∧ H' = [WR b z, FR])) (r0 : Bool) (h : stm_Idle.f k gf xs = some r0) :
    Ct Try.prog 18 [bp bpm 0] (fun _ => True) [Box bpm [bp bps 0, vl, va, vg], Own 68 ekP vl ws, ZipR WR ws xs, FR] (fun u H' => u = .bool r0 ∧ H' = [Box bpm [bp bps 0, vl, va, vg], Own 68 ekP vl ws, ZipR WR ws xs, FR]) := by
  unfold stm_Idle.f at h
  refine Ct.intro (n := 9) Try.func18 rfl rfl rfl ?_
  intro R w0 F hF hR
  refine S.b1 ?_
  refine S.rd fun hr1 => ?_
  refine S.seq ?_
  refine S.region ?_
  refine SO.v rfl (opv_assign rfl) ?_
  refine SO.nil ?_
  refine S.seq ?_
  refine S.region ?_
  refine SO.v rfl (opv_move rfl) ?_
  refine SO.v rfl (opv_nilCheck rfl) ?_
  refine SO.v rfl (opv_fieldAddr Try.underlying67 rfl Try.sizeOf64 rfl rfl) ?_
  refine SO.b1 ?_
  refine SO.load1 rfl Try.isAgg64 rfl rfl ?_
  obtain ⟨t2, ht3, h⟩ := opt_bind h
  refine SO.b3 ?_
  refine SO.b3 ?_
  refine SO.b3 ?_
  refine SO.call (pre := [Own _ _ _ _, ZipR _ _ _, FR]) rfl Try.call36 rfl rfl rfl (stm_ContainsFunc.ct k vl ws WR gf FR xs hlw hid t2 ht3) trivial ?_
  rintro _ _ ⟨rfl, rfl⟩
  refine SO.rd fun hr4 => ?_
  refine SO.v rfl (opv_not rfl) ?_
  refine SO.v rfl (opv_assign rfl) ?_
  refine SO.nil ?_
  refine S.to (ρ' := [(2, .bool (!t2))]) ⟨rfl, trivial⟩ ?_
  cases h
  refine S.b4 ?_
  refine S.b3 ?_
  refine S.b3 ?_
  refine S.b3 ?_
  refine S.b4 ?_
  exact S.ret1 Try.func18 rfl rfl (fun w hs hk => hR w _ _ ⟨rfl, rfl⟩ hs hk)
end Go.Proofs
set_option linter.unusedVariables false
namespace Go.Proofs
open Go.Sl Go.RowKit

/-! 24 (*padstone/stm.worker).next -/
def stm_next_n.f (told : List Int) : Option (Unit) :=
  (slices_Clone_int_int.f told).bind fun t2 => some ()
set_option maxHeartbeats 8000000 in
set_option maxRecDepth 100000 in
theorem stm_next_n.ct (bw : Nat) (tv dv tl : Value) (told : List Int) (ff : FuncId) (fcs : List Value) (FR : HProp) (JP : Value → HProp) (hcf : ∀ (us : Array Value) (w : World), (callFunc ff us).run Try.prog w = .ok (.enter ff us) w) (hct : ∀ (v : Value) (t : List Int), slices_Clone_int_int.f told = some t → Ct Try.prog ff (v :: fcs) (fun F => Rd (ekI .i64) v t F) [FR] (fun u H' => H' = [JP u, FR])) (h : stm_next_n.f told = some ()) :
    Ct Try.prog 24 [bp bw 0] (fun _ => True) [Box bw [.func (.func ff) #[] fcs.toArray, .nilFunc, tv, dv, tl], Own 3 (ekI .i64) tl told, FR] (fun u H' => H' = [Box bw [.func (.func ff) #[] fcs.toArray, .nilFunc, tv, dv, tl], Own 3 (ekI .i64) tl told, JP u, FR]) := by
  unfold stm_next_n.f at h
  refine Ct.intro (n := 22) Try.func24 rfl rfl rfl ?_
  intro R w0 F hF hR
  refine S.b1 ?_
  refine S.rd fun hr1 => ?_
  refine S.seq ?_
  refine S.region ?_
  refine SO.v rfl (opv_assign rfl) ?_
  refine SO.nil ?_
  refine S.seq ?_
  refine S.seq ?_
  refine S.region ?_
  refine SO.v rfl (opv_move rfl) ?_
  refine SO.v rfl (opv_nilCheck rfl) ?_
  refine SO.v rfl (opv_fieldAddr Try.underlying73 rfl Try.sizeOf69 rfl rfl) ?_
  refine SO.b1 ?_
  refine SO.load1 rfl Try.isAgg69 rfl rfl ?_
  refine SO.v rfl (opv_neqFF Try.underlying69 rfl rfl) ?_
  refine SO.nil ?_
  refine S.cond_false rfl ?_
  refine S.skip ?_
  refine S.seq ?_
  obtain ⟨t2, ht3, h⟩ := opt_bind h
  refine S.draw2 (Y := fun Q => ∃ (_ _ _ _ _ : Unit), Q [(0, bp bw 0)] [Box bw [.func (.func ff) #[] fcs.toArray, .nilFunc, tv, dv, tl], Own 3 (ekI .i64) tl told, FR, F]) (Z := fun Q => ∀ (u7 : Value) (v4 : Value) (_ _ _ _ : Unit), Q [(2, u7), (21, u7), (20, v4)] [JP u7, Own 3 (ekI .i64) v4 t2, Box bw [.func (.func ff) #[] fcs.toArray, .nilFunc, tv, dv, tl], Own 3 (ekI .i64) tl told, FR, F]) (T := [tS 0 (bp bw 0), tR (Box bw [.func (.func ff) #[] fcs.toArray, .nilFunc, tv, dv, tl]), tR (Own 3 (ekI .i64) tl told), tR (FR), tR (F), tS 12 (bp bw 0), tS 13 (bp bw 0), tS 14 (bp bw 0), tS 15 (.func (.func ff) #[] fcs.toArray), tS 16 (bp bw 0), tS 17 (bp bw 0), tS 18 (bp bw 4), tS 19 (tl), ⟨Value, [20], (fun v4 => [(20, v4)]), (fun v4 => [Own 3 (ekI .i64) v4 t2]), fun _ => rfl⟩, ⟨Value, [21], (fun u7 => [(21, u7)]), (fun u7 => [JP u7]), fun _ => rfl⟩, ⟨Value, [2, 21], (fun u7 => [(2, u7), (21, u7)]), (fun u7 => [JP u7]), fun _ => rfl⟩]) (D := [⟨[0], [], [5]⟩, ⟨[5], [], [6]⟩, ⟨[6], [], [7]⟩, ⟨[7, 1], [], [8]⟩, ⟨[0], [], [9]⟩, ⟨[9], [], [10]⟩, ⟨[10], [], [11]⟩, ⟨[11, 1], [], [12]⟩, ⟨[12, 2], [], [13]⟩, ⟨[8, 13, 3], [], [14]⟩, ⟨[], [14], [15]⟩]) (ini := [0, 1, 2, 3, 4]) (fin := [15, 13, 1, 2, 3, 4]) (bf := [[], [0], [0, 1], [0, 1, 2], [], [4], [4, 5], [4, 5, 6], [4, 5, 6, 7], [0, 1, 2, 3, 4, 5, 6, 7, 8], [0, 1, 2, 3, 4, 5, 6, 7, 8, 9]]) (by kernel_rfl) (by kernel_rfl) (fun Q => by kernel_rfl) (fun x w h1 h2 => ⟨(), (), (), (), (), EnvAll.of h1 ⟨rfl, trivial⟩, h2⟩) (fun Q => by kernel_rfl) ⟨?_, ?_, ?_, ?_, ?_, ?_, ?_, ?_, ?_, ?_, ?_, trivial⟩ ?_
  · rintro Fr _
    refine SO.v rfl (opv_move rfl) ?_
    exact SO.nilZ fun a w h1 h2 h3 h4 h5 => PZ.of h1 h3 h5 (.cons () (.cons () (.nil ⟨EnvAll.of h2 ⟨rfl, rfl, trivial⟩, h4⟩)))
  · rintro Fr _
    refine SO.v rfl (opv_nilCheck rfl) ?_
    exact SO.nilZ fun a w h1 h2 h3 h4 h5 => PZ.of h1 h3 h5 (.cons () (.cons () (.nil ⟨EnvAll.of h2 ⟨rfl, rfl, trivial⟩, h4⟩)))
  · rintro Fr _
    refine SO.v rfl (opv_fieldAddr Try.underlying73 rfl Try.sizeOf56 rfl rfl) ?_
    exact SO.nilZ fun a w h1 h2 h3 h4 h5 => PZ.of h1 h3 h5 (.cons () (.cons () (.nil ⟨EnvAll.of h2 ⟨rfl, rfl, trivial⟩, h4⟩)))
  · rintro Fr _ _
    refine SO.load1 rfl Try.isAgg56 rfl rfl ?_
    exact SO.nilZ fun a w h1 h2 h3 h4 h5 => PZ.of h1 h3 h5 (.cons () (.cons () (.cons () (.nil ⟨EnvAll.of h2 ⟨rfl, rfl, trivial⟩, h4⟩))))
  · rintro Fr _
    refine SO.v rfl (opv_move rfl) ?_
    exact SO.nilZ fun a w h1 h2 h3 h4 h5 => PZ.of h1 h3 h5 (.cons () (.cons () (.nil ⟨EnvAll.of h2 ⟨rfl, rfl, trivial⟩, h4⟩)))
  · rintro Fr _
    refine SO.v rfl (opv_nilCheck rfl) ?_
    exact SO.nilZ fun a w h1 h2 h3 h4 h5 => PZ.of h1 h3 h5 (.cons () (.cons () (.nil ⟨EnvAll.of h2 ⟨rfl, rfl, trivial⟩, h4⟩)))
  · rintro Fr _
    refine SO.v rfl (opv_fieldAddr Try.underlying73 rfl Try.sizeOf24 rfl rfl) ?_
    exact SO.nilZ fun a w h1 h2 h3 h4 h5 => PZ.of h1 h3 h5 (.cons () (.cons () (.nil ⟨EnvAll.of h2 ⟨rfl, rfl, trivial⟩, h4⟩)))
  · rintro Fr _ _
    refine SO.load1 rfl Try.isAgg24 rfl rfl ?_
    exact SO.nilZ fun a w h1 h2 h3 h4 h5 => PZ.of h1 h3 h5 (.cons () (.cons () (.cons () (.nil ⟨EnvAll.of h2 ⟨rfl, rfl, trivial⟩, h4⟩))))
  · rintro Fr _ _
    refine SO.call (pre := []) rfl Try.call33 rfl rfl rfl (slices_Clone_int_int.ct tl _ _ ht3) (Rd.head hr1) ?_
    rintro v4 _ ⟨_, rfl, rfl⟩
    refine SO.rd fun hr5 => ?_
    refine SO.b1 ?_
    exact SO.nilZ fun a w h1 h2 h3 h4 h5 => PZ.of h1 h3 h5 (.cons () (.cons () (.cons v4 (.nil ⟨EnvAll.of h2 ⟨rfl, rfl, trivial⟩, h4⟩))))
  · rintro Fr _ v4 _
    refine SO.rd fun hr6 => ?_
    refine SO.b1 ?_
    refine SO.call (pre := [FR]) rfl hcf rfl rfl rfl (hct v4 t2 (by assumption)) (Rd.head hr6) ?_
    rintro u7 _ rfl
    refine SO.b1 ?_
    refine SO.b2 ?_
    exact SO.nilZ fun a w h1 h2 h3 h4 h5 => PZ.of h1 h3 h5 (.cons () (.cons v4 (.cons () (.cons u7 (.nil ⟨EnvAll.of h2 ⟨rfl, rfl, rfl, trivial⟩, h4⟩)))))
  · rintro Fr u7
    refine SO.v rfl (opv_assign rfl) ?_
    exact SO.nilZ fun a w h1 h2 h3 h4 h5 => PZ.of h1 h3 h5 (.cons u7 (.nil ⟨EnvAll.of h2 ⟨rfl, rfl, trivial⟩, h4⟩))
  rintro u7 v4 _ _ _ _
  refine S.to (ρ' := [(2, u7)]) ⟨rfl, trivial⟩ ?_
  refine S.b1 ?_
  refine S.rd fun hr8 => ?_
  cases h
  refine S.drop ?_
  refine S.b4 ?_
  refine S.b4 ?_
  refine S.b2 ?_
  refine S.b4 ?_
  refine S.b4 ?_
  exact S.ret1 Try.func24 rfl rfl (fun w hs hk => hR w _ _ rfl hs hk)
end Go.Proofs
set_option linter.unusedVariables false
namespace Go.Proofs
open Go.Sl Go.RowKit

/-! 37 (*padstone/stm.Machine).Idle$1 -/
set_option maxHeartbeats 8000000 in
set_option maxRecDepth 100000 in
theorem stm_Idle1_j.ct (bw : Nat) (tv dv tl : Value) (told : List Int) (JR : Value → HProp) (ff : FuncId) (fcs : List Value) (FR : HProp) (hcf : ∀ (us : Array Value) (w : World), (callFunc ff us).run Try.prog w = .ok (.enter ff us) w) (hct : ∀ (v : Value) (t : List Int), slices_Clone_int_int.f told = some t → Ct Try.prog ff (v :: fcs) (fun F => Rd (ekI .i64) v t F) [FR] (fun u H' => H' = [IsJob JR u, FR])) (hn : stm_next_n.f told = some ())  :
    Ct Try.prog 37 [bp bw 0] (fun _ => True) [Box bw [.func (.func ff) #[] fcs.toArray, .nilFunc, tv, dv, tl], Own 3 (ekI .i64) tl told, FR] (fun u H' => u = .bool true ∧ H' = [Box bw [.func (.func ff) #[] fcs.toArray, .nilFunc, tv, dv, tl], Own 3 (ekI .i64) tl told, FR]) := by
  refine Ct.intro (n := 6) Try.func37 rfl rfl rfl ?_
  intro R w0 F hF hR
  refine S.b1 ?_
  refine S.rd fun hr1 => ?_
  refine S.seq ?_
  refine S.region ?_
  refine SO.v rfl (opv_assign rfl) ?_
  refine SO.nil ?_
  refine S.seq ?_
  refine S.region ?_
  refine SO.v rfl (opv_move rfl) ?_
  refine SO.b2 ?_
  refine SO.b1 ?_
  refine SO.b2 ?_
  refine SO.call (pre := [Box _ _, Own _ _ _ _, FR]) rfl Try.call24 rfl rfl rfl (stm_next_n.ct bw tv dv tl told ff fcs FR (IsJob JR) hcf hct hn) trivial ?_
  rintro u2 _ rfl
  refine SO.b2 ?_
  refine SO.openJob fun jf5 jcs6 hu3 => ?_
  subst hu3
  refine SO.b2 ?_
  refine SO.rd fun hr4 => ?_
  refine SO.v rfl (opv_neqFV Try.underlying69 rfl rfl) ?_
  refine SO.v rfl (opv_assign rfl) ?_
  refine SO.nil ?_
  refine S.b1 ?_
  refine S.drop ?_
  refine S.b3 ?_
  refine S.b3 ?_
  refine S.b2 ?_
  refine S.b3 ?_
  exact S.ret1 Try.func37 rfl rfl (fun w hs hk => hR w _ _ ⟨rfl, rfl⟩ hs hk)
end Go.Proofs
set_option linter.unusedVariables false
namespace Go.Proofs
open Go.Sl Go.RowKit

/-! 37 (*padstone/stm.Machine).Idle$1 -/
set_option maxHeartbeats 8000000 in
set_option maxRecDepth 100000 in
theorem stm_Idle1_n.ct (bw : Nat) (tv dv tl : Value) (told : List Int) (ff : FuncId) (fcs : List Value) (FR : HProp) (hcf : ∀ (us : Array Value) (w : World), (callFunc ff us).run Try.prog w = .ok (.enter ff us) w) (hct : ∀ (v : Value) (t : List Int), slices_Clone_int_int.f told = some t → Ct Try.prog ff (v :: fcs) (fun F => Rd (ekI .i64) v t F) [FR] (fun u H' => H' = [IsNil u, FR])) (hn : stm_next_n.f told = some ())  :
    Ct Try.prog 37 [bp bw 0] (fun _ => True) [Box bw [.func (.func ff) #[] fcs.toArray, .nilFunc, tv, dv, tl], Own 3 (ekI .i64) tl told, FR] (fun u H' => u = .bool false ∧ H' = [Box bw [.func (.func ff) #[] fcs.toArray, .nilFunc, tv, dv, tl], Own 3 (ekI .i64) tl told, FR]) := by
  refine Ct.intro (n := 6) Try.func37 rfl rfl rfl ?_
  intro R w0 F hF hR
  refine S.b1 ?_
  refine S.rd fun hr1 => ?_
  refine S.seq ?_
  refine S.region ?_
  refine SO.v rfl (opv_assign rfl) ?_
  refine SO.nil ?_
  refine S.seq ?_
  refine S.region ?_
  refine SO.v rfl (opv_move rfl) ?_
  refine SO.b2 ?_
  refine SO.b1 ?_
  refine SO.b2 ?_
  refine SO.call (pre := [Box _ _, Own _ _ _ _, FR]) rfl Try.call24 rfl rfl rfl (stm_next_n.ct bw tv dv tl told ff fcs FR (IsNil) hcf hct hn) trivial ?_
  rintro u2 _ rfl
  refine SO.b2 ?_
  refine SO.openNil fun hu3 => ?_
  subst hu3
  refine SO.b1 ?_
  refine SO.rd fun hr4 => ?_
  refine SO.v rfl (opv_neqFF Try.underlying69 rfl rfl) ?_
  refine SO.v rfl (opv_assign rfl) ?_
  refine SO.nil ?_
  refine S.b3 ?_
  refine S.b3 ?_
  refine S.b2 ?_
  refine S.b3 ?_
  exact S.ret1 Try.func37 rfl rfl (fun w hs hk => hR w _ _ ⟨rfl, rfl⟩ hs hk)
end Go.Proofs
set_option linter.unusedVariables false
namespace Go.Proofs
open Go.Sl Go.RowKit

/-! 24 (*padstone/stm.worker).next -/
set_option maxHeartbeats 8000000 in
set_option maxRecDepth 100000 in
theorem stm_next_s.ct (bw : Nat) (fv tv dv tl : Value) (jf : FuncId) (jcs : List Value)  :
    Ct Try.prog 24 [bp bw 0] (fun _ => True) [Box bw [fv, .func (.func jf) #[] jcs.toArray, tv, dv, tl]] (fun u H' => u = .func (.func jf) #[] jcs.toArray ∧ H' = [Box bw [fv, .func (.func jf) #[] jcs.toArray, tv, dv, tl]]) := by
  refine Ct.intro (n := 22) Try.func24 rfl rfl rfl ?_
  intro R w0 F hF hR
  refine S.seq ?_
  refine S.region ?_
  refine SO.v rfl (opv_assign rfl) ?_
  refine SO.nil ?_
  refine S.seq ?_
  refine S.seq ?_
  refine S.region ?_
  refine SO.v rfl (opv_move rfl) ?_
  refine SO.v rfl (opv_nilCheck rfl) ?_
  refine SO.v rfl (opv_fieldAddr Try.underlying73 rfl Try.sizeOf69 rfl rfl) ?_
  refine SO.load1 rfl Try.isAgg69 rfl rfl ?_
  refine SO.v rfl (opv_neqFV Try.underlying69 rfl rfl) ?_
  refine SO.nil ?_
  refine S.cond_true rfl ?_
  refine S.seq ?_
  refine S.region ?_
  refine SO.v rfl (opv_move rfl) ?_
  refine SO.v rfl (opv_nilCheck rfl) ?_
  refine SO.v rfl (opv_fieldAddr Try.underlying73 rfl Try.sizeOf69 rfl rfl) ?_
  refine SO.load1 rfl Try.isAgg69 rfl rfl ?_
  refine SO.v rfl (opv_assign rfl) ?_
  refine SO.nil ?_
  refine S.to (ρ' := [(2, .func (.func jf) #[] jcs.toArray)]) ⟨rfl, trivial⟩ ?_
  refine S.b1 ?_
  refine S.b1 ?_
  exact S.ret1 Try.func24 rfl rfl (fun w hs hk => hR w _ _ ⟨rfl, rfl⟩ hs hk)
end Go.Proofs
set_option linter.unusedVariables false
namespace Go.Proofs
open Go.Sl Go.RowKit

/-! 37 (*padstone/stm.Machine).Idle$1 -/
set_option maxHeartbeats 8000000 in
set_option maxRecDepth 100000 in
theorem stm_Idle1_s.ct (bw : Nat) (fv tv dv tl : Value) (jf : FuncId) (jcs : List Value)  :
    Ct Try.prog 37 [bp bw 0] (fun _ => True) [Box bw [fv, .func (.func jf) #[] jcs.toArray, tv, dv, tl]] (fun u H' => u = .bool true ∧ H' = [Box bw [fv, .func (.func jf) #[] jcs.toArray, tv, dv, tl]]) := by
  refine Ct.intro (n := 6) Try.func37 rfl rfl rfl ?_
  intro R w0 F hF hR
  refine S.seq ?_
  refine S.region ?_
  refine SO.v rfl (opv_assign rfl) ?_
  refine SO.nil ?_
  refine S.seq ?_
  refine S.region ?_
  refine SO.v rfl (opv_move rfl) ?_
  refine SO.call (pre := [Box _ _]) rfl Try.call24 rfl rfl rfl (stm_next_s.ct bw fv tv dv tl jf jcs) trivial ?_
  rintro _ _ ⟨rfl, rfl⟩
  refine SO.v rfl (opv_neqFV Try.underlying69 rfl rfl) ?_
  refine SO.v rfl (opv_assign rfl) ?_
  refine SO.nil ?_
  refine S.b1 ?_
  refine S.b1 ?_
  exact S.ret1 Try.func37 rfl rfl (fun w hs hk => hR w _ _ ⟨rfl, rfl⟩ hs hk)
end Go.Proofs
namespace Go.Proofs
open Go.Sl Go.RowKit
/-! 32 slices.Clone[[]padstone/stm.Entry,padstone/stm.Entry] -/
def slices_Clone_stm_Entry_stm_Entry.f (a0 : List stm_Entry) : Option (List stm_Entry) := app [] a0
set_option maxRecDepth 100000 in
theorem slices_Clone_stm_Entry_stm_Entry.ct (v0 : Value) (a0 : List stm_Entry) (r0 : List stm_Entry) (h : slices_Clone_stm_Entry_stm_Entry.f a0 = some r0) :
    Ct Try.prog 32 [v0] (fun F => Rd ek_stm_Entry v0 a0 F) [] (fun u H' => ∃ v_r0, u = v_r0 ∧ H' = [Own 44 ek_stm_Entry v_r0 r0]) := by
  unfold slices_Clone_stm_Entry_stm_Entry.f at h
  refine Ct.intro (n := 8) Try.func32 rfl rfl rfl ?_
  intro R w0 F hF0 hR
  obtain ⟨a, cap, ⟨hv, hcap⟩, hel⟩ := hF0
  have hF0 : Rd ek_stm_Entry v0 a0 F := ⟨a, cap, ⟨hv, hcap⟩, hel⟩
  have hv2 : ev (num 0 [v0]) (.tmp 0) = some (.slice a a0.length cap) := by rw [← hv]; rfl
  refine S.seq ?_
  refine S.region ?_
  refine SO.v rfl (opv_assign rfl) ?_
  refine SO.nil ?_
  refine S.seq ?_
  refine S.seq ?_
  refine S.region ?_
  refine SO.v rfl (opv_move rfl) ?_
  rw [show v0 = .slice a a0.length cap from hv]
  refine SO.v rfl (opv_eqlSN Try.underlying41 rfl) ?_
  rw [← hv]
  refine SO.nil ?_
  cases a with
  | none =>
    have h0 : a0 = [] := by
      cases a0 with
      | nil => rfl
      | cons x l => obtain ⟨b, off, hh, _⟩ := hel 0 x rfl; cases hh
    subst h0
    have hr : r0 = [] := by injection h with h; exact h.symm
    subst hr
    refine S.cond_true rfl ?_
    refine S.seq ?_
    refine S.region ?_
    refine SO.v rfl (opv_assign rfl) ?_
    refine SO.nil ?_
    refine S.newOwn 44 ek_stm_Entry ?_
    exact S.ret1 Try.func32 rfl rfl (fun w hs hk => hR w _ _ ⟨_, rfl, rfl⟩ hs hk)
  | some ad =>
    refine S.cond_false rfl ?_
    refine S.skip ?_
    refine S.seq ?_
    refine S.region ?_
    refine SO.buildSlice0 ek_stm_Entry rfl Try.underlying41 Try.sizeOf44 (fun v1 hr1 => ?_)
    refine SO.v rfl (opv_move rfl) ?_
    refine SO.append rfl Try.underlying41 Try.underlying41 inf44 rfl rfl rfl (by decide) rfl rfl rfl (Rd.head hF0) h (fun v2 => ?_)
    refine SO.v rfl (opv_assign rfl) ?_
    refine SO.nil ?_
    exact S.ret1 Try.func32 rfl rfl (fun w hs hk => hR w _ _ ⟨_, rfl, rfl⟩ hs hk)
end Go.Proofs
set_option linter.unusedVariables false
namespace Go.Proofs
open Go.Sl Go.RowKit

/-! 12 (*padstone/stm.Machine).Log -/
def stm_Machine_Log.f (gl : List stm_Entry) : Option (List stm_Entry) :=
  (slices_Clone_stm_Entry_stm_Entry.f gl).bind fun t4 => some t4
set_option maxHeartbeats 8000000 in
set_option maxRecDepth 100000 in
theorem stm_Machine_Log.ct (zb : List Nat) (bpm bps : Nat) (vl va vg vs : Value) (sa : word_Store) (dl : List desc_Desc) (el gl : List stm_Entry) (hle : zb.length = el.length) (rl : List stm_Entry) (h : stm_Machine_Log.f gl = some rl) :
    Ct Try.prog 12 [bp bpm 0] (fun _ => True) [Box bpm [bp bps 0, vl, va, vg], Own 105 ekMd va (zb.zip el), ZipR rep_desc_Desc zb dl, Own 44 ek_stm_Entry vg gl, Box bps [vs, .int .u32 sa.limit], Own 88 ek_api_Cell vs sa.l] (fun u H' => ∃ vr, u = vr ∧ H' = [Own 44 ek_stm_Entry vr rl, Box bpm [bp bps 0, vl, va, vg], Own 105 ekMd va (zb.zip el), ZipR rep_desc_Desc zb dl, Own 44 ek_stm_Entry vg gl, Box bps [vs, .int .u32 sa.limit], Own 88 ek_api_Cell vs sa.l]) := by
  unfold stm_Machine_Log.f at h
  refine Ct.intro (n := 8) Try.func12 rfl rfl rfl ?_
  intro R w0 F hF hR
  refine S.b1 ?_
  refine S.rd fun hr1 => ?_
  refine S.b3 ?_
  refine S.rd fun hr2 => ?_
  refine S.b5 ?_
  refine S.rd fun hr3 => ?_
  refine S.seq ?_
  refine S.region ?_
  refine SO.v rfl (opv_assign rfl) ?_
  refine SO.nil ?_
  refine S.seq ?_
  refine S.region ?_
  refine SO.v rfl (opv_move rfl) ?_
  refine SO.v rfl (opv_nilCheck rfl) ?_
  refine SO.v rfl (opv_fieldAddr Try.underlying67 rfl Try.sizeOf41 rfl rfl) ?_
  refine SO.b3 ?_
  refine SO.load1 rfl Try.isAgg41 rfl rfl ?_
  obtain ⟨t4, ht5, h⟩ := opt_bind h
  refine SO.call (pre := []) rfl Try.call32 rfl rfl rfl (slices_Clone_stm_Entry_stm_Entry.ct vg _ _ ht5) (Rd.tail (Rd.tail (Rd.head hr2))) ?_
  rintro v6 _ ⟨_, rfl, rfl⟩
  refine SO.rd fun hr7 => ?_
  refine SO.v rfl (opv_assign rfl) ?_
  refine SO.nil ?_
  cases h
  refine S.b7 ?_
  refine S.b3 ?_
  refine S.b7 ?_
  refine S.b5 ?_
  refine S.b7 ?_
  refine S.b7 ?_
  refine S.b7 ?_
  refine S.b7 ?_
  exact S.ret1 Try.func12 rfl rfl (fun w hs hk => hR w _ _ ⟨v6, rfl, rfl⟩ hs hk)
end Go.Proofs
set_option linter.unusedVariables false
namespace Go.Proofs
open Go.Sl Go.RowKit
theorem inf68_stm_New : Try.prog.info? 68 = some Try.t68 := by kernel_rfl
/-! 8 padstone/stm.New -/
variable {α : Type}
def stm_New.l1 (isn : α → Bool) (fs : List α) : Nat → (Int × (List α)) → Option (Brk (Option (List α)) (List α))
  | 0, _ => none
  | k + 1, (x22_1, y2_1_1) => bif decide (x22_1 < (fs.length : Int)) then ((at_ fs x22_1).bind fun x4 => bif isn x4 then (some (Brk.ret (none : Option (List α)))) else ((app y2_1_1 ([x4])).bind fun zs10 => stm_New.l1 isn fs k (w64 (x22_1 + 1), zs10))) else (some (Brk.nx y2_1_1))
def stm_New.f (k : Nat) (isn : α → Bool) (fs : List α) : Option ((Option (List α))) :=
  bif decide (8 < (fs.length : Int)) then (some (none : Option (List α))) else ((stm_New.l1 isn fs k (0, [])).bind fun o1 => Brk.go o1 (fun r => some r) (fun y2_1_e1 => some (some y2_1_e1)))
set_option maxHeartbeats 8000000 in
set_option maxRecDepth 100000 in
theorem stm_New.ct (k : Nat) (jv : α → Value) (hjv : ∀ a, (jv a).oneCell' = true) (isn : α → Bool) (hn : ∀ a, cond (isn a) (jv a = .nilFunc) (∃ fn us cs, jv a = .func fn us cs)) (bps : Nat) (vf : Value) (fs : List α) (r0 : Option (List α)) (h : stm_New.f k isn fs = some r0) :
    Ct Try.prog 8 [bp bps 0, vf] (fun F => Rd (ekV jv hjv) vf fs F) [] (fun u H' => match r0 with | none => (u = .tuple #[.pointer none, errV 60 (some 1)] ∧ H' = []) | some ls => (∃ b vl, u = .tuple #[bp b 0, errV 60 none] ∧ H' = [Box b [bp bps 0, vl, .slice none 0 0, .slice none 0 0], OwnPt (NW jv) 68 vl ls])) := by
  unfold stm_New.f at h
  refine Ct.intro (n := 43) Try.func8 rfl rfl rfl ?_
  intro R w0 F hF hR
  refine S.seq ?_
  refine S.region ?_
  refine SO.v rfl (opv_assign rfl) ?_
  refine SO.v rfl (opv_assign rfl) ?_
  refine SO.nil ?_
  refine S.seq ?_
  refine S.seq ?_
  refine S.region ?_
  refine SO.v rfl (opv_move rfl) ?_
  refine SO.v rfl (opv_eqlP Try.underlying27 rfl) ?_
  refine SO.v rfl (opv_move rfl) ?_
  refine SO.takeT rfl rfl rfl rfl ?_
  refine SO.v rfl (opv_move rfl) ?_
  refine SO.takeT rfl rfl rfl rfl ?_
  refine SO.v rfl (opv_lenR rfl Try.underlying35 hF rfl) ?_
  refine SO.takeT rfl rfl rfl rfl ?_
  refine SO.v rfl (opv_gtr rfl rfl) ?_
  refine SO.v rfl (opv_pick_ff rfl rfl) ?_
  refine SO.nil ?_
  rcases bool_or (decide (8 < (fs.length : Int))) with b1 | b1
  · replace h := cond_t b1 h
    refine S.condT rfl b1 ?_
    refine S.seq ?_
    refine S.region ?_
    refine SO.v rfl (opv_iface Try.underlying60 rfl rfl) ?_
    refine SO.v rfl (opv_assign rfl) ?_
    refine SO.v rfl (opv_assign rfl) ?_
    refine SO.nil ?_
    refine S.to (ρ' := [(4, .pointer none), (5, errV 60 (some 1))]) ⟨rfl, rfl, trivial⟩ ?_
    cases h
    exact S.ret2 Try.func8 rfl rfl rfl (fun w hs hk => hR w _ _ ⟨rfl, rfl⟩ hs hk)
  replace h := cond_f b1 h
  refine S.condF rfl b1 ?_
  refine S.skip ?_
  refine S.seq ?_
  refine S.region ?_
  refine SO.v rfl (opv_move rfl) ?_
  refine SO.v rfl (opv_build (v := .agg #[bp bps 0, .slice none 0 0, .slice none 0 0, .slice none 0 0]) rfl (by intro w; kernel_rfl)) ?_
  refine SO.box rfl rfl rfl (fun b2 => ?_)
  refine SO.v rfl (opv_assign rfl) ?_
  refine SO.nil ?_
  refine S.to (ρ' := [(1, vf), (4, .pointer none), (5, errV 60 none), (6, bp b2 0)]) ⟨rfl, rfl, rfl, rfl, trivial⟩ ?_
  refine S.seq ?_
  refine S.seq ?_
  refine S.region ?_
  refine SO.v rfl (opv_move rfl) ?_
  refine SO.v rfl (opv_lenR rfl Try.underlying35 hF rfl) ?_
  refine SO.v rfl (opv_move rfl) ?_
  refine SO.nil ?_
  obtain ⟨o1, hlp1, h⟩ := opt_bind h
  refine S.newOwnP 68 (NW jv) ?_
  refine S.b2 ?_
  refine S.b2 ?_
  refine S.b2 ?_
  refine S.to (ρ' := [(22, .int .i64 0), (21, .int .i64 (fs.length : Int)), (20, vf), (4, .pointer none), (5, errV 60 none), (6, bp b2 0)]) ⟨rfl, rfl, rfl, rfl, rfl, rfl, trivial⟩ ?_
  refine S.forloop (X := (Int × (List α)) × Value) (O := Brk (Option (List α)) (List α)) (fun m x => stm_New.l1 isn fs m x.1) (fun x => match x with | ((x22_1, y2_1_1), vy2_1_1) => [(22, .int .i64 x22_1), (21, .int .i64 (fs.length : Int)), (20, vf), (4, .pointer none), (5, errV 60 none), (6, bp b2 0)]) (fun x => match x with | ((x22_1, y2_1_1), vy2_1_1) => [OwnPt (NW jv) 68 vy2_1_1 y2_1_1, Box b2 [bp bps 0, vy2_1_1, .slice none 0 0, .slice none 0 0], F]) (fun Sk o' => (∀ r', o' = Brk.ret r' → some r' = some r0) ∧ ∀ y2_1_e1 : (List α), ∀ vy2_1_e1 : Value, o' = Brk.nx y2_1_e1 → Sk [(4, .pointer none), (5, errV 60 none), (6, bp b2 0)] [OwnPt (NW jv) 68 vy2_1_e1 y2_1_e1, Box b2 [bp bps 0, vy2_1_e1, .slice none 0 0, .slice none 0 0], F]) (fun _ => rfl) ?_ (m := k) (x := ((0, []), .slice none 0 0)) hlp1 ?_
  · clear h hlp1
    intro k x o_1 h hK1 ih1
    obtain ⟨⟨x22_1, y2_1_1⟩, vy2_1_1⟩ := x
    replace h : stm_New.l1 isn fs (k + 1) (x22_1, y2_1_1) = some o_1 := h
    first | rw [stm_New.l1] at h | unfold stm_New.l1 at h
    refine S.seq ?_
    refine S.region ?_
    refine SO.v rfl (opv_lss rfl rfl) ?_
    refine SO.nil ?_
    refine S.seq ?_
    rcases bool_or (decide (x22_1 < (fs.length : Int))) with b3 | b3
    · replace h := cond_t b3 h
      refine S.condT rfl b3 ?_
      refine S.skip ?_
      refine S.seq ?_
      refine S.block ?_
      refine S.seq ?_
      refine S.region ?_
      obtain ⟨x4, hx5, h⟩ := opt_bind h
      refine SO.v rfl (opv_idx Try.underlying35 Try.sizeOf56 hF rfl rfl hx5) ?_
      refine SO.loadI1 (j := 0) rfl Try.isAgg56 (Rd.tail (Rd.tail (Rd.head hF))) hx5 rfl rfl rfl rfl ?_
      refine SO.v rfl (opv_assign rfl) ?_
      refine SO.nil ?_
      refine S.seq ?_
      refine S.seq ?_
      refine S.region ?_
      refine SO.v rfl (opv_move rfl) ?_
      refine SO.v rfl (opv_eqlEV Try.underlying56 rfl (hn x4) rfl) ?_
      refine SO.nil ?_
      rcases bool_or (isn x4) with b6 | b6
      · replace h := cond_t b6 h
        refine S.condT rfl b6 ?_
        refine S.seq ?_
        refine S.region ?_
        refine SO.v rfl (opv_iface Try.underlying60 rfl rfl) ?_
        refine SO.v rfl (opv_assign rfl) ?_
        refine SO.v rfl (opv_assign rfl) ?_
        refine SO.nil ?_
        refine S.to (ρ' := [(4, .pointer none), (5, errV 60 (some 1))]) ⟨rfl, rfl, trivial⟩ ?_
        cases h
        replace h := hK1.1 _ rfl
        cases h
        refine S.drop ?_
        refine S.drop ?_
        exact S.ret2 Try.func8 rfl rfl rfl (fun w hs hk => hR w _ _ ⟨rfl, rfl⟩ hs hk)
      replace h := cond_f b6 h
      refine S.condF rfl b6 ?_
      refine S.skip ?_
      refine S.region ?_
      refine SO.v rfl (opv_move rfl) ?_
      refine SO.v rfl (opv_move rfl) ?_
      refine SO.v rfl (opv_nilCheck rfl) ?_
      refine SO.v rfl (opv_fieldAddr Try.underlying67 rfl Try.sizeOf64 rfl rfl) ?_
      refine SO.b1 ?_
      refine SO.load1 rfl Try.isAgg64 rfl rfl ?_
      refine SO.v rfl (opv_move rfl) ?_
      have hB_ : ∀ (w : World) (u0_ : Value), u0_.oneCell' = true → (Instr.build 73 #[(0, u0_)]).run Try.prog w = .ok (.agg #[u0_, .nilFunc, .pointer none, .pointer none, .slice none 0 0]) w := (by intro w u0_ hu0_; cases u0_ <;> first | (simp [Value.oneCell'] at hu0_; done) | kernel_rfl)
      refine SO.v rfl (opv_build (v := .agg #[jv x4, .nilFunc, .pointer none, .pointer none, .slice none 0 0]) rfl (fun w => hB_ w _ (hjv x4))) ?_
      clear hB_
      refine SO.box rfl rfl rfl (fun b7 => ?_)
      refine SO.buildSlice (K := ekP) (xs := [b7]) (cs := [bp b7 0]) rfl Try.underlying64 Try.sizeOf68 Try.zeroValue68 rfl rfl rfl (by kernel_rfl) rfl rfl rfl (fun v8 hr9 => ?_)
      refine SO.packPt1 (R := NW jv) (x := x4) ?_
      obtain ⟨zs10, hz11, h⟩ := opt_bind h
      refine SO.b2 ?_
      refine SO.b1 ?_
      refine SO.b1 ?_
      refine SO.appendPt rfl Try.underlying64 inf68_stm_New rfl rfl rfl (by decide) rfl rfl rfl hz11 (fun v12 => ?_)
      refine SO.v rfl (opv_nilCheck rfl) ?_
      refine SO.v rfl (opv_fieldAddr Try.underlying67 rfl Try.sizeOf64 rfl rfl) ?_
      refine SO.onePt fun h113 => ?_
      refine SO.b1 ?_
      refine SO.store1 Try.sizeOf64 rfl rfl h113 rfl ?_
      refine SO.nil ?_
      refine S.to (ρ' := [(22, .int .i64 x22_1), (21, .int .i64 (fs.length : Int)), (20, vf), (4, .pointer none), (5, errV 60 none), (6, bp b2 0)]) ⟨rfl, rfl, rfl, rfl, rfl, rfl, trivial⟩ ?_
      refine S.inBlock ?_
      refine S.region ?_
      refine SO.v rfl (opv_add rfl rfl) ?_
      refine SO.v rfl (opv_move rfl) ?_
      refine SO.nil ?_
      refine S.b2 ?_
      refine S.b1 ?_
      refine S.b2 ?_
      refine S.to ?_ (ih1 ((w64 (x22_1 + 1), zs10), v12) h)
      exact ⟨rfl, rfl, rfl, rfl, rfl, rfl, trivial⟩
    replace h := cond_f b3 h
    refine S.condF rfl b3 ?_
    refine S.exit rfl ?_
    cases h
    refine S.b2 ?_
    refine S.b2 ?_
    refine S.b2 ?_
    refine S.to ?_ (hK1.2 y2_1_1 vy2_1_1 rfl)
    exact ⟨rfl, rfl, rfl, trivial⟩
  refine ⟨fun r' e' => ?_, ?_⟩
  · subst e'
    have h9 := Brk.of_ret h
    exact h9
  rintro y2_1_e1 vy2_1_e1 e'
  subst e'
  replace h := Brk.of_nx h
  refine S.seq ?_
  refine S.region ?_
  refine SO.v rfl (opv_move rfl) ?_
  refine SO.v rfl (opv_assign rfl) ?_
  refine SO.v rfl (opv_assign rfl) ?_
  refine SO.nil ?_
  cases h
  refine S.b2 ?_
  refine S.b1 ?_
  refine S.b2 ?_
  exact S.ret2 Try.func8 rfl rfl rfl (fun w hs hk => hR w _ _ ⟨b2, vy2_1_e1, rfl, rfl⟩ hs hk)
end Go.Proofs
set_option linter.unusedVariables false
namespace Go.Proofs
open Go.Sl Go.RowKit

/-! 14 (*padstone/stm.Machine).Told -/
def stm_Told_in.f (told : List Int) : Option (List Int) :=
  (slices_Clone_int_int.f told).bind fun t3 => some t3
set_option maxHeartbeats 8000000 in
set_option maxRecDepth 100000 in
theorem stm_Told_in.ct (bpm bps : Nat) (vl va vg : Value) (ws : List Nat) (id : Int) (bw : Nat) (hbw : at_ ws id = some bw) (hin : stm_Machine_in.f ws id = some true) (fv jv tv dv tl : Value) (told rl : List Int) (h : stm_Told_in.f told = some rl) :
    Ct Try.prog 14 [bp bpm 0, .int .i64 id] (fun _ => True) [Box bpm [bp bps 0, vl, va, vg], Own 68 ekP vl ws, Box bw [fv, jv, tv, dv, tl], Own 3 (ekI .i64) tl told] (fun u H' => ∃ vr, u = vr ∧ H' = [Own 3 (ekI .i64) vr rl, Box bpm [bp bps 0, vl, va, vg], Own 68 ekP vl ws, Box bw [fv, jv, tv, dv, tl], Own 3 (ekI .i64) tl told]) := by
  unfold stm_Told_in.f at h
  refine Ct.intro (n := 20) Try.func14 rfl rfl rfl ?_
  intro R w0 F hF hR
  refine S.b1 ?_
  refine S.rd fun hr1 => ?_
  refine S.b3 ?_
  refine S.rd fun hr2 => ?_
  refine S.seq ?_
  refine S.region ?_
  refine SO.v rfl (opv_assign rfl) ?_
  refine SO.nil ?_
  refine S.seq ?_
  refine S.seq ?_
  refine S.region ?_
  refine SO.v rfl (opv_move rfl) ?_
  refine SO.v rfl (opv_move rfl) ?_
  refine SO.b1 ?_
  refine SO.b2 ?_
  refine SO.call (pre := [Box _ _, Own _ _ _ _]) rfl Try.call23 rfl rfl rfl (stm_Machine_in.ct bpm bps vl va vg ws id _ hin) trivial ?_
  rintro _ _ ⟨rfl, rfl⟩
  refine SO.v rfl (opv_not rfl) ?_
  refine SO.nil ?_
  refine S.cond_false rfl ?_
  refine S.skip ?_
  refine S.seq ?_
  refine S.region ?_
  refine SO.v rfl (opv_move rfl) ?_
  refine SO.v rfl (opv_nilCheck rfl) ?_
  refine SO.v rfl (opv_fieldAddr Try.underlying67 rfl Try.sizeOf64 rfl rfl) ?_
  refine SO.load1 rfl Try.isAgg64 rfl rfl ?_
  refine SO.v rfl (opv_move rfl) ?_
  refine SO.v rfl (opv_idx Try.underlying64 Try.sizeOf68 hr1 rfl rfl hbw) ?_
  refine SO.loadI1 (j := 0) rfl Try.isAgg68 (Rd.tail (Rd.head hr1)) hbw rfl rfl rfl rfl ?_
  refine SO.v rfl (opv_nilCheck rfl) ?_
  refine SO.v rfl (opv_fieldAddr Try.underlying73 rfl Try.sizeOf24 rfl rfl) ?_
  refine SO.b3 ?_
  refine SO.load1 rfl Try.isAgg24 rfl rfl ?_
  obtain ⟨t3, ht4, h⟩ := opt_bind h
  refine SO.call (pre := []) rfl Try.call33 rfl rfl rfl (slices_Clone_int_int.ct tl _ _ ht4) (Rd.tail (Rd.tail (Rd.tail (Rd.head hr2)))) ?_
  rintro v5 _ ⟨_, rfl, rfl⟩
  refine SO.rd fun hr6 => ?_
  refine SO.v rfl (opv_assign rfl) ?_
  refine SO.nil ?_
  refine S.to (ρ' := [(4, v5)]) ⟨rfl, trivial⟩ ?_
  cases h
  refine S.b5 ?_
  refine S.b5 ?_
  refine S.b3 ?_
  refine S.b5 ?_
  refine S.b5 ?_
  refine S.b5 ?_
  exact S.ret1 Try.func14 rfl rfl (fun w hs hk => hR w _ _ ⟨v5, rfl, rfl⟩ hs hk)
end Go.Proofs
set_option linter.unusedVariables false
namespace Go.Proofs
open Go.Sl Go.RowKit

/-! 14 (*padstone/stm.Machine).Told -/
set_option maxHeartbeats 8000000 in
set_option maxRecDepth 100000 in
theorem stm_Told_out.ct (bpm bps : Nat) (vl va vg : Value) (ws : List Nat) (id : Int) (hin : stm_Machine_in.f ws id = some false)  :
    Ct Try.prog 14 [bp bpm 0, .int .i64 id] (fun _ => True) [Box bpm [bp bps 0, vl, va, vg], Own 68 ekP vl ws] (fun u H' => ∃ vr, u = vr ∧ H' = [Own 3 (ekI .i64) vr [], Box bpm [bp bps 0, vl, va, vg], Own 68 ekP vl ws]) := by
  refine Ct.intro (n := 20) Try.func14 rfl rfl rfl ?_
  intro R w0 F hF hR
  refine S.b1 ?_
  refine S.rd fun hr1 => ?_
  refine S.seq ?_
  refine S.region ?_
  refine SO.v rfl (opv_assign rfl) ?_
  refine SO.nil ?_
  refine S.seq ?_
  refine S.seq ?_
  refine S.region ?_
  refine SO.v rfl (opv_move rfl) ?_
  refine SO.v rfl (opv_move rfl) ?_
  refine SO.b1 ?_
  refine SO.call (pre := [Box _ _, Own _ _ _ _]) rfl Try.call23 rfl rfl rfl (stm_Machine_in.ct bpm bps vl va vg ws id _ hin) trivial ?_
  rintro _ _ ⟨rfl, rfl⟩
  refine SO.v rfl (opv_not rfl) ?_
  refine SO.nil ?_
  refine S.cond_true rfl ?_
  refine S.seq ?_
  refine S.region ?_
  refine SO.v rfl (opv_assign rfl) ?_
  refine SO.nil ?_
  refine S.newOwn 3 (ekI .i64) ?_
  refine S.b3 ?_
  refine S.b3 ?_
  refine S.b3 ?_
  refine S.b3 ?_
  exact S.ret1 Try.func14 rfl rfl (fun w hs hk => hR w _ _ ⟨(.slice none 0  0), rfl, rfl⟩ hs hk)
end Go.Proofs
namespace Go.Proofs
open Go.Sl Go.RowKit
/-! 31 (*padstone/desc.Desc).Mark -/
def desc_Desc_Mark.f (a0 : desc_Desc) : Option (Int) :=
  some a0.mark
set_option maxHeartbeats 8000000 in
set_option maxRecDepth 100000 in
theorem desc_Desc_Mark.ct (bp0 : Nat) (v0_l : Value) (a0 : desc_Desc) (r0 : Int) (h : desc_Desc_Mark.f a0 = some r0) :
    Ct Try.prog 31 [bp bp0 0] (fun _ => True) [Box bp0 [.int .i64 a0.mark, v0_l, .int .i64 a0.status, .int .i64 a0.at_], Own 114 ek_tx_Entry v0_l a0.l] (fun u H' => u = .int .i64 r0 ∧ H' = [Box bp0 [.int .i64 a0.mark, v0_l, .int .i64 a0.status, .int .i64 a0.at_], Own 114 ek_tx_Entry v0_l a0.l]) := by
  unfold desc_Desc_Mark.f at h
  refine Ct.intro (n := 7) Try.func31 rfl rfl rfl ?_
  intro R w0 F hF hR
  refine S.b1 ?_
  refine S.rd fun hr1 => ?_
  refine S.seq ?_
  refine S.region ?_
  refine SO.v rfl (opv_assign rfl) ?_
  refine SO.nil ?_
  refine S.seq ?_
  refine S.region ?_
  refine SO.v rfl (opv_move rfl) ?_
  refine SO.v rfl (opv_nilCheck rfl) ?_
  refine SO.v rfl (opv_fieldAddr Try.underlying108 rfl Try.sizeOf3 rfl rfl) ?_
  refine SO.b1 ?_
  refine SO.load1 rfl Try.isAgg3 rfl rfl ?_
  refine SO.v rfl (opv_assign rfl) ?_
  refine SO.nil ?_
  cases h
  refine S.b2 ?_
  refine S.b2 ?_
  refine S.b2 ?_
  exact S.ret1 Try.func31 rfl rfl (fun w hs hk => hR w _ _ ⟨rfl, rfl⟩ hs hk)
end Go.Proofs
namespace Go.Proofs
open Go.Sl Go.RowKit
/-! 28 (*padstone/desc.Desc).Over -/
def desc_Desc_Over.f (a0 : desc_Desc) : Option (Bool) :=
  (bif a0.status != 0 then (some (a0.at_ == (a0.l.length : Int))) else (some false)).bind fun j2_1 => some j2_1
set_option maxHeartbeats 8000000 in
set_option maxRecDepth 100000 in
theorem desc_Desc_Over.ct (bp0 : Nat) (v0_l : Value) (a0 : desc_Desc) (r0 : Bool) (h : desc_Desc_Over.f a0 = some r0) :
    Ct Try.prog 28 [bp bp0 0] (fun _ => True) [Box bp0 [.int .i64 a0.mark, v0_l, .int .i64 a0.status, .int .i64 a0.at_], Own 114 ek_tx_Entry v0_l a0.l] (fun u H' => u = .bool r0 ∧ H' = [Box bp0 [.int .i64 a0.mark, v0_l, .int .i64 a0.status, .int .i64 a0.at_], Own 114 ek_tx_Entry v0_l a0.l]) := by
  unfold desc_Desc_Over.f at h
  refine Ct.intro (n := 20) Try.func28 rfl rfl rfl ?_
  intro R w0 F hF hR
  refine S.b1 ?_
  refine S.rd fun hr1 => ?_
  refine S.seq ?_
  refine S.region ?_
  refine SO.v rfl (opv_assign rfl) ?_
  refine SO.nil ?_
  refine S.seq ?_
  obtain ⟨j2_1, hC1, hJ1⟩ := opt_bind h
  clear h
  refine S.cutP (G := Unit) (fun _ => True) (fun _ => [(2, .bool j2_1)]) (fun _ => [Own 114 ek_tx_Entry v0_l a0.l, Box bp0 [.int .i64 a0.mark, v0_l, .int .i64 a0.status, .int .i64 a0.at_], F]) (fun hk1 => ?_) ?_
  · replace h := hC1
    rcases bool_or (a0.status != 0) with b2 | b2
    · replace h := cond_t b2 h
      refine S.draw2 (Y := fun Q => ∃ (_ _ _ _ : Unit), Q [(0, bp bp0 0)] [Own 114 ek_tx_Entry v0_l a0.l, Box bp0 [.int .i64 a0.mark, v0_l, .int .i64 a0.status, .int .i64 a0.at_], F]) (Z := fun Q => ∀ (_ _ _ _ : Unit), Q [(2, .bool (a0.at_ == (a0.l.length : Int)))] [Own 114 ek_tx_Entry v0_l a0.l, Box bp0 [.int .i64 a0.mark, v0_l, .int .i64 a0.status, .int .i64 a0.at_], F]) (T := [tS 0 (bp bp0 0), tR (Own 114 ek_tx_Entry v0_l a0.l), tR (Box bp0 [.int .i64 a0.mark, v0_l, .int .i64 a0.status, .int .i64 a0.at_]), tR (F), tS 3 (bp bp0 0), tS 4 (bp bp0 0), tS 5 (bp bp0 2), tS 6 (.int .i64 a0.status), tS 7 (.bool (a0.status != 0)), tS 8 (.bool (a0.status != 0)), tS 9 (bp bp0 0), tS 10 (bp bp0 0), tS 11 (bp bp0 3), tS 12 (.int .i64 a0.at_), tS 13 (bp bp0 0), tS 14 (bp bp0 0), tS 15 (bp bp0 1), tS 16 (v0_l), tS 17 (.int .i64 (a0.l.length : Int)), tS 18 (.bool (a0.at_ == (a0.l.length : Int))), tS 19 (.bool (a0.at_ == (a0.l.length : Int))), tS 2 (.bool (a0.at_ == (a0.l.length : Int)))]) (D := [⟨[0], [], [4]⟩, ⟨[4], [], [5]⟩, ⟨[5], [], [6]⟩, ⟨[6, 2], [], [7]⟩, ⟨[7], [], [8]⟩, ⟨[8], [], [9]⟩, ⟨[0, 9], [], [10]⟩, ⟨[9, 10], [], [11]⟩, ⟨[9, 11], [], [12]⟩, ⟨[9, 12, 2], [], [13]⟩, ⟨[0, 9], [], [14]⟩, ⟨[9, 14], [], [15]⟩, ⟨[9, 15], [], [16]⟩, ⟨[9, 16, 2], [], [17]⟩, ⟨[9, 17, 1], [], [18]⟩, ⟨[9, 13, 18], [], [19]⟩, ⟨[9, 19], [], [20]⟩, ⟨[20], [], [21]⟩]) (ini := [0, 1, 2, 3]) (fin := [21, 1, 2, 3]) (bf := [[], [0], [0, 1], [0, 1, 2], [0, 1, 2, 3], [0, 1, 2, 3, 4], [0, 1, 2, 3, 4, 5], [0, 1, 2, 3, 4, 5, 6], [0, 1, 2, 3, 4, 5, 6, 7], [0, 1, 2, 3, 4, 5, 6, 7, 8], [0, 1, 2, 3, 4, 5], [0, 1, 2, 3, 4, 5, 10], [0, 1, 2, 3, 4, 5, 10, 11], [0, 1, 2, 3, 4, 5, 10, 11, 12], [0, 1, 2, 3, 4, 5, 10, 11, 12, 13], [0, 1, 2, 3, 4, 5, 6, 7, 8, 9, 10, 11, 12, 13, 14], [0, 1, 2, 3, 4, 5, 6, 7, 8, 9, 10, 11, 12, 13, 14, 15], [0, 1, 2, 3, 4, 5, 6, 7, 8, 9, 10, 11, 12, 13, 14, 15, 16]]) (by kernel_rfl) (by kernel_rfl) (fun Q => by kernel_rfl) (fun x w h1 h2 => ⟨(), (), (), (), EnvAll.of h1 ⟨rfl, trivial⟩, h2⟩) (fun Q => by kernel_rfl) ⟨?_, ?_, ?_, ?_, ?_, ?_, ?_, ?_, ?_, ?_, ?_, ?_, ?_, ?_, ?_, ?_, ?_, ?_, trivial⟩ ?_
      · rintro Fr _
        refine SO.v rfl (opv_move rfl) ?_
        exact SO.nilZ fun a w h1 h2 h3 h4 h5 => PZ.of h1 h3 h5 (.cons () (.cons () (.nil ⟨EnvAll.of h2 ⟨rfl, rfl, trivial⟩, h4⟩)))
      · rintro Fr _
        refine SO.v rfl (opv_nilCheck rfl) ?_
        exact SO.nilZ fun a w h1 h2 h3 h4 h5 => PZ.of h1 h3 h5 (.cons () (.cons () (.nil ⟨EnvAll.of h2 ⟨rfl, rfl, trivial⟩, h4⟩)))
      · rintro Fr _
        refine SO.v rfl (opv_fieldAddr Try.underlying108 rfl Try.sizeOf3 rfl rfl) ?_
        exact SO.nilZ fun a w h1 h2 h3 h4 h5 => PZ.of h1 h3 h5 (.cons () (.cons () (.nil ⟨EnvAll.of h2 ⟨rfl, rfl, trivial⟩, h4⟩)))
      · rintro Fr _ _
        refine SO.load1 rfl Try.isAgg3 rfl rfl ?_
        exact SO.nilZ fun a w h1 h2 h3 h4 h5 => PZ.of h1 h3 h5 (.cons () (.cons () (.cons () (.nil ⟨EnvAll.of h2 ⟨rfl, rfl, trivial⟩, h4⟩))))
      · rintro Fr _
        refine SO.v rfl (opv_neq rfl rfl) ?_
        exact SO.nilZ fun a w h1 h2 h3 h4 h5 => PZ.of h1 h3 h5 (.cons () (.cons () (.nil ⟨EnvAll.of h2 ⟨rfl, rfl, trivial⟩, h4⟩)))
      · rintro Fr _
        refine SO.v rfl (opv_move rfl) ?_
        exact SO.nilZ fun a w h1 h2 h3 h4 h5 => PZ.of h1 h3 h5 (.cons () (.cons () (.nil ⟨EnvAll.of h2 ⟨rfl, rfl, trivial⟩, h4⟩)))
      · rintro Fr _ _
        refine SO.takeT rfl rfl rfl b2 ?_
        refine SO.v rfl (opv_move rfl) ?_
        exact SO.nilZ fun a w h1 h2 h3 h4 h5 => PZ.of h1 h3 h5 (.cons () (.cons () (.cons () (.nil ⟨EnvAll.of h2 ⟨rfl, rfl, rfl, trivial⟩, h4⟩))))
      · rintro Fr _ _
        refine SO.takeT rfl rfl rfl b2 ?_
        refine SO.v rfl (opv_nilCheck rfl) ?_
        exact SO.nilZ fun a w h1 h2 h3 h4 h5 => PZ.of h1 h3 h5 (.cons () (.cons () (.cons () (.nil ⟨EnvAll.of h2 ⟨rfl, rfl, rfl, trivial⟩, h4⟩))))
      · rintro Fr _ _
        refine SO.takeT rfl rfl rfl b2 ?_
        refine SO.v rfl (opv_fieldAddr Try.underlying108 rfl Try.sizeOf3 rfl rfl) ?_
        exact SO.nilZ fun a w h1 h2 h3 h4 h5 => PZ.of h1 h3 h5 (.cons () (.cons () (.cons () (.nil ⟨EnvAll.of h2 ⟨rfl, rfl, rfl, trivial⟩, h4⟩))))
      · rintro Fr _ _ _
        refine SO.takeT rfl rfl rfl b2 ?_
        refine SO.load1 rfl Try.isAgg3 rfl rfl ?_
        exact SO.nilZ fun a w h1 h2 h3 h4 h5 => PZ.of h1 h3 h5 (.cons () (.cons () (.cons () (.cons () (.nil ⟨EnvAll.of h2 ⟨rfl, rfl, rfl, trivial⟩, h4⟩)))))
      · rintro Fr _ _
        refine SO.takeT rfl rfl rfl b2 ?_
        refine SO.v rfl (opv_move rfl) ?_
        exact SO.nilZ fun a w h1 h2 h3 h4 h5 => PZ.of h1 h3 h5 (.cons () (.cons () (.cons () (.nil ⟨EnvAll.of h2 ⟨rfl, rfl, rfl, trivial⟩, h4⟩))))
      · rintro Fr _ _
        refine SO.takeT rfl rfl rfl b2 ?_
        refine SO.v rfl (opv_nilCheck rfl) ?_
        exact SO.nilZ fun a w h1 h2 h3 h4 h5 => PZ.of h1 h3 h5 (.cons () (.cons () (.cons () (.nil ⟨EnvAll.of h2 ⟨rfl, rfl, rfl, trivial⟩, h4⟩))))
      · rintro Fr _ _
        refine SO.takeT rfl rfl rfl b2 ?_
        refine SO.v rfl (opv_fieldAddr Try.underlying108 rfl Try.sizeOf102 rfl rfl) ?_
        exact SO.nilZ fun a w h1 h2 h3 h4 h5 => PZ.of h1 h3 h5 (.cons () (.cons () (.cons () (.nil ⟨EnvAll.of h2 ⟨rfl, rfl, rfl, trivial⟩, h4⟩))))
      · rintro Fr _ _ _
        refine SO.takeT rfl rfl rfl b2 ?_
        refine SO.load1 rfl Try.isAgg102 rfl rfl ?_
        exact SO.nilZ fun a w h1 h2 h3 h4 h5 => PZ.of h1 h3 h5 (.cons () (.cons () (.cons () (.cons () (.nil ⟨EnvAll.of h2 ⟨rfl, rfl, rfl, trivial⟩, h4⟩)))))
      · rintro Fr _ _ _
        refine SO.takeT rfl rfl rfl b2 ?_
        refine SO.v rfl (opv_lenR rfl Try.underlying102 hr1 rfl) ?_
        exact SO.nilZ fun a w h1 h2 h3 h4 h5 => PZ.of h1 h3 h5 (.cons () (.cons () (.cons () (.cons () (.nil ⟨EnvAll.of h2 ⟨rfl, rfl, rfl, trivial⟩, h4⟩)))))
      · rintro Fr _ _ _
        refine SO.takeT rfl rfl rfl b2 ?_
        refine SO.v rfl (opv_eql rfl rfl) ?_
        exact SO.nilZ fun a w h1 h2 h3 h4 h5 => PZ.of h1 h3 h5 (.cons () (.cons () (.cons () (.cons () (.nil ⟨EnvAll.of h2 ⟨rfl, rfl, rfl, rfl, trivial⟩, h4⟩)))))
      · rintro Fr _ _
        refine SO.v rfl (opv_pick_t' b2 rfl rfl) ?_
        exact SO.nilZ fun a w h1 h2 h3 h4 h5 => PZ.of h1 h3 h5 (.cons () (.cons () (.cons () (.nil ⟨EnvAll.of h2 ⟨rfl, rfl, rfl, trivial⟩, h4⟩))))
      · rintro Fr _
        refine SO.v rfl (opv_assign rfl) ?_
        exact SO.nilZ fun a w h1 h2 h3 h4 h5 => PZ.of h1 h3 h5 (.cons () (.cons () (.nil ⟨EnvAll.of h2 ⟨rfl, rfl, trivial⟩, h4⟩)))
      rintro _ _ _ _
      refine S.to (ρ' := [(2, .bool (a0.at_ == (a0.l.length : Int)))]) ⟨rfl, trivial⟩ ?_
      cases h
      refine S.b2 ?_
      refine S.b2 ?_
      refine S.b2 ?_
      refine S.to ?_ (hk1 () trivial)
      exact ⟨rfl, trivial⟩
    replace h := cond_f b2 h
    refine S.draw2 (Y := fun Q => ∃ (_ _ _ _ : Unit), Q [(0, bp bp0 0)] [Own 114 ek_tx_Entry v0_l a0.l, Box bp0 [.int .i64 a0.mark, v0_l, .int .i64 a0.status, .int .i64 a0.at_], F]) (Z := fun Q => ∀ (_ _ _ _ : Unit), Q [(2, .bool false)] [Own 114 ek_tx_Entry v0_l a0.l, Box bp0 [.int .i64 a0.mark, v0_l, .int .i64 a0.status, .int .i64 a0.at_], F]) (T := [tS 0 (bp bp0 0), tR (Own 114 ek_tx_Entry v0_l a0.l), tR (Box bp0 [.int .i64 a0.mark, v0_l, .int .i64 a0.status, .int .i64 a0.at_]), tR (F), tS 3 (bp bp0 0), tS 4 (bp bp0 0), tS 5 (bp bp0 2), tS 6 (.int .i64 a0.status), tS 7 (.bool (a0.status != 0)), tS 8 (.bool (a0.status != 0)), tS 9 (undef), tS 10 (undef), tS 11 (undef), tS 12 (undef), tS 13 (undef), tS 14 (undef), tS 15 (undef), tS 16 (undef), tS 17 (undef), tS 18 (undef), tS 19 (.bool false), tS 2 (.bool false)]) (D := [⟨[0], [], [4]⟩, ⟨[4], [], [5]⟩, ⟨[5], [], [6]⟩, ⟨[6, 2], [], [7]⟩, ⟨[7], [], [8]⟩, ⟨[8], [], [9]⟩, ⟨[9], [], [10]⟩, ⟨[9], [], [11]⟩, ⟨[9], [], [12]⟩, ⟨[9], [], [13]⟩, ⟨[9], [], [14]⟩, ⟨[9], [], [15]⟩, ⟨[9], [], [16]⟩, ⟨[9], [], [17]⟩, ⟨[9], [], [18]⟩, ⟨[9], [], [19]⟩, ⟨[9, 19], [], [20]⟩, ⟨[20], [], [21]⟩]) (ini := [0, 1, 2, 3]) (fin := [21, 1, 2, 3]) (bf := [[], [0], [0, 1], [0, 1, 2], [0, 1, 2, 3], [0, 1, 2, 3, 4], [0, 1, 2, 3, 4, 5], [0, 1, 2, 3, 4, 5, 6], [0, 1, 2, 3, 4, 5, 6, 7], [0, 1, 2, 3, 4, 5, 6, 7, 8], [0, 1, 2, 3, 4, 5], [0, 1, 2, 3, 4, 5, 10], [0, 1, 2, 3, 4, 5, 10, 11], [0, 1, 2, 3, 4, 5, 10, 11, 12], [0, 1, 2, 3, 4, 5, 10, 11, 12, 13], [0, 1, 2, 3, 4, 5, 6, 7, 8, 9, 10, 11, 12, 13, 14], [0, 1, 2, 3, 4, 5, 6, 7, 8, 9, 10, 11, 12, 13, 14, 15], [0, 1, 2, 3, 4, 5, 6, 7, 8, 9, 10, 11, 12, 13, 14, 15, 16]]) (by kernel_rfl) (by kernel_rfl) (fun Q => by kernel_rfl) (fun x w h1 h2 => ⟨(), (), (), (), EnvAll.of h1 ⟨rfl, trivial⟩, h2⟩) (fun Q => by kernel_rfl) ⟨?_, ?_, ?_, ?_, ?_, ?_, ?_, ?_, ?_, ?_, ?_, ?_, ?_, ?_, ?_, ?_, ?_, ?_, trivial⟩ ?_
    · rintro Fr _
      refine SO.v rfl (opv_move rfl) ?_
      exact SO.nilZ fun a w h1 h2 h3 h4 h5 => PZ.of h1 h3 h5 (.cons () (.cons () (.nil ⟨EnvAll.of h2 ⟨rfl, rfl, trivial⟩, h4⟩)))
    · rintro Fr _
      refine SO.v rfl (opv_nilCheck rfl) ?_
      exact SO.nilZ fun a w h1 h2 h3 h4 h5 => PZ.of h1 h3 h5 (.cons () (.cons () (.nil ⟨EnvAll.of h2 ⟨rfl, rfl, trivial⟩, h4⟩)))
    · rintro Fr _
      refine SO.v rfl (opv_fieldAddr Try.underlying108 rfl Try.sizeOf3 rfl rfl) ?_
      exact SO.nilZ fun a w h1 h2 h3 h4 h5 => PZ.of h1 h3 h5 (.cons () (.cons () (.nil ⟨EnvAll.of h2 ⟨rfl, rfl, trivial⟩, h4⟩)))
    · rintro Fr _ _
      refine SO.load1 rfl Try.isAgg3 rfl rfl ?_
      exact SO.nilZ fun a w h1 h2 h3 h4 h5 => PZ.of h1 h3 h5 (.cons () (.cons () (.cons () (.nil ⟨EnvAll.of h2 ⟨rfl, rfl, trivial⟩, h4⟩))))
    · rintro Fr _
      refine SO.v rfl (opv_neq rfl rfl) ?_
      exact SO.nilZ fun a w h1 h2 h3 h4 h5 => PZ.of h1 h3 h5 (.cons () (.cons () (.nil ⟨EnvAll.of h2 ⟨rfl, rfl, trivial⟩, h4⟩)))
    · rintro Fr _
      refine SO.v rfl (opv_move rfl) ?_
      exact SO.nilZ fun a w h1 h2 h3 h4 h5 => PZ.of h1 h3 h5 (.cons () (.cons () (.nil ⟨EnvAll.of h2 ⟨rfl, rfl, trivial⟩, h4⟩)))
    · rintro Fr _
      refine SO.passF rfl rfl rfl b2 rfl rfl ?_
      exact SO.nilZ fun a w h1 h2 h3 h4 h5 => PZ.of h1 h3 h5 (.cons () (.cons () (.nil ⟨EnvAll.of h2 ⟨rfl, rfl, trivial⟩, h4⟩)))
    · rintro Fr _
      refine SO.passF rfl rfl rfl b2 rfl rfl ?_
      exact SO.nilZ fun a w h1 h2 h3 h4 h5 => PZ.of h1 h3 h5 (.cons () (.cons () (.nil ⟨EnvAll.of h2 ⟨rfl, rfl, trivial⟩, h4⟩)))
    · rintro Fr _
      refine SO.passF rfl rfl rfl b2 rfl rfl ?_
      exact SO.nilZ fun a w h1 h2 h3 h4 h5 => PZ.of h1 h3 h5 (.cons () (.cons () (.nil ⟨EnvAll.of h2 ⟨rfl, rfl, trivial⟩, h4⟩)))
    · rintro Fr _
      refine SO.passF rfl rfl rfl b2 rfl rfl ?_
      exact SO.nilZ fun a w h1 h2 h3 h4 h5 => PZ.of h1 h3 h5 (.cons () (.cons () (.nil ⟨EnvAll.of h2 ⟨rfl, rfl, trivial⟩, h4⟩)))
    · rintro Fr _
      refine SO.passF rfl rfl rfl b2 rfl rfl ?_
      exact SO.nilZ fun a w h1 h2 h3 h4 h5 => PZ.of h1 h3 h5 (.cons () (.cons () (.nil ⟨EnvAll.of h2 ⟨rfl, rfl, trivial⟩, h4⟩)))
    · rintro Fr _
      refine SO.passF rfl rfl rfl b2 rfl rfl ?_
      exact SO.nilZ fun a w h1 h2 h3 h4 h5 => PZ.of h1 h3 h5 (.cons () (.cons () (.nil ⟨EnvAll.of h2 ⟨rfl, rfl, trivial⟩, h4⟩)))
    · rintro Fr _
      refine SO.passF rfl rfl rfl b2 rfl rfl ?_
      exact SO.nilZ fun a w h1 h2 h3 h4 h5 => PZ.of h1 h3 h5 (.cons () (.cons () (.nil ⟨EnvAll.of h2 ⟨rfl, rfl, trivial⟩, h4⟩)))
    · rintro Fr _
      refine SO.passF rfl rfl rfl b2 rfl rfl ?_
      exact SO.nilZ fun a w h1 h2 h3 h4 h5 => PZ.of h1 h3 h5 (.cons () (.cons () (.nil ⟨EnvAll.of h2 ⟨rfl, rfl, trivial⟩, h4⟩)))
    · rintro Fr _
      refine SO.passF rfl rfl rfl b2 rfl rfl ?_
      exact SO.nilZ fun a w h1 h2 h3 h4 h5 => PZ.of h1 h3 h5 (.cons () (.cons () (.nil ⟨EnvAll.of h2 ⟨rfl, rfl, trivial⟩, h4⟩)))
    · rintro Fr _
      refine SO.passF rfl rfl rfl b2 rfl rfl ?_
      exact SO.nilZ fun a w h1 h2 h3 h4 h5 => PZ.of h1 h3 h5 (.cons () (.cons () (.nil ⟨EnvAll.of h2 ⟨rfl, rfl, trivial⟩, h4⟩)))
    · rintro Fr _ _
      refine SO.v rfl (opv_pick_f' b2 rfl rfl) ?_
      exact SO.nilZ fun a w h1 h2 h3 h4 h5 => PZ.of h1 h3 h5 (.cons () (.cons () (.cons () (.nil ⟨EnvAll.of h2 ⟨rfl, rfl, rfl, trivial⟩, h4⟩))))
    · rintro Fr _
      refine SO.v rfl (opv_assign rfl) ?_
      exact SO.nilZ fun a w h1 h2 h3 h4 h5 => PZ.of h1 h3 h5 (.cons () (.cons () (.nil ⟨EnvAll.of h2 ⟨rfl, rfl, trivial⟩, h4⟩)))
    rintro _ _ _ _
    refine S.to (ρ' := [(2, .bool false)]) ⟨rfl, trivial⟩ ?_
    cases h
    refine S.b2 ?_
    refine S.b2 ?_
    refine S.b2 ?_
    refine S.to ?_ (hk1 () trivial)
    exact ⟨rfl, trivial⟩
  rintro _ -
  replace h := hJ1
  cases h
  refine S.b2 ?_
  refine S.b1 ?_
  refine S.b2 ?_
  exact S.ret1 Try.func28 rfl rfl (fun w hs hk => hR w _ _ ⟨rfl, rfl⟩ hs hk)
end Go.Proofs
namespace Go.Proofs
open Go.Sl Go.RowKit
/-! 45 (*padstone/desc.Desc).Status -/
def desc_Desc_Status.f (a0 : desc_Desc) : Option (Int) :=
  some a0.status
set_option maxHeartbeats 8000000 in
set_option maxRecDepth 100000 in
theorem desc_Desc_Status.ct (bp0 : Nat) (v0_l : Value) (a0 : desc_Desc) (r0 : Int) (h : desc_Desc_Status.f a0 = some r0) :
    Ct Try.prog 45 [bp bp0 0] (fun _ => True) [Box bp0 [.int .i64 a0.mark, v0_l, .int .i64 a0.status, .int .i64 a0.at_], Own 114 ek_tx_Entry v0_l a0.l] (fun u H' => u = .int .i64 r0 ∧ H' = [Box bp0 [.int .i64 a0.mark, v0_l, .int .i64 a0.status, .int .i64 a0.at_], Own 114 ek_tx_Entry v0_l a0.l]) := by
  unfold desc_Desc_Status.f at h
  refine Ct.intro (n := 7) Try.func45 rfl rfl rfl ?_
  intro R w0 F hF hR
  refine S.b1 ?_
  refine S.rd fun hr1 => ?_
  refine S.seq ?_
  refine S.region ?_
  refine SO.v rfl (opv_assign rfl) ?_
  refine SO.nil ?_
  refine S.seq ?_
  refine S.region ?_
  refine SO.v rfl (opv_move rfl) ?_
  refine SO.v rfl (opv_nilCheck rfl) ?_
  refine SO.v rfl (opv_fieldAddr Try.underlying108 rfl Try.sizeOf3 rfl rfl) ?_
  refine SO.b1 ?_
  refine SO.load1 rfl Try.isAgg3 rfl rfl ?_
  refine SO.v rfl (opv_assign rfl) ?_
  refine SO.nil ?_
  cases h
  refine S.b2 ?_
  refine S.b2 ?_
  refine S.b2 ?_
  exact S.ret1 Try.func45 rfl rfl (fun w hs hk => hR w _ _ ⟨rfl, rfl⟩ hs hk)
end Go.Proofs
namespace Go.Proofs
open Go.Sl Go.RowKit
/-! 47 (*padstone/word.Store).has -/
def word_Store_has.f (a0 : word_Store) (a1 : Int) : Option (Bool) :=
  (bif decide (0 ≤ a1) then (some (decide (a1 < (a0.l.length : Int)))) else (some false)).bind fun c3 => some c3
set_option maxHeartbeats 8000000 in
set_option maxRecDepth 100000 in
theorem word_Store_has.ct (bp0 : Nat) (v0_l : Value) (a0 : word_Store) (a1 : Int) (r0 : Bool) (h : word_Store_has.f a0 a1 = some r0) :
    Ct Try.prog 47 [bp bp0 0, .int .i64 a1] (fun _ => True) [Box bp0 [v0_l, .int .u32 a0.limit], Own 88 ek_api_Cell v0_l a0.l] (fun u H' => u = .bool r0 ∧ H' = [Box bp0 [v0_l, .int .u32 a0.limit], Own 88 ek_api_Cell v0_l a0.l]) := by
  unfold word_Store_has.f at h
  refine Ct.intro (n := 16) Try.func47 rfl rfl rfl ?_
  intro R w0 F hF hR
  refine S.b1 ?_
  refine S.rd fun hr1 => ?_
  refine S.seq ?_
  refine S.region ?_
  refine SO.v rfl (opv_assign rfl) ?_
  refine SO.nil ?_
  refine S.seq ?_
  refine S.region ?_
  refine SO.v rfl (opv_move rfl) ?_
  refine SO.v rfl (opv_geq rfl rfl) ?_
  refine SO.v rfl (opv_move rfl) ?_
  obtain ⟨c3, hc4, hgk⟩ := opt_bind h
  refine SO.cut 8 15 (.bool c3) [Own 88 ek_api_Cell v0_l a0.l, Box bp0 [v0_l, .int .u32 a0.limit], F] (fun l2 hk2 => ?_) ?_
  · clear hgk
    replace h := hc4
    rcases bool_or (decide (0 ≤ a1)) with b2 | b2
    · replace h := cond_t b2 h
      refine SO.takeT rfl rfl rfl b2 ?_
      refine SO.v rfl (opv_move rfl) ?_
      refine SO.takeT rfl rfl rfl b2 ?_
      refine SO.v rfl (opv_move rfl) ?_
      refine SO.takeT rfl rfl rfl b2 ?_
      refine SO.v rfl (opv_nilCheck rfl) ?_
      refine SO.takeT rfl rfl rfl b2 ?_
      refine SO.v rfl (opv_fieldAddr Try.underlying63 rfl Try.sizeOf61 rfl rfl) ?_
      refine SO.takeT rfl rfl rfl b2 ?_
      refine SO.b1 ?_
      refine SO.load1 rfl Try.isAgg61 rfl rfl ?_
      refine SO.takeT rfl rfl rfl b2 ?_
      refine SO.v rfl (opv_lenR rfl Try.underlying61 hr1 rfl) ?_
      refine SO.takeT rfl rfl rfl b2 ?_
      refine SO.v rfl (opv_lss rfl rfl) ?_
      cases h
      refine SO.v rfl (opv_pick_t' b2 rfl rfl) ?_
      refine SO.b2 ?_
      refine SO.b1 ?_
      refine SO.b2 ?_
      exact hk2.fitc (m := 8) rfl (rfl) rfl
    replace h := cond_f b2 h
    refine SO.passF rfl rfl rfl b2 rfl rfl ?_
    refine SO.passF rfl rfl rfl b2 rfl rfl ?_
    refine SO.passF rfl rfl rfl b2 rfl rfl ?_
    refine SO.passF rfl rfl rfl b2 rfl rfl ?_
    refine SO.passF rfl rfl rfl b2 rfl rfl ?_
    refine SO.passF rfl rfl rfl b2 rfl rfl ?_
    refine SO.passF rfl rfl rfl b2 rfl rfl ?_
    cases h
    refine SO.v rfl (opv_pick_f' b2 rfl rfl) ?_
    refine SO.b2 ?_
    refine SO.b2 ?_
    refine SO.b2 ?_
    exact hk2.fitc (m := 8) rfl (rfl) rfl
  clear hc4
  replace h := hgk
  refine SO.v rfl (opv_assign rfl) ?_
  refine SO.nil ?_
  cases h
  refine S.b2 ?_
  refine S.b1 ?_
  refine S.b2 ?_
  exact S.ret1 Try.func47 rfl rfl (fun w hs hk => hR w _ _ ⟨rfl, rfl⟩ hs hk)
end Go.Proofs
namespace Go.Proofs
open Go.Sl Go.RowKit
/-! 65 (*padstone/word.Store).own -/
def word_Store_own.f (a0 : word_Store) (a1 : Int) (a2 : Int) : Option ((Option Int)) :=
  (word_Store_has.f a0 a1).bind fun t2 => bif !t2 then (some (some 2)) else ((bif decide (a2 < 1) then (some true) else ((at_ a0.l a1).bind fun x8 => some (x8.Mark != a2))).bind fun c6 => bif c6 then (some (some 12)) else (some none))
set_option maxHeartbeats 8000000 in
set_option maxRecDepth 100000 in
theorem word_Store_own.ct (bp0 : Nat) (v0_l : Value) (a0 : word_Store) (a1 : Int) (a2 : Int) (r0 : Option Int) (h : word_Store_own.f a0 a1 a2 = some r0) :
    Ct Try.prog 65 [bp bp0 0, .int .i64 a1, .int .i64 a2] (fun _ => True) [Box bp0 [v0_l, .int .u32 a0.limit], Own 88 ek_api_Cell v0_l a0.l] (fun u H' => u = errV 60 r0 ∧ H' = [Box bp0 [v0_l, .int .u32 a0.limit], Own 88 ek_api_Cell v0_l a0.l]) := by
  unfold word_Store_own.f at h
  refine Ct.intro (n := 29) Try.func65 rfl rfl rfl ?_
  intro R w0 F hF hR
  refine S.b1 ?_
  refine S.rd fun hr1 => ?_
  refine S.seq ?_
  refine S.region ?_
  refine SO.v rfl (opv_assign rfl) ?_
  refine SO.nil ?_
  refine S.seq ?_
  refine S.block ?_
  refine S.seq ?_
  refine S.region ?_
  refine SO.v rfl (opv_move rfl) ?_
  refine SO.v rfl (opv_move rfl) ?_
  obtain ⟨t2, ht3, h⟩ := opt_bind h
  refine SO.b1 ?_
  refine SO.call (pre := [Box _ _, Own _ _ _ _]) rfl Try.call47 rfl rfl rfl (word_Store_has.ct bp0 v0_l _ _ _ ht3) trivial ?_
  rintro _ _ ⟨rfl, rfl⟩
  refine SO.v rfl (opv_not rfl) ?_
  refine SO.v rfl (opv_assign rfl) ?_
  refine SO.nil ?_
  rcases bool_or (!t2) with b4 | b4
  · replace h := cond_t b4 h
    refine S.condT rfl b4 ?_
    refine S.seq ?_
    refine S.region ?_
    refine SO.v rfl (opv_iface Try.underlying60 rfl rfl) ?_
    refine SO.v rfl (opv_assign rfl) ?_
    refine SO.nil ?_
    refine S.to (ρ' := [(6, errV 60 (some 2))]) ⟨rfl, trivial⟩ ?_
    cases h
    refine S.b2 ?_
    refine S.b2 ?_
    refine S.b2 ?_
    exact S.ret1 Try.func65 rfl rfl (fun w hs hk => hR w _ _ ⟨rfl, rfl⟩ hs hk)
  replace h := cond_f b4 h
  refine S.condF rfl b4 ?_
  refine S.seq ?_
  refine S.region ?_
  refine SO.v rfl (opv_move rfl) ?_
  refine SO.v rfl (opv_lss rfl rfl) ?_
  refine SO.v rfl (opv_move rfl) ?_
  obtain ⟨c6, hc7, hgk⟩ := opt_bind h
  refine SO.cut 11 27 (.bool c6) [Box bp0 [v0_l, .int .u32 a0.limit], Own 88 ek_api_Cell v0_l a0.l, F] (fun l2 hk2 => ?_) ?_
  · clear hgk
    replace h := hc7
    rcases bool_or (decide (a2 < 1)) with b5 | b5
    · replace h := cond_t b5 h
      refine SO.passF rfl rfl rfl b5 rfl rfl ?_
      refine SO.passF rfl rfl rfl b5 rfl rfl ?_
      refine SO.passF rfl rfl rfl b5 rfl rfl ?_
      refine SO.passF rfl rfl rfl b5 rfl rfl ?_
      refine SO.passF rfl rfl rfl b5 rfl rfl ?_
      refine SO.passF rfl rfl rfl b5 rfl rfl ?_
      refine SO.passF rfl rfl rfl b5 rfl rfl ?_
      refine SO.passF rfl rfl rfl b5 rfl rfl ?_
      refine SO.passF rfl rfl rfl b5 rfl rfl ?_
      refine SO.passF rfl rfl rfl b5 rfl rfl ?_
      cases h
      refine SO.v rfl (opv_pick_t' b5 rfl rfl) ?_
      refine SO.b2 ?_
      refine SO.b2 ?_
      refine SO.b2 ?_
      exact hk2.fitc (m := 11) rfl (rfl) rfl
    replace h := cond_f b5 h
    refine SO.takeT rfl rfl rfl b5 ?_
    refine SO.v rfl (opv_move rfl) ?_
    refine SO.takeT rfl rfl rfl b5 ?_
    refine SO.v rfl (opv_nilCheck rfl) ?_
    refine SO.takeT rfl rfl rfl b5 ?_
    refine SO.v rfl (opv_fieldAddr Try.underlying63 rfl Try.sizeOf61 rfl rfl) ?_
    refine SO.takeT rfl rfl rfl b5 ?_
    refine SO.load1 rfl Try.isAgg61 rfl rfl ?_
    refine SO.takeT rfl rfl rfl b5 ?_
    refine SO.v rfl (opv_move rfl) ?_
    refine SO.takeT rfl rfl rfl b5 ?_
    obtain ⟨x8, hx9, h⟩ := opt_bind h
    refine SO.v rfl (opv_idx Try.underlying61 Try.sizeOf88 hr1 rfl rfl hx9) ?_
    refine SO.takeT rfl rfl rfl b5 ?_
    refine SO.v rfl (opv_fieldIdx Try.underlying88 rfl Try.sizeOf3 hr1 hx9 rfl rfl) ?_
    refine SO.takeT rfl rfl rfl b5 ?_
    refine SO.loadI1 (j := 2) rfl Try.isAgg3 (Rd.tail (Rd.head hr1)) hx9 rfl rfl rfl rfl ?_
    refine SO.takeT rfl rfl rfl b5 ?_
    refine SO.v rfl (opv_move rfl) ?_
    refine SO.takeT rfl rfl rfl b5 ?_
    refine SO.v rfl (opv_neq rfl rfl) ?_
    cases h
    refine SO.v rfl (opv_pick_f' b5 rfl rfl) ?_
    refine SO.b2 ?_
    refine SO.b2 ?_
    refine SO.b2 ?_
    exact hk2.fitc (m := 11) rfl (rfl) rfl
  clear hc7
  replace h := hgk
  refine SO.v rfl (opv_assign rfl) ?_
  refine SO.nil ?_
  refine S.to (ρ' := [(6, errV 60 none), (13, .bool c6)]) ⟨rfl, rfl, trivial⟩ ?_
  rcases bool_or c6 with b10 | b10
  · replace h := cond_t b10 h
    refine S.condT rfl b10 ?_
    refine S.seq ?_
    refine S.region ?_
    refine SO.v rfl (opv_iface Try.underlying60 rfl rfl) ?_
    refine SO.v rfl (opv_assign rfl) ?_
    refine SO.nil ?_
    cases h
    refine S.b2 ?_
    refine S.b2 ?_
    refine S.b2 ?_
    exact S.ret1 Try.func65 rfl rfl (fun w hs hk => hR w _ _ ⟨rfl, rfl⟩ hs hk)
  replace h := cond_f b10 h
  refine S.condF rfl b10 ?_
  refine S.skip ?_
  refine S.inBlock ?_
  refine S.seq ?_
  refine S.region ?_
  refine SO.v rfl (opv_assign rfl) ?_
  refine SO.nil ?_
  cases h
  refine S.b2 ?_
  refine S.b2 ?_
  refine S.b2 ?_
  exact S.ret1 Try.func65 rfl rfl (fun w hs hk => hR w _ _ ⟨rfl, rfl⟩ hs hk)
end Go.Proofs
namespace Go.Proofs
open Go.Sl Go.RowKit
/-! 57 (*padstone/word.Store).Release -/
def word_Store_Release.f (a0 : word_Store) (a1 : Int) (a2 : Int) : Option (((Option Int) × word_Store)) :=
  (word_Store_own.f a0 a1 a2).bind fun t2 => bif t2.isSome then (some (t2, a0)) else ((at_ a0.l a1).bind fun x5 => some (none, (⟨a0.l.set a1.toNat ({ x5 with Mark := 0 } : api_Cell), a0.limit⟩ : word_Store)))
set_option maxHeartbeats 8000000 in
set_option maxRecDepth 100000 in
theorem word_Store_Release.ct (bp0 : Nat) (v0_l : Value) (a0 : word_Store) (a1 : Int) (a2 : Int) (r0 : Option Int) (rp0 : word_Store) (h : word_Store_Release.f a0 a1 a2 = some (r0, rp0)) :
    Ct Try.prog 57 [bp bp0 0, .int .i64 a1, .int .i64 a2] (fun _ => True) [Box bp0 [v0_l, .int .u32 a0.limit], Own 88 ek_api_Cell v0_l a0.l] (fun u H' => ∃ rw0_l, u = errV 60 r0 ∧ H' = [Box bp0 [rw0_l, .int .u32 rp0.limit], Own 88 ek_api_Cell rw0_l rp0.l]) := by
  unfold word_Store_Release.f at h
  refine Ct.intro (n := 22) Try.func57 rfl rfl rfl ?_
  intro R w0 F hF hR
  refine S.b1 ?_
  refine S.rd fun hr1 => ?_
  refine S.seq ?_
  refine S.region ?_
  refine SO.v rfl (opv_assign rfl) ?_
  refine SO.nil ?_
  refine S.seq ?_
  refine S.seq ?_
  refine S.region ?_
  refine SO.v rfl (opv_move rfl) ?_
  refine SO.v rfl (opv_move rfl) ?_
  refine SO.v rfl (opv_move rfl) ?_
  obtain ⟨t2, ht3, h⟩ := opt_bind h
  refine SO.b1 ?_
  refine SO.call (pre := [Box _ _, Own _ _ _ _]) rfl Try.call65 rfl rfl rfl (word_Store_own.ct bp0 v0_l _ _ _ _ ht3) trivial ?_
  rintro _ _ ⟨rfl, rfl⟩
  refine SO.v rfl (opv_assign rfl) ?_
  refine SO.nil ?_
  refine S.seq ?_
  refine S.region ?_
  refine SO.v rfl (opv_move rfl) ?_
  refine SO.v rfl (opv_neqN (e := t2) Try.underlying29 rfl) ?_
  refine SO.nil ?_
  rcases bool_or t2.isSome with b4 | b4
  · replace h := cond_t b4 h
    refine S.condT rfl b4 ?_
    refine S.seq ?_
    refine S.region ?_
    refine SO.v rfl (opv_move rfl) ?_
    refine SO.v rfl (opv_assign rfl) ?_
    refine SO.nil ?_
    refine S.to (ρ' := [(6, errV 60 t2)]) ⟨rfl, trivial⟩ ?_
    cases h
    refine S.b2 ?_
    refine S.b2 ?_
    refine S.b2 ?_
    exact S.ret1 Try.func57 rfl rfl (fun w hs hk => hR w _ _ ⟨v0_l, rfl, rfl⟩ hs hk)
  replace h := cond_f b4 h
  refine S.condF rfl b4 ?_
  refine S.skip ?_
  refine S.seq ?_
  refine S.region ?_
  refine SO.v rfl (opv_move rfl) ?_
  refine SO.v rfl (opv_nilCheck rfl) ?_
  refine SO.v rfl (opv_fieldAddr Try.underlying63 rfl Try.sizeOf61 rfl rfl) ?_
  refine SO.load1 rfl Try.isAgg61 rfl rfl ?_
  refine SO.v rfl (opv_move rfl) ?_
  obtain ⟨x5, hx6, h⟩ := opt_bind h
  refine SO.v rfl (opv_idx Try.underlying61 Try.sizeOf88 hr1 rfl rfl hx6) ?_
  refine SO.v rfl (opv_fieldIdx Try.underlying88 rfl Try.sizeOf3 hr1 hx6 rfl rfl) ?_
  refine SO.b1 ?_
  refine SO.storeI1 (j := 2) (z' := ({ x5 with Mark := 0 } : api_Cell)) Try.sizeOf3 hx6 rfl rfl rfl rfl rfl rfl ?_
  refine SO.rd fun hr7 => ?_
  refine SO.nil ?_
  refine S.to (ρ' := [(6, errV 60 none)]) ⟨rfl, trivial⟩ ?_
  refine S.seq ?_
  refine S.region ?_
  refine SO.v rfl (opv_assign rfl) ?_
  refine SO.nil ?_
  cases h
  refine S.b2 ?_
  refine S.b1 ?_
  refine S.b2 ?_
  exact S.ret1 Try.func57 rfl rfl (fun w hs hk => hR w _ _ ⟨v0_l, rfl, rfl⟩ hs hk)
end Go.Proofs
namespace Go.Proofs
open Go.Sl Go.RowKit
/-! 56 (*padstone/desc.Desc).release$1 -/
def desc_Desc_release_1.f (a0 : word_Store) (a1 : tx_Entry) (a2 : desc_Desc) : Option (((Option Int) × word_Store)) :=
  (word_Store_Release.f a0 a1.Cell a2.mark).bind fun (t3, p4) => some (t3, p4)
set_option maxHeartbeats 8000000 in
set_option maxRecDepth 100000 in
theorem desc_Desc_release_1.ct (bp0 : Nat) (bq0 : Nat) (v0_l : Value) (bp1 : Nat) (bp2 : Nat) (bq2 : Nat) (v2_l : Value) (a0 : word_Store) (a1 : tx_Entry) (a2 : desc_Desc) (r0 : Option Int) (rp0 : word_Store) (h : desc_Desc_release_1.f a0 a1 a2 = some (r0, rp0)) :
    Ct Try.prog 56 [bp bp0 0, bp bp1 0, bp bp2 0] (fun _ => True) [Box bp0 [bp bq0 0], Box bq0 [v0_l, .int .u32 a0.limit], Own 88 ek_api_Cell v0_l a0.l, Box bp1 [.int .i64 a1.Cell, .int .u32 a1.Version, .int .u64 a1.Old, .int .u64 a1.New, .bool a1.Write], Box bp2 [bp bq2 0], Box bq2 [.int .i64 a2.mark, v2_l, .int .i64 a2.status, .int .i64 a2.at_], Own 114 ek_tx_Entry v2_l a2.l] (fun u H' => ∃ rw0_l, u = errV 60 r0 ∧ H' = [Box bp0 [bp bq0 0], Box bq0 [rw0_l, .int .u32 rp0.limit], Own 88 ek_api_Cell rw0_l rp0.l, Box bp1 [.int .i64 a1.Cell, .int .u32 a1.Version, .int .u64 a1.Old, .int .u64 a1.New, .bool a1.Write], Box bp2 [bp bq2 0], Box bq2 [.int .i64 a2.mark, v2_l, .int .i64 a2.status, .int .i64 a2.at_], Own 114 ek_tx_Entry v2_l a2.l]) := by
  unfold desc_Desc_release_1.f at h
  refine Ct.intro (n := 12) Try.func56 rfl rfl rfl ?_
  intro R w0 F hF hR
  refine S.b2 ?_
  refine S.rd fun hr1 => ?_
  refine S.b6 ?_
  refine S.rd fun hr2 => ?_
  refine S.seq ?_
  refine S.region ?_
  refine SO.v rfl (opv_assign rfl) ?_
  refine SO.nil ?_
  refine S.seq ?_
  obtain ⟨⟨t3, p4⟩, ht5, h⟩ := opt_bind h
  refine S.draw2 (Y := fun Q => ∃ (_ _ _ _ _ _ _ _ _ _ _ : Unit), Q [(0, bp bp0 0), (1, bp bp1 0), (2, bp bp2 0)] [Own 114 ek_tx_Entry v2_l a2.l, Own 88 ek_api_Cell v0_l a0.l, Box bp0 [bp bq0 0], Box bq0 [v0_l, .int .u32 a0.limit], Box bp1 [.int .i64 a1.Cell, .int .u32 a1.Version, .int .u64 a1.Old, .int .u64 a1.New, .bool a1.Write], Box bp2 [bp bq2 0], Box bq2 [.int .i64 a2.mark, v2_l, .int .i64 a2.status, .int .i64 a2.at_], F]) (Z := fun Q => ∀ (_ : Unit) (u6_l : Value) (_ _ _ _ _ _ : Unit), Q [(3, errV 60 t3), (11, errV 60 t3)] [Own 88 ek_api_Cell u6_l p4.l, Box bq0 [u6_l, .int .u32 p4.limit], Own 114 ek_tx_Entry v2_l a2.l, Box bp0 [bp bq0 0], Box bp1 [.int .i64 a1.Cell, .int .u32 a1.Version, .int .u64 a1.Old, .int .u64 a1.New, .bool a1.Write], Box bp2 [bp bq2 0], Box bq2 [.int .i64 a2.mark, v2_l, .int .i64 a2.status, .int .i64 a2.at_], F]) (T := [tS 0 (bp bp0 0), tS 1 (bp bp1 0), tS 2 (bp bp2 0), tR (Own 114 ek_tx_Entry v2_l a2.l), tR (Own 88 ek_api_Cell v0_l a0.l), tR (Box bp0 [bp bq0 0]), tR (Box bq0 [v0_l, .int .u32 a0.limit]), tR (Box bp1 [.int .i64 a1.Cell, .int .u32 a1.Version, .int .u64 a1.Old, .int .u64 a1.New, .bool a1.Write]), tR (Box bp2 [bp bq2 0]), tR (Box bq2 [.int .i64 a2.mark, v2_l, .int .i64 a2.status, .int .i64 a2.at_]), tR (F), tS 4 (bp bq0 0), tS 5 (bp bp1 0), tS 6 (.int .i64 a1.Cell), tS 7 (bp bq2 0), tS 8 (bp bq2 0), tS 9 (bp bq2 0), tS 10 (.int .i64 a2.mark), ⟨Value, [11], (fun u6_l => [(11, errV 60 t3)]), (fun u6_l => [Own 88 ek_api_Cell u6_l p4.l, Box bq0 [u6_l, .int .u32 p4.limit]]), fun _ => rfl⟩, tS 3 (errV 60 t3)]) (D := [⟨[0, 5], [], [11]⟩, ⟨[1], [], [12]⟩, ⟨[12, 7], [], [13]⟩, ⟨[2, 8], [], [14]⟩, ⟨[14], [], [15]⟩, ⟨[15], [], [16]⟩, ⟨[16, 9], [], [17]⟩, ⟨[11, 13, 17], [6, 4], [18]⟩, ⟨[18], [], [19]⟩]) (ini := [0, 1, 2, 3, 4, 5, 6, 7, 8, 9, 10]) (fin := [19, 18, 3, 5, 7, 8, 9, 10]) (bf := [[], [], [1], [], [3], [3, 4], [3, 4, 5], [0, 1, 2, 3, 4, 5, 6], [0, 1, 2, 3, 4, 5, 6, 7]]) (by kernel_rfl) (by kernel_rfl) (fun Q => by kernel_rfl) (fun x w h1 h2 => ⟨(), (), (), (), (), (), (), (), (), (), (), EnvAll.of h1 ⟨rfl, rfl, rfl, trivial⟩, h2⟩) (fun Q => by kernel_rfl) ⟨?_, ?_, ?_, ?_, ?_, ?_, ?_, ?_, ?_, trivial⟩ ?_
  · rintro Fr _ _
    refine SO.load1 rfl Try.isAgg27 rfl rfl ?_
    exact SO.nilZ fun a w h1 h2 h3 h4 h5 => PZ.of h1 h3 h5 (.cons () (.cons () (.cons () (.nil ⟨EnvAll.of h2 ⟨rfl, rfl, trivial⟩, h4⟩))))
  · rintro Fr _
    refine SO.v rfl (opv_fieldAddr Try.underlying114 rfl Try.sizeOf3 rfl rfl) ?_
    exact SO.nilZ fun a w h1 h2 h3 h4 h5 => PZ.of h1 h3 h5 (.cons () (.cons () (.nil ⟨EnvAll.of h2 ⟨rfl, rfl, trivial⟩, h4⟩)))
  · rintro Fr _ _
    refine SO.load1 rfl Try.isAgg3 rfl rfl ?_
    exact SO.nilZ fun a w h1 h2 h3 h4 h5 => PZ.of h1 h3 h5 (.cons () (.cons () (.cons () (.nil ⟨EnvAll.of h2 ⟨rfl, rfl, trivial⟩, h4⟩))))
  · rintro Fr _ _
    refine SO.load1 rfl Try.isAgg71 rfl rfl ?_
    exact SO.nilZ fun a w h1 h2 h3 h4 h5 => PZ.of h1 h3 h5 (.cons () (.cons () (.cons () (.nil ⟨EnvAll.of h2 ⟨rfl, rfl, trivial⟩, h4⟩))))
  · rintro Fr _
    refine SO.v rfl (opv_nilCheck rfl) ?_
    exact SO.nilZ fun a w h1 h2 h3 h4 h5 => PZ.of h1 h3 h5 (.cons () (.cons () (.nil ⟨EnvAll.of h2 ⟨rfl, rfl, trivial⟩, h4⟩)))
  · rintro Fr _
    refine SO.v rfl (opv_fieldAddr Try.underlying108 rfl Try.sizeOf3 rfl rfl) ?_
    exact SO.nilZ fun a w h1 h2 h3 h4 h5 => PZ.of h1 h3 h5 (.cons () (.cons () (.nil ⟨EnvAll.of h2 ⟨rfl, rfl, trivial⟩, h4⟩)))
  · rintro Fr _ _
    refine SO.load1 rfl Try.isAgg3 rfl rfl ?_
    exact SO.nilZ fun a w h1 h2 h3 h4 h5 => PZ.of h1 h3 h5 (.cons () (.cons () (.cons () (.nil ⟨EnvAll.of h2 ⟨rfl, rfl, trivial⟩, h4⟩))))
  · refine spec2 (X := fun Q => ∀ (_ _ _ _ _ : Unit), Q [(4, bp bq0 0), (6, .int .i64 a1.Cell), (10, .int .i64 a2.mark)] [Box bq0 [v0_l, .int .u32 a0.limit], Own 88 ek_api_Cell v0_l a0.l]) (fun Q => by kernel_rfl) ?_
    rintro Fr _ _ _ _ _
    refine SO.b1 ?_
    refine SO.b1 ?_
    refine SO.call (pre := [Box _ _, Own _ _ _ _]) rfl Try.call57 rfl rfl rfl (word_Store_Release.ct bq0 v0_l _ _ _ _ _ ht5) trivial ?_
    rintro _ _ ⟨u6_l, rfl, rfl⟩
    refine SO.b1 ?_
    refine SO.rd fun hr7 => ?_
    refine SO.b1 ?_
    refine SO.b1 ?_
    exact SO.nilZ fun a w h1 h2 h3 h4 h5 => PZ.of h1 h3 h5 (.cons () (.cons () (.cons () (.cons u6_l (.nil ⟨EnvAll.of h2 ⟨rfl, rfl, rfl, rfl, trivial⟩, h4⟩)))))
  · rintro Fr u6_l
    refine SO.rd fun hr8 => ?_
    refine SO.v rfl (opv_assign rfl) ?_
    refine SO.b1 ?_
    refine SO.b1 ?_
    exact SO.nilZ fun a w h1 h2 h3 h4 h5 => PZ.of h1 h3 h5 (.cons u6_l (.cons () (.nil ⟨EnvAll.of h2 ⟨rfl, rfl, trivial⟩, h4⟩)))
  rintro _ u6_l _ _ _ _ _ _
  refine S.to (ρ' := [(3, errV 60 t3)]) ⟨rfl, trivial⟩ ?_
  refine S.rd fun hr9 => ?_
  cases h
  refine S.b7 ?_
  refine S.b3 ?_
  refine S.b7 ?_
  refine S.b7 ?_
  refine S.b7 ?_
  refine S.b5 ?_
  refine S.b6 ?_
  refine S.b7 ?_
  exact S.ret1 Try.func56 rfl rfl (fun w hs hk => hR w _ _ ⟨u6_l, rfl, rfl⟩ hs hk)
end Go.Proofs
namespace Go.Proofs
open Go.Sl Go.RowKit
/-! 59 (*padstone/word.Store).Put -/
def word_Store_Put.f (a0 : word_Store) (a1 : Int) (a2 : Int) (a3 : Int) : Option (((Option Int) × word_Store)) :=
  (word_Store_own.f a0 a1 a2).bind fun t2 => bif t2.isSome then (some (t2, a0)) else ((at_ a0.l a1).bind fun x5 => bif x5.Version == a0.limit then (some ((some 11), a0)) else ((at_ a0.l a1).bind fun x8 => (at_ a0.l a1).bind fun x10 => some (none, (⟨a0.l.set a1.toNat (⟨a3, wu32 (x8.Version + 1), 0⟩ : api_Cell), a0.limit⟩ : word_Store))))
set_option maxHeartbeats 8000000 in
set_option maxRecDepth 100000 in
theorem word_Store_Put.ct (bp0 : Nat) (v0_l : Value) (a0 : word_Store) (a1 : Int) (a2 : Int) (a3 : Int) (r0 : Option Int) (rp0 : word_Store) (h : word_Store_Put.f a0 a1 a2 a3 = some (r0, rp0)) :
    Ct Try.prog 59 [bp bp0 0, .int .i64 a1, .int .i64 a2, .int .u64 a3] (fun _ => True) [Box bp0 [v0_l, .int .u32 a0.limit], Own 88 ek_api_Cell v0_l a0.l] (fun u H' => ∃ rw0_l, u = errV 60 r0 ∧ H' = [Box bp0 [rw0_l, .int .u32 rp0.limit], Own 88 ek_api_Cell rw0_l rp0.l]) := by
  unfold word_Store_Put.f at h
  refine Ct.intro (n := 48) Try.func59 rfl rfl rfl ?_
  intro R w0 F hF hR
  refine S.b1 ?_
  refine S.rd fun hr1 => ?_
  refine S.seq ?_
  refine S.region ?_
  refine SO.v rfl (opv_assign rfl) ?_
  refine SO.nil ?_
  refine S.seq ?_
  refine S.seq ?_
  refine S.region ?_
  refine SO.v rfl (opv_move rfl) ?_
  refine SO.v rfl (opv_move rfl) ?_
  refine SO.v rfl (opv_move rfl) ?_
  obtain ⟨t2, ht3, h⟩ := opt_bind h
  refine SO.b1 ?_
  refine SO.call (pre := [Box _ _, Own _ _ _ _]) rfl Try.call65 rfl rfl rfl (word_Store_own.ct bp0 v0_l _ _ _ _ ht3) trivial ?_
  rintro _ _ ⟨rfl, rfl⟩
  refine SO.v rfl (opv_assign rfl) ?_
  refine SO.nil ?_
  refine S.seq ?_
  refine S.region ?_
  refine SO.v rfl (opv_move rfl) ?_
  refine SO.v rfl (opv_neqN (e := t2) Try.underlying29 rfl) ?_
  refine SO.nil ?_
  rcases bool_or t2.isSome with b4 | b4
  · replace h := cond_t b4 h
    refine S.condT rfl b4 ?_
    refine S.seq ?_
    refine S.region ?_
    refine SO.v rfl (opv_move rfl) ?_
    refine SO.v rfl (opv_assign rfl) ?_
    refine SO.nil ?_
    refine S.to (ρ' := [(8, errV 60 t2)]) ⟨rfl, trivial⟩ ?_
    cases h
    refine S.b2 ?_
    refine S.b2 ?_
    refine S.b2 ?_
    exact S.ret1 Try.func59 rfl rfl (fun w hs hk => hR w _ _ ⟨v0_l, rfl, rfl⟩ hs hk)
  replace h := cond_f b4 h
  refine S.condF rfl b4 ?_
  refine S.skip ?_
  refine S.seq ?_
  refine S.seq ?_
  obtain ⟨x5, hx6, h⟩ := opt_bind h
  refine S.draw2 (Y := fun Q => ∃ (_ _ _ _ _ _ : Unit), Q [(0, bp bp0 0), (1, .int .i64 a1), (8, errV 60 none), (3, .int .u64 a3)] [Box bp0 [v0_l, .int .u32 a0.limit], Own 88 ek_api_Cell v0_l a0.l, F]) (Z := fun Q => ∀ (_ _ _ _ _ _ _ : Unit), Q [(0, bp bp0 0), (1, .int .i64 a1), (8, errV 60 none), (3, .int .u64 a3), (29, .bool (x5.Version == a0.limit))] [Box bp0 [v0_l, .int .u32 a0.limit], Own 88 ek_api_Cell v0_l a0.l, F]) (T := [tS 0 (bp bp0 0), tS 1 (.int .i64 a1), tE [(8, errV 60 none), (3, .int .u64 a3)], tR (Box bp0 [v0_l, .int .u32 a0.limit]), tR (Own 88 ek_api_Cell v0_l a0.l), tR (F), tS 17 (bp bp0 0), tS 18 (bp bp0 0), tS 19 (bp bp0 0), tS 20 (v0_l), tS 21 (.int .i64 a1), tS 22 (idxp v0_l (a1.toNat * ek_api_Cell.sz)), tS 23 (idxp v0_l (a1.toNat * ek_api_Cell.sz + 1)), tS 24 (.int .u32 x5.Version), tS 25 (bp bp0 0), tS 26 (bp bp0 0), tS 27 (bp bp0 1), tS 28 (.int .u32 a0.limit), tS 29 (.bool (x5.Version == a0.limit))]) (D := [⟨[0], [], [6]⟩, ⟨[6], [], [7]⟩, ⟨[7], [], [8]⟩, ⟨[8, 3], [], [9]⟩, ⟨[1], [], [10]⟩, ⟨[9, 10, 4], [], [11]⟩, ⟨[11, 4], [], [12]⟩, ⟨[12, 4], [], [13]⟩, ⟨[0], [], [14]⟩, ⟨[14], [], [15]⟩, ⟨[15], [], [16]⟩, ⟨[16, 3], [], [17]⟩, ⟨[13, 17], [], [18]⟩]) (ini := [0, 1, 2, 3, 4, 5]) (fin := [0, 1, 2, 18, 3, 4, 5]) (bf := [[], [0], [0, 1], [0, 1, 2], [], [0, 1, 2, 3, 4], [0, 1, 2, 3, 4, 5], [0, 1, 2, 3, 4, 5, 6], [], [8], [8, 9], [8, 9, 10], [0, 1, 2, 3, 4, 5, 6, 7, 8, 9, 10, 11]]) (by kernel_rfl) (by kernel_rfl) (fun Q => by kernel_rfl) (fun x w h1 h2 => ⟨(), (), (), (), (), (), EnvAll.of h1 ⟨rfl, rfl, rfl, rfl, trivial⟩, h2⟩) (fun Q => by kernel_rfl) ⟨?_, ?_, ?_, ?_, ?_, ?_, ?_, ?_, ?_, ?_, ?_, ?_, ?_, trivial⟩ ?_
  · rintro Fr _
    refine SO.v rfl (opv_move rfl) ?_
    exact SO.nilZ fun a w h1 h2 h3 h4 h5 => PZ.of h1 h3 h5 (.cons () (.cons () (.nil ⟨EnvAll.of h2 ⟨rfl, rfl, trivial⟩, h4⟩)))
  · rintro Fr _
    refine SO.v rfl (opv_nilCheck rfl) ?_
    exact SO.nilZ fun a w h1 h2 h3 h4 h5 => PZ.of h1 h3 h5 (.cons () (.cons () (.nil ⟨EnvAll.of h2 ⟨rfl, rfl, trivial⟩, h4⟩)))
  · rintro Fr _
    refine SO.v rfl (opv_fieldAddr Try.underlying63 rfl Try.sizeOf61 rfl rfl) ?_
    exact SO.nilZ fun a w h1 h2 h3 h4 h5 => PZ.of h1 h3 h5 (.cons () (.cons () (.nil ⟨EnvAll.of h2 ⟨rfl, rfl, trivial⟩, h4⟩)))
  · rintro Fr _ _
    refine SO.load1 rfl Try.isAgg61 rfl rfl ?_
    exact SO.nilZ fun a w h1 h2 h3 h4 h5 => PZ.of h1 h3 h5 (.cons () (.cons () (.cons () (.nil ⟨EnvAll.of h2 ⟨rfl, rfl, trivial⟩, h4⟩))))
  · rintro Fr _
    refine SO.v rfl (opv_move rfl) ?_
    exact SO.nilZ fun a w h1 h2 h3 h4 h5 => PZ.of h1 h3 h5 (.cons () (.cons () (.nil ⟨EnvAll.of h2 ⟨rfl, rfl, trivial⟩, h4⟩)))
  · rintro Fr _ _ _
    refine SO.v rfl (opv_idx Try.underlying61 Try.sizeOf88 hr1 rfl rfl hx6) ?_
    exact SO.nilZ fun a w h1 h2 h3 h4 h5 => PZ.of h1 h3 h5 (.cons () (.cons () (.cons () (.cons () (.nil ⟨EnvAll.of h2 ⟨rfl, rfl, rfl, trivial⟩, h4⟩)))))
  · rintro Fr _ _
    refine SO.v rfl (opv_fieldIdx Try.underlying88 rfl Try.sizeOf22 hr1 hx6 rfl rfl) ?_
    exact SO.nilZ fun a w h1 h2 h3 h4 h5 => PZ.of h1 h3 h5 (.cons () (.cons () (.cons () (.nil ⟨EnvAll.of h2 ⟨rfl, rfl, trivial⟩, h4⟩))))
  · rintro Fr _ _
    refine SO.loadI1 (j := 1) rfl Try.isAgg22 (Rd.head hr1) hx6 rfl rfl rfl rfl ?_
    exact SO.nilZ fun a w h1 h2 h3 h4 h5 => PZ.of h1 h3 h5 (.cons () (.cons () (.cons () (.nil ⟨EnvAll.of h2 ⟨rfl, rfl, trivial⟩, h4⟩))))
  · rintro Fr _
    refine SO.v rfl (opv_move rfl) ?_
    exact SO.nilZ fun a w h1 h2 h3 h4 h5 => PZ.of h1 h3 h5 (.cons () (.cons () (.nil ⟨EnvAll.of h2 ⟨rfl, rfl, trivial⟩, h4⟩)))
  · rintro Fr _
    refine SO.v rfl (opv_nilCheck rfl) ?_
    exact SO.nilZ fun a w h1 h2 h3 h4 h5 => PZ.of h1 h3 h5 (.cons () (.cons () (.nil ⟨EnvAll.of h2 ⟨rfl, rfl, trivial⟩, h4⟩)))
  · rintro Fr _
    refine SO.v rfl (opv_fieldAddr Try.underlying63 rfl Try.sizeOf22 rfl rfl) ?_
    exact SO.nilZ fun a w h1 h2 h3 h4 h5 => PZ.of h1 h3 h5 (.cons () (.cons () (.nil ⟨EnvAll.of h2 ⟨rfl, rfl, trivial⟩, h4⟩)))
  · rintro Fr _ _
    refine SO.load1 rfl Try.isAgg22 rfl rfl ?_
    exact SO.nilZ fun a w h1 h2 h3 h4 h5 => PZ.of h1 h3 h5 (.cons () (.cons () (.cons () (.nil ⟨EnvAll.of h2 ⟨rfl, rfl, trivial⟩, h4⟩))))
  · rintro Fr _ _
    refine SO.v rfl (opv_eql rfl rfl) ?_
    exact SO.nilZ fun a w h1 h2 h3 h4 h5 => PZ.of h1 h3 h5 (.cons () (.cons () (.cons () (.nil ⟨EnvAll.of h2 ⟨rfl, rfl, rfl, trivial⟩, h4⟩))))
  rintro _ _ _ _ _ _ _
  refine S.to (ρ' := [(0, bp bp0 0), (1, .int .i64 a1), (8, errV 60 none), (3, .int .u64 a3), (29, .bool (x5.Version == a0.limit))]) ⟨rfl, rfl, rfl, rfl, rfl, trivial⟩ ?_
  rcases bool_or (x5.Version == a0.limit) with b7 | b7
  · replace h := cond_t b7 h
    refine S.condT rfl b7 ?_
    refine S.seq ?_
    refine S.region ?_
    refine SO.v rfl (opv_iface Try.underlying60 rfl rfl) ?_
    refine SO.v rfl (opv_assign rfl) ?_
    refine SO.nil ?_
    cases h
    refine S.b2 ?_
    refine S.b2 ?_
    refine S.b2 ?_
    exact S.ret1 Try.func59 rfl rfl (fun w hs hk => hR w _ _ ⟨v0_l, rfl, rfl⟩ hs hk)
  replace h := cond_f b7 h
  refine S.condF rfl b7 ?_
  refine S.skip ?_
  refine S.seq ?_
  obtain ⟨x8, hx9, h⟩ := opt_bind h
  obtain ⟨x10, hx11, h⟩ := opt_bind h
  refine S.draw2 (Y := fun Q => ∃ (_ _ _ _ _ _ _ : Unit), Q [(0, bp bp0 0), (1, .int .i64 a1), (3, .int .u64 a3), (8, errV 60 none)] [Box bp0 [v0_l, .int .u32 a0.limit], Own 88 ek_api_Cell v0_l a0.l, F]) (Z := fun Q => ∀ (_ _ _ _ : Unit), Q [(8, errV 60 none)] [Box bp0 [v0_l, .int .u32 a0.limit], Own 88 ek_api_Cell v0_l (a0.l.set a1.toNat (⟨a3, wu32 (x8.Version + 1), 0⟩ : api_Cell)), F]) (T := [tS 0 (bp bp0 0), tS 1 (.int .i64 a1), tS 3 (.int .u64 a3), tS 8 (errV 60 none), tR (Box bp0 [v0_l, .int .u32 a0.limit]), tR (Own 88 ek_api_Cell v0_l a0.l), tR (F), tS 31 (bp bp0 0), tS 32 (bp bp0 0), tS 33 (bp bp0 0), tS 34 (v0_l), tS 35 (.int .i64 a1), tS 36 (.int .u64 a3), tS 37 (bp bp0 0), tS 38 (bp bp0 0), tS 39 (bp bp0 0), tS 40 (v0_l), tS 41 (.int .i64 a1), tS 42 (idxp v0_l (a1.toNat * ek_api_Cell.sz)), tS 43 (idxp v0_l (a1.toNat * ek_api_Cell.sz + 1)), tS 44 (.int .u32 x8.Version), tS 45 (.int .u32 (wu32 (x8.Version + 1))), tS 46 (.agg #[.int .u64 a3, .int .u32 (wu32 (x8.Version + 1)), .int .i64 0]), tS 47 (idxp v0_l (a1.toNat * ek_api_Cell.sz)), tR (Own 88 ek_api_Cell v0_l (a0.l.set a1.toNat (⟨a3, wu32 (x8.Version + 1), 0⟩ : api_Cell)))]) (D := [⟨[0], [], [7]⟩, ⟨[7], [], [8]⟩, ⟨[8], [], [9]⟩, ⟨[9, 4], [], [10]⟩, ⟨[1], [], [11]⟩, ⟨[2], [], [12]⟩, ⟨[0], [], [13]⟩, ⟨[13], [], [14]⟩, ⟨[14], [], [15]⟩, ⟨[15, 4], [], [16]⟩, ⟨[1], [], [17]⟩, ⟨[16, 17, 5], [], [18]⟩, ⟨[18, 5], [], [19]⟩, ⟨[19, 5], [], [20]⟩, ⟨[20], [], [21]⟩, ⟨[12, 21], [], [22]⟩, ⟨[10, 11, 5], [], [23]⟩, ⟨[22, 23], [5], [24]⟩]) (ini := [0, 1, 2, 3, 4, 5, 6]) (fin := [3, 4, 24, 6]) (bf := [[], [0], [0, 1], [0, 1, 2], [], [], [], [6], [6, 7], [6, 7, 8], [], [6, 7, 8, 9, 10], [6, 7, 8, 9, 10, 11], [6, 7, 8, 9, 10, 11, 12], [6, 7, 8, 9, 10, 11, 12, 13], [5, 6, 7, 8, 9, 10, 11, 12, 13, 14], [0, 1, 2, 3, 4, 5, 6, 7, 8, 9, 10, 11, 12, 13, 14, 15], [0, 1, 2, 3, 4, 5, 6, 7, 8, 9, 10, 11, 12, 13, 14, 15, 16]]) (by kernel_rfl) (by kernel_rfl) (fun Q => by kernel_rfl) (fun x w h1 h2 => ⟨(), (), (), (), (), (), (), EnvAll.of h1 ⟨rfl, rfl, rfl, rfl, trivial⟩, h2⟩) (fun Q => by kernel_rfl) ⟨?_, ?_, ?_, ?_, ?_, ?_, ?_, ?_, ?_, ?_, ?_, ?_, ?_, ?_, ?_, ?_, ?_, ?_, trivial⟩ ?_
  · rintro Fr _
    refine SO.v rfl (opv_move rfl) ?_
    exact SO.nilZ fun a w h1 h2 h3 h4 h5 => PZ.of h1 h3 h5 (.cons () (.cons () (.nil ⟨EnvAll.of h2 ⟨rfl, rfl, trivial⟩, h4⟩)))
  · rintro Fr _
    refine SO.v rfl (opv_nilCheck rfl) ?_
    exact SO.nilZ fun a w h1 h2 h3 h4 h5 => PZ.of h1 h3 h5 (.cons () (.cons () (.nil ⟨EnvAll.of h2 ⟨rfl, rfl, trivial⟩, h4⟩)))
  · rintro Fr _
    refine SO.v rfl (opv_fieldAddr Try.underlying63 rfl Try.sizeOf61 rfl rfl) ?_
    exact SO.nilZ fun a w h1 h2 h3 h4 h5 => PZ.of h1 h3 h5 (.cons () (.cons () (.nil ⟨EnvAll.of h2 ⟨rfl, rfl, trivial⟩, h4⟩)))
  · rintro Fr _ _
    refine SO.load1 rfl Try.isAgg61 rfl rfl ?_
    exact SO.nilZ fun a w h1 h2 h3 h4 h5 => PZ.of h1 h3 h5 (.cons () (.cons () (.cons () (.nil ⟨EnvAll.of h2 ⟨rfl, rfl, trivial⟩, h4⟩))))
  · rintro Fr _
    refine SO.v rfl (opv_move rfl) ?_
    exact SO.nilZ fun a w h1 h2 h3 h4 h5 => PZ.of h1 h3 h5 (.cons () (.cons () (.nil ⟨EnvAll.of h2 ⟨rfl, rfl, trivial⟩, h4⟩)))
  · rintro Fr _
    refine SO.v rfl (opv_move rfl) ?_
    exact SO.nilZ fun a w h1 h2 h3 h4 h5 => PZ.of h1 h3 h5 (.cons () (.cons () (.nil ⟨EnvAll.of h2 ⟨rfl, rfl, trivial⟩, h4⟩)))
  · rintro Fr _
    refine SO.v rfl (opv_move rfl) ?_
    exact SO.nilZ fun a w h1 h2 h3 h4 h5 => PZ.of h1 h3 h5 (.cons () (.cons () (.nil ⟨EnvAll.of h2 ⟨rfl, rfl, trivial⟩, h4⟩)))
  · rintro Fr _
    refine SO.v rfl (opv_nilCheck rfl) ?_
    exact SO.nilZ fun a w h1 h2 h3 h4 h5 => PZ.of h1 h3 h5 (.cons () (.cons () (.nil ⟨EnvAll.of h2 ⟨rfl, rfl, trivial⟩, h4⟩)))
  · rintro Fr _
    refine SO.v rfl (opv_fieldAddr Try.underlying63 rfl Try.sizeOf61 rfl rfl) ?_
    exact SO.nilZ fun a w h1 h2 h3 h4 h5 => PZ.of h1 h3 h5 (.cons () (.cons () (.nil ⟨EnvAll.of h2 ⟨rfl, rfl, trivial⟩, h4⟩)))
  · rintro Fr _ _
    refine SO.load1 rfl Try.isAgg61 rfl rfl ?_
    exact SO.nilZ fun a w h1 h2 h3 h4 h5 => PZ.of h1 h3 h5 (.cons () (.cons () (.cons () (.nil ⟨EnvAll.of h2 ⟨rfl, rfl, trivial⟩, h4⟩))))
  · rintro Fr _
    refine SO.v rfl (opv_move rfl) ?_
    exact SO.nilZ fun a w h1 h2 h3 h4 h5 => PZ.of h1 h3 h5 (.cons () (.cons () (.nil ⟨EnvAll.of h2 ⟨rfl, rfl, trivial⟩, h4⟩)))
  · rintro Fr _ _ _
    refine SO.v rfl (opv_idx Try.underlying61 Try.sizeOf88 hr1 rfl rfl hx9) ?_
    exact SO.nilZ fun a w h1 h2 h3 h4 h5 => PZ.of h1 h3 h5 (.cons () (.cons () (.cons () (.cons () (.nil ⟨EnvAll.of h2 ⟨rfl, rfl, rfl, trivial⟩, h4⟩)))))
  · rintro Fr _ _
    refine SO.v rfl (opv_fieldIdx Try.underlying88 rfl Try.sizeOf22 hr1 hx9 rfl rfl) ?_
    exact SO.nilZ fun a w h1 h2 h3 h4 h5 => PZ.of h1 h3 h5 (.cons () (.cons () (.cons () (.nil ⟨EnvAll.of h2 ⟨rfl, rfl, trivial⟩, h4⟩))))
  · rintro Fr _ _
    refine SO.loadI1 (j := 1) rfl Try.isAgg22 (Rd.head hr1) hx9 rfl rfl rfl rfl ?_
    exact SO.nilZ fun a w h1 h2 h3 h4 h5 => PZ.of h1 h3 h5 (.cons () (.cons () (.cons () (.nil ⟨EnvAll.of h2 ⟨rfl, rfl, trivial⟩, h4⟩))))
  · rintro Fr _
    refine SO.v rfl (opv_add rfl rfl) ?_
    exact SO.nilZ fun a w h1 h2 h3 h4 h5 => PZ.of h1 h3 h5 (.cons () (.cons () (.nil ⟨EnvAll.of h2 ⟨rfl, rfl, trivial⟩, h4⟩)))
  · rintro Fr _ _
    refine SO.v rfl (opv_build (v := .agg #[.int .u64 a3, .int .u32 (wu32 (x8.Version + 1)), .int .i64 0]) rfl (by intro w; kernel_rfl)) ?_
    exact SO.nilZ fun a w h1 h2 h3 h4 h5 => PZ.of h1 h3 h5 (.cons () (.cons () (.cons () (.nil ⟨EnvAll.of h2 ⟨rfl, rfl, rfl, trivial⟩, h4⟩))))
  · rintro Fr _ _ _
    refine SO.v rfl (opv_idx Try.underlying61 Try.sizeOf88 hr1 rfl rfl hx11) ?_
    exact SO.nilZ fun a w h1 h2 h3 h4 h5 => PZ.of h1 h3 h5 (.cons () (.cons () (.cons () (.cons () (.nil ⟨EnvAll.of h2 ⟨rfl, rfl, rfl, trivial⟩, h4⟩)))))
  · rintro Fr _ _ _
    refine SO.storeIN (z' := (⟨a3, wu32 (x8.Version + 1), 0⟩ : api_Cell)) Try.sizeOf88 hx11 rfl rfl rfl rfl ?_
    refine SO.rd fun hr12 => ?_
    exact SO.nilZ fun a w h1 h2 h3 h4 h5 => PZ.of h1 h3 h5 (.cons () (.cons () (.cons () (.nil ⟨EnvAll.of h2 ⟨rfl, rfl, trivial⟩, h4⟩))))
  rintro _ _ _ _
  refine S.to (ρ' := [(8, errV 60 none)]) ⟨rfl, trivial⟩ ?_
  refine S.b1 ?_
  refine S.rd fun hr13 => ?_
  refine S.seq ?_
  refine S.region ?_
  refine SO.v rfl (opv_assign rfl) ?_
  refine SO.nil ?_
  cases h
  refine S.b2 ?_
  refine S.b1 ?_
  refine S.b2 ?_
  exact S.ret1 Try.func59 rfl rfl (fun w hs hk => hR w _ _ ⟨v0_l, rfl, rfl⟩ hs hk)
end Go.Proofs
namespace Go.Proofs
open Go.Sl Go.RowKit
/-! 58 (*padstone/desc.Desc).release$2 -/
def desc_Desc_release_2.f (a0 : word_Store) (a1 : tx_Entry) (a2 : desc_Desc) : Option (((Option Int) × word_Store)) :=
  (word_Store_Put.f a0 a1.Cell a2.mark a1.New).bind fun (t3, p4) => some (t3, p4)
set_option maxHeartbeats 8000000 in
set_option maxRecDepth 100000 in
theorem desc_Desc_release_2.ct (bp0 : Nat) (bq0 : Nat) (v0_l : Value) (bp1 : Nat) (bp2 : Nat) (bq2 : Nat) (v2_l : Value) (a0 : word_Store) (a1 : tx_Entry) (a2 : desc_Desc) (r0 : Option Int) (rp0 : word_Store) (h : desc_Desc_release_2.f a0 a1 a2 = some (r0, rp0)) :
    Ct Try.prog 58 [bp bp0 0, bp bp1 0, bp bp2 0] (fun _ => True) [Box bp0 [bp bq0 0], Box bq0 [v0_l, .int .u32 a0.limit], Own 88 ek_api_Cell v0_l a0.l, Box bp1 [.int .i64 a1.Cell, .int .u32 a1.Version, .int .u64 a1.Old, .int .u64 a1.New, .bool a1.Write], Box bp2 [bp bq2 0], Box bq2 [.int .i64 a2.mark, v2_l, .int .i64 a2.status, .int .i64 a2.at_], Own 114 ek_tx_Entry v2_l a2.l] (fun u H' => ∃ rw0_l, u = errV 60 r0 ∧ H' = [Box bp0 [bp bq0 0], Box bq0 [rw0_l, .int .u32 rp0.limit], Own 88 ek_api_Cell rw0_l rp0.l, Box bp1 [.int .i64 a1.Cell, .int .u32 a1.Version, .int .u64 a1.Old, .int .u64 a1.New, .bool a1.Write], Box bp2 [bp bq2 0], Box bq2 [.int .i64 a2.mark, v2_l, .int .i64 a2.status, .int .i64 a2.at_], Own 114 ek_tx_Entry v2_l a2.l]) := by
  unfold desc_Desc_release_2.f at h
  refine Ct.intro (n := 14) Try.func58 rfl rfl rfl ?_
  intro R w0 F hF hR
  refine S.b2 ?_
  refine S.rd fun hr1 => ?_
  refine S.b6 ?_
  refine S.rd fun hr2 => ?_
  refine S.seq ?_
  refine S.region ?_
  refine SO.v rfl (opv_assign rfl) ?_
  refine SO.nil ?_
  refine S.seq ?_
  obtain ⟨⟨t3, p4⟩, ht5, h⟩ := opt_bind h
  refine S.draw2 (Y := fun Q => ∃ (_ _ _ _ _ _ _ _ _ _ _ : Unit), Q [(0, bp bp0 0), (1, bp bp1 0), (2, bp bp2 0)] [Own 114 ek_tx_Entry v2_l a2.l, Own 88 ek_api_Cell v0_l a0.l, Box bp0 [bp bq0 0], Box bq0 [v0_l, .int .u32 a0.limit], Box bp1 [.int .i64 a1.Cell, .int .u32 a1.Version, .int .u64 a1.Old, .int .u64 a1.New, .bool a1.Write], Box bp2 [bp bq2 0], Box bq2 [.int .i64 a2.mark, v2_l, .int .i64 a2.status, .int .i64 a2.at_], F]) (Z := fun Q => ∀ (_ : Unit) (u6_l : Value) (_ _ _ _ _ _ : Unit), Q [(3, errV 60 t3), (13, errV 60 t3)] [Own 88 ek_api_Cell u6_l p4.l, Box bq0 [u6_l, .int .u32 p4.limit], Own 114 ek_tx_Entry v2_l a2.l, Box bp0 [bp bq0 0], Box bp1 [.int .i64 a1.Cell, .int .u32 a1.Version, .int .u64 a1.Old, .int .u64 a1.New, .bool a1.Write], Box bp2 [bp bq2 0], Box bq2 [.int .i64 a2.mark, v2_l, .int .i64 a2.status, .int .i64 a2.at_], F]) (T := [tS 0 (bp bp0 0), tS 1 (bp bp1 0), tS 2 (bp bp2 0), tR (Own 114 ek_tx_Entry v2_l a2.l), tR (Own 88 ek_api_Cell v0_l a0.l), tR (Box bp0 [bp bq0 0]), tR (Box bq0 [v0_l, .int .u32 a0.limit]), tR (Box bp1 [.int .i64 a1.Cell, .int .u32 a1.Version, .int .u64 a1.Old, .int .u64 a1.New, .bool a1.Write]), tR (Box bp2 [bp bq2 0]), tR (Box bq2 [.int .i64 a2.mark, v2_l, .int .i64 a2.status, .int .i64 a2.at_]), tR (F), tS 4 (bp bq0 0), tS 5 (bp bp1 0), tS 6 (.int .i64 a1.Cell), tS 7 (bp bq2 0), tS 8 (bp bq2 0), tS 9 (bp bq2 0), tS 10 (.int .i64 a2.mark), tS 11 (bp bp1 3), tS 12 (.int .u64 a1.New), ⟨Value, [13], (fun u6_l => [(13, errV 60 t3)]), (fun u6_l => [Own 88 ek_api_Cell u6_l p4.l, Box bq0 [u6_l, .int .u32 p4.limit]]), fun _ => rfl⟩, tS 3 (errV 60 t3)]) (D := [⟨[0, 5], [], [11]⟩, ⟨[1], [], [12]⟩, ⟨[12, 7], [], [13]⟩, ⟨[2, 8], [], [14]⟩, ⟨[14], [], [15]⟩, ⟨[15], [], [16]⟩, ⟨[16, 9], [], [17]⟩, ⟨[1], [], [18]⟩, ⟨[18, 7], [], [19]⟩, ⟨[11, 13, 17, 19], [6, 4], [20]⟩, ⟨[20], [], [21]⟩]) (ini := [0, 1, 2, 3, 4, 5, 6, 7, 8, 9, 10]) (fin := [21, 20, 3, 5, 7, 8, 9, 10]) (bf := [[], [], [1], [], [3], [3, 4], [3, 4, 5], [], [7], [0, 1, 2, 3, 4, 5, 6, 7, 8], [0, 1, 2, 3, 4, 5, 6, 7, 8, 9]]) (by kernel_rfl) (by kernel_rfl) (fun Q => by kernel_rfl) (fun x w h1 h2 => ⟨(), (), (), (), (), (), (), (), (), (), (), EnvAll.of h1 ⟨rfl, rfl, rfl, trivial⟩, h2⟩) (fun Q => by kernel_rfl) ⟨?_, ?_, ?_, ?_, ?_, ?_, ?_, ?_, ?_, ?_, ?_, trivial⟩ ?_
  · rintro Fr _ _
    refine SO.load1 rfl Try.isAgg27 rfl rfl ?_
    exact SO.nilZ fun a w h1 h2 h3 h4 h5 => PZ.of h1 h3 h5 (.cons () (.cons () (.cons () (.nil ⟨EnvAll.of h2 ⟨rfl, rfl, trivial⟩, h4⟩))))
  · rintro Fr _
    refine SO.v rfl (opv_fieldAddr Try.underlying114 rfl Try.sizeOf3 rfl rfl) ?_
    exact SO.nilZ fun a w h1 h2 h3 h4 h5 => PZ.of h1 h3 h5 (.cons () (.cons () (.nil ⟨EnvAll.of h2 ⟨rfl, rfl, trivial⟩, h4⟩)))
  · rintro Fr _ _
    refine SO.load1 rfl Try.isAgg3 rfl rfl ?_
    exact SO.nilZ fun a w h1 h2 h3 h4 h5 => PZ.of h1 h3 h5 (.cons () (.cons () (.cons () (.nil ⟨EnvAll.of h2 ⟨rfl, rfl, trivial⟩, h4⟩))))
  · rintro Fr _ _
    refine SO.load1 rfl Try.isAgg71 rfl rfl ?_
    exact SO.nilZ fun a w h1 h2 h3 h4 h5 => PZ.of h1 h3 h5 (.cons () (.cons () (.cons () (.nil ⟨EnvAll.of h2 ⟨rfl, rfl, trivial⟩, h4⟩))))
  · rintro Fr _
    refine SO.v rfl (opv_nilCheck rfl) ?_
    exact SO.nilZ fun a w h1 h2 h3 h4 h5 => PZ.of h1 h3 h5 (.cons () (.cons () (.nil ⟨EnvAll.of h2 ⟨rfl, rfl, trivial⟩, h4⟩)))
  · rintro Fr _
    refine SO.v rfl (opv_fieldAddr Try.underlying108 rfl Try.sizeOf3 rfl rfl) ?_
    exact SO.nilZ fun a w h1 h2 h3 h4 h5 => PZ.of h1 h3 h5 (.cons () (.cons () (.nil ⟨EnvAll.of h2 ⟨rfl, rfl, trivial⟩, h4⟩)))
  · rintro Fr _ _
    refine SO.load1 rfl Try.isAgg3 rfl rfl ?_
    exact SO.nilZ fun a w h1 h2 h3 h4 h5 => PZ.of h1 h3 h5 (.cons () (.cons () (.cons () (.nil ⟨EnvAll.of h2 ⟨rfl, rfl, trivial⟩, h4⟩))))
  · rintro Fr _
    refine SO.v rfl (opv_fieldAddr Try.underlying114 rfl Try.sizeOf46 rfl rfl) ?_
    exact SO.nilZ fun a w h1 h2 h3 h4 h5 => PZ.of h1 h3 h5 (.cons () (.cons () (.nil ⟨EnvAll.of h2 ⟨rfl, rfl, trivial⟩, h4⟩)))
  · rintro Fr _ _
    refine SO.load1 rfl Try.isAgg46 rfl rfl ?_
    exact SO.nilZ fun a w h1 h2 h3 h4 h5 => PZ.of h1 h3 h5 (.cons () (.cons () (.cons () (.nil ⟨EnvAll.of h2 ⟨rfl, rfl, trivial⟩, h4⟩))))
  · refine spec2 (X := fun Q => ∀ (_ _ _ _ _ _ : Unit), Q [(4, bp bq0 0), (6, .int .i64 a1.Cell), (10, .int .i64 a2.mark), (12, .int .u64 a1.New)] [Box bq0 [v0_l, .int .u32 a0.limit], Own 88 ek_api_Cell v0_l a0.l]) (fun Q => by kernel_rfl) ?_
    rintro Fr _ _ _ _ _ _
    refine SO.b1 ?_
    refine SO.b1 ?_
    refine SO.call (pre := [Box _ _, Own _ _ _ _]) rfl Try.call59 rfl rfl rfl (word_Store_Put.ct bq0 v0_l _ _ _ _ _ _ ht5) trivial ?_
    rintro _ _ ⟨u6_l, rfl, rfl⟩
    refine SO.b1 ?_
    refine SO.rd fun hr7 => ?_
    refine SO.b1 ?_
    refine SO.b1 ?_
    exact SO.nilZ fun a w h1 h2 h3 h4 h5 => PZ.of2 (Y := fun Q => ∃ (_ _ _ _ : Unit) (u6_l : Value), Q [(4, bp bq0 0), (6, .int .i64 a1.Cell), (10, .int .i64 a2.mark), (12, .int .u64 a1.New), (13, errV 60 t3)] [Own 88 ek_api_Cell u6_l p4.l, Box bq0 [u6_l, .int .u32 p4.limit]]) (fun Q => by kernel_rfl) h1 h3 h5 ⟨(), (), (), (), u6_l, EnvAll.of h2 ⟨rfl, rfl, rfl, rfl, rfl, trivial⟩, h4⟩
  · rintro Fr u6_l
    refine SO.rd fun hr8 => ?_
    refine SO.v rfl (opv_assign rfl) ?_
    refine SO.b1 ?_
    refine SO.b1 ?_
    exact SO.nilZ fun a w h1 h2 h3 h4 h5 => PZ.of h1 h3 h5 (.cons u6_l (.cons () (.nil ⟨EnvAll.of h2 ⟨rfl, rfl, trivial⟩, h4⟩)))
  rintro _ u6_l _ _ _ _ _ _
  refine S.to (ρ' := [(3, errV 60 t3)]) ⟨rfl, trivial⟩ ?_
  refine S.rd fun hr9 => ?_
  cases h
  refine S.b7 ?_
  refine S.b3 ?_
  refine S.b7 ?_
  refine S.b7 ?_
  refine S.b7 ?_
  refine S.b5 ?_
  refine S.b6 ?_
  refine S.b7 ?_
  exact S.ret1 Try.func58 rfl rfl (fun w hs hk => hR w _ _ ⟨u6_l, rfl, rfl⟩ hs hk)
end Go.Proofs
namespace Go.Proofs
open Go.Sl Go.RowKit
/-! 35 (*padstone/word.Store).Read -/
def word_Store_Read.f (a0 : word_Store) (a1 : Int) : Option ((api_Cell × (Option Int))) :=
  (word_Store_has.f a0 a1).bind fun t3 => bif !t3 then (some ((⟨0, 0, 0⟩ : api_Cell), (some 2))) else ((at_ a0.l a1).bind fun x6 => some (x6, none))
set_option maxHeartbeats 8000000 in
set_option maxRecDepth 100000 in
theorem word_Store_Read.ct (bp0 : Nat) (v0_l : Value) (a0 : word_Store) (a1 : Int) (r0 : api_Cell) (r1 : Option Int) (h : word_Store_Read.f a0 a1 = some (r0, r1)) :
    Ct Try.prog 35 [bp bp0 0, .int .i64 a1] (fun _ => True) [Box bp0 [v0_l, .int .u32 a0.limit], Own 88 ek_api_Cell v0_l a0.l] (fun u H' => u = .tuple #[.agg #[.int .u64 r0.Value, .int .u32 r0.Version, .int .i64 r0.Mark], errV 60 r1] ∧ H' = [Box bp0 [v0_l, .int .u32 a0.limit], Own 88 ek_api_Cell v0_l a0.l]) := by
  unfold word_Store_Read.f at h
  refine Ct.intro (n := 19) Try.func35 rfl rfl rfl ?_
  intro R w0 F hF hR
  refine S.b1 ?_
  refine S.rd fun hr1 => ?_
  refine S.seq ?_
  refine S.region ?_
  refine SO.alloc rfl Try.zeroValue88 rfl (fun b2 => ?_)
  refine SO.v rfl (opv_assign rfl) ?_
  refine SO.nil ?_
  refine S.seq ?_
  refine S.seq ?_
  refine S.region ?_
  refine SO.v rfl (opv_move rfl) ?_
  refine SO.v rfl (opv_move rfl) ?_
  obtain ⟨t3, ht4, h⟩ := opt_bind h
  refine SO.b1 ?_
  refine SO.b2 ?_
  refine SO.call (pre := [Box _ _, Own _ _ _ _]) rfl Try.call47 rfl rfl rfl (word_Store_has.ct bp0 v0_l _ _ _ ht4) trivial ?_
  rintro _ _ ⟨rfl, rfl⟩
  refine SO.v rfl (opv_not rfl) ?_
  refine SO.nil ?_
  rcases bool_or (!t3) with b5 | b5
  · replace h := cond_t b5 h
    refine S.condT rfl b5 ?_
    refine S.seq ?_
    refine S.region ?_
    refine SO.v rfl (opv_build (v := .agg #[.int .u64 0, .int .u32 0, .int .i64 0]) rfl (by intro w; kernel_rfl)) ?_
    refine SO.v rfl (opv_iface Try.underlying60 rfl rfl) ?_
    refine SO.b2 ?_
    refine SO.storeN Try.sizeOf88 rfl rfl rfl rfl rfl rfl ?_
    refine SO.v rfl (opv_assign rfl) ?_
    refine SO.nil ?_
    refine S.to (ρ' := [(4, bp b2 0), (5, errV 60 (some 2))]) ⟨rfl, rfl, trivial⟩ ?_
    cases h
    refine S.b3 ?_
    refine S.b3 ?_
    refine S.b3 ?_
    refine S.b3 ?_
    exact S.retC1 Try.func35 rfl rfl rfl Try.isAgg88 Try.sizeOf88 rfl rfl (fun w hs hk => hR w _ _ ⟨rfl, rfl⟩ hs.drop hk)
  replace h := cond_f b5 h
  refine S.condF rfl b5 ?_
  refine S.skip ?_
  refine S.seq ?_
  refine S.region ?_
  refine SO.v rfl (opv_move rfl) ?_
  refine SO.v rfl (opv_nilCheck rfl) ?_
  refine SO.v rfl (opv_fieldAddr Try.underlying63 rfl Try.sizeOf61 rfl rfl) ?_
  refine SO.load1 rfl Try.isAgg61 rfl rfl ?_
  refine SO.v rfl (opv_move rfl) ?_
  obtain ⟨x6, hx7, h⟩ := opt_bind h
  refine SO.v rfl (opv_idx Try.underlying61 Try.sizeOf88 hr1 rfl rfl hx7) ?_
  refine SO.loadIN rfl Try.isAgg88 Try.sizeOf88 (Rd.tail (Rd.head hr1)) hx7 rfl rfl rfl ?_
  refine SO.b2 ?_
  refine SO.storeN Try.sizeOf88 rfl rfl rfl rfl rfl rfl ?_
  refine SO.v rfl (opv_assign rfl) ?_
  refine SO.nil ?_
  refine S.to (ρ' := [(4, bp b2 0), (5, errV 60 none)]) ⟨rfl, rfl, trivial⟩ ?_
  cases h
  refine S.b3 ?_
  refine S.b3 ?_
  refine S.b3 ?_
  refine S.b3 ?_
  exact S.retC1 Try.func35 rfl rfl rfl Try.isAgg88 Try.sizeOf88 rfl rfl (fun w hs hk => hR w _ _ ⟨rfl, rfl⟩ hs.drop hk)
end Go.Proofs
namespace Go.Proofs
open Go.Sl Go.RowKit
/-! 51 (*padstone/desc.Desc).release -/
def desc_Desc_release.f (a0 : desc_Desc) (a1 : word_Store) : Option ((desc_Desc × word_Store)) :=
  (at_ a0.l a0.at_).bind fun x5 => (word_Store_Read.f a1 x5.Cell).bind fun (t8, t9) => (bif t9.isSome then (some true) else (bif decide (a0.mark < 1) then (some true) else (some (t8.Mark != a0.mark)))).bind fun j50_1 => bif j50_1 then (some (({ a0 with at_ := w64 (a0.at_ + 1) } : desc_Desc), a1)) else ((bif a0.status == 1 then (some x5.Write) else (some false)).bind fun c16 => bif c16 then ((desc_Desc_release_2.f a1 x5 ({ a0 with at_ := w64 (a0.at_ + 1) } : desc_Desc)).bind fun (t19, p20) => bif t19.isSome then (none) else (some (({ a0 with at_ := w64 (a0.at_ + 1) } : desc_Desc), p20))) else ((desc_Desc_release_1.f a1 x5 ({ a0 with at_ := w64 (a0.at_ + 1) } : desc_Desc)).bind fun (t26, p27) => bif t26.isSome then (none) else (some (({ a0 with at_ := w64 (a0.at_ + 1) } : desc_Desc), p27))))
set_option maxHeartbeats 8000000 in
set_option maxRecDepth 100000 in
theorem desc_Desc_release.ct (bp0 : Nat) (v0_l : Value) (bp1 : Nat) (v1_l : Value) (a0 : desc_Desc) (a1 : word_Store) (rp0 : desc_Desc) (rp1 : word_Store) (h : desc_Desc_release.f a0 a1 = some (rp0, rp1)) :
    Ct Try.prog 51 [bp bp0 0, bp bp1 0] (fun _ => True) [Box bp0 [.int .i64 a0.mark, v0_l, .int .i64 a0.status, .int .i64 a0.at_], Own 114 ek_tx_Entry v0_l a0.l, Box bp1 [v1_l, .int .u32 a1.limit], Own 88 ek_api_Cell v1_l a1.l] (fun u H' => ∃ rw0_l rw1_l, u = .tuple #[] ∧ H' = [Box bp0 [.int .i64 rp0.mark, rw0_l, .int .i64 rp0.status, .int .i64 rp0.at_], Own 114 ek_tx_Entry rw0_l rp0.l, Box bp1 [rw1_l, .int .u32 rp1.limit], Own 88 ek_api_Cell rw1_l rp1.l]) := by
  unfold desc_Desc_release.f at h
  refine Ct.intro (n := 67) Try.func51 rfl rfl rfl ?_
  intro R w0 F hF hR
  refine S.b1 ?_
  refine S.rd fun hr1 => ?_
  refine S.b3 ?_
  refine S.rd fun hr2 => ?_
  refine S.seq ?_
  refine S.region ?_
  refine SO.box rfl rfl rfl (fun b3 => ?_)
  refine SO.box rfl rfl rfl (fun b4 => ?_)
  refine SO.nil ?_
  refine S.seq ?_
  obtain ⟨x5, hx6, h⟩ := opt_bind h
  refine S.draw2 (Y := fun Q => ∃ (_ _ _ _ _ _ _ _ _ : Unit), Q [(2, bp b3 0), (3, bp b4 0)] [Box b4 [bp bp1 0], Box b3 [bp bp0 0], Own 88 ek_api_Cell v1_l a1.l, Own 114 ek_tx_Entry v0_l a0.l, Box bp0 [.int .i64 a0.mark, v0_l, .int .i64 a0.status, .int .i64 a0.at_], Box bp1 [v1_l, .int .u32 a1.limit], F]) (Z := fun Q => ∀ (_ _ : Unit) (b7 : Nat) (_ _ _ _ _ _ _ : Unit), Q [(2, bp b3 0), (3, bp b4 0), (4, bp b7 0)] [Box b7 [.int .i64 x5.Cell, .int .u32 x5.Version, .int .u64 x5.Old, .int .u64 x5.New, .bool x5.Write], Box b4 [bp bp1 0], Box b3 [bp bp0 0], Own 88 ek_api_Cell v1_l a1.l, Own 114 ek_tx_Entry v0_l a0.l, Box bp0 [.int .i64 a0.mark, v0_l, .int .i64 a0.status, .int .i64 a0.at_], Box bp1 [v1_l, .int .u32 a1.limit], F]) (T := [tS 2 (bp b3 0), tS 3 (bp b4 0), tR (Box b4 [bp bp1 0]), tR (Box b3 [bp bp0 0]), tR (Own 88 ek_api_Cell v1_l a1.l), tR (Own 114 ek_tx_Entry v0_l a0.l), tR (Box bp0 [.int .i64 a0.mark, v0_l, .int .i64 a0.status, .int .i64 a0.at_]), tR (Box bp1 [v1_l, .int .u32 a1.limit]), tR (F), tS 9 (bp bp0 0), tS 10 (bp bp0 0), tS 11 (bp bp0 1), tS 12 (v0_l), tS 13 (bp bp0 0), tS 14 (bp bp0 0), tS 15 (bp bp0 3), tS 16 (.int .i64 a0.at_), tS 17 (idxp v0_l (a0.at_.toNat * ek_tx_Entry.sz)), tS 18 (.agg #[.int .i64 x5.Cell, .int .u32 x5.Version, .int .u64 x5.Old, .int .u64 x5.New, .bool x5.Write]), ⟨Nat, [4], (fun b7 => [(4, bp b7 0)]), (fun b7 => [Box b7 [.int .i64 0, .int .u32 0, .int .u64 0, .int .u64 0, .bool false]]), fun _ => rfl⟩, ⟨Nat, [4], (fun b7 => [(4, bp b7 0)]), (fun b7 => [Box b7 [.int .i64 x5.Cell, .int .u32 x5.Version, .int .u64 x5.Old, .int .u64 x5.New, .bool x5.Write]]), fun _ => rfl⟩]) (D := [⟨[0, 3], [], [9]⟩, ⟨[9], [], [10]⟩, ⟨[10], [], [11]⟩, ⟨[11, 6], [], [12]⟩, ⟨[0, 3], [], [13]⟩, ⟨[13], [], [14]⟩, ⟨[14], [], [15]⟩, ⟨[15, 6], [], [16]⟩, ⟨[12, 16, 5], [], [17]⟩, ⟨[17, 5], [], [18]⟩, ⟨[], [], [19]⟩, ⟨[18], [19], [20]⟩]) (ini := [0, 1, 2, 3, 4, 5, 6, 7, 8]) (fin := [0, 1, 20, 2, 3, 4, 5, 6, 7, 8]) (bf := [[], [0], [0, 1], [0, 1, 2], [], [4], [4, 5], [4, 5, 6], [0, 1, 2, 3, 4, 5, 6, 7], [0, 1, 2, 3, 4, 5, 6, 7, 8], [], [0, 1, 2, 3, 4, 5, 6, 7, 8, 9, 10]]) (by kernel_rfl) (by kernel_rfl) (fun Q => by kernel_rfl) (fun x w h1 h2 => ⟨(), (), (), (), (), (), (), (), (), EnvAll.of h1 ⟨rfl, rfl, trivial⟩, h2⟩) (fun Q => by kernel_rfl) ⟨?_, ?_, ?_, ?_, ?_, ?_, ?_, ?_, ?_, ?_, ?_, ?_, trivial⟩ ?_
  · rintro Fr _ _
    refine SO.load1 rfl Try.isAgg71 rfl rfl ?_
    exact SO.nilZ fun a w h1 h2 h3 h4 h5 => PZ.of h1 h3 h5 (.cons () (.cons () (.cons () (.nil ⟨EnvAll.of h2 ⟨rfl, rfl, trivial⟩, h4⟩))))
  · rintro Fr _
    refine SO.v rfl (opv_nilCheck rfl) ?_
    exact SO.nilZ fun a w h1 h2 h3 h4 h5 => PZ.of h1 h3 h5 (.cons () (.cons () (.nil ⟨EnvAll.of h2 ⟨rfl, rfl, trivial⟩, h4⟩)))
  · rintro Fr _
    refine SO.v rfl (opv_fieldAddr Try.underlying108 rfl Try.sizeOf102 rfl rfl) ?_
    exact SO.nilZ fun a w h1 h2 h3 h4 h5 => PZ.of h1 h3 h5 (.cons () (.cons () (.nil ⟨EnvAll.of h2 ⟨rfl, rfl, trivial⟩, h4⟩)))
  · rintro Fr _ _
    refine SO.load1 rfl Try.isAgg102 rfl rfl ?_
    exact SO.nilZ fun a w h1 h2 h3 h4 h5 => PZ.of h1 h3 h5 (.cons () (.cons () (.cons () (.nil ⟨EnvAll.of h2 ⟨rfl, rfl, trivial⟩, h4⟩))))
  · rintro Fr _ _
    refine SO.load1 rfl Try.isAgg71 rfl rfl ?_
    exact SO.nilZ fun a w h1 h2 h3 h4 h5 => PZ.of h1 h3 h5 (.cons () (.cons () (.cons () (.nil ⟨EnvAll.of h2 ⟨rfl, rfl, trivial⟩, h4⟩))))
  · rintro Fr _
    refine SO.v rfl (opv_nilCheck rfl) ?_
    exact SO.nilZ fun a w h1 h2 h3 h4 h5 => PZ.of h1 h3 h5 (.cons () (.cons () (.nil ⟨EnvAll.of h2 ⟨rfl, rfl, trivial⟩, h4⟩)))
  · rintro Fr _
    refine SO.v rfl (opv_fieldAddr Try.underlying108 rfl Try.sizeOf3 rfl rfl) ?_
    exact SO.nilZ fun a w h1 h2 h3 h4 h5 => PZ.of h1 h3 h5 (.cons () (.cons () (.nil ⟨EnvAll.of h2 ⟨rfl, rfl, trivial⟩, h4⟩)))
  · rintro Fr _ _
    refine SO.load1 rfl Try.isAgg3 rfl rfl ?_
    exact SO.nilZ fun a w h1 h2 h3 h4 h5 => PZ.of h1 h3 h5 (.cons () (.cons () (.cons () (.nil ⟨EnvAll.of h2 ⟨rfl, rfl, trivial⟩, h4⟩))))
  · rintro Fr _ _ _
    refine SO.v rfl (opv_idx Try.underlying102 Try.sizeOf114 hr1 rfl rfl hx6) ?_
    exact SO.nilZ fun a w h1 h2 h3 h4 h5 => PZ.of h1 h3 h5 (.cons () (.cons () (.cons () (.cons () (.nil ⟨EnvAll.of h2 ⟨rfl, rfl, rfl, trivial⟩, h4⟩)))))
  · rintro Fr _ _
    refine SO.loadIN rfl Try.isAgg114 Try.sizeOf114 (Rd.head hr1) hx6 rfl rfl rfl ?_
    exact SO.nilZ fun a w h1 h2 h3 h4 h5 => PZ.of h1 h3 h5 (.cons () (.cons () (.cons () (.nil ⟨EnvAll.of h2 ⟨rfl, rfl, trivial⟩, h4⟩))))
  · rintro Fr 
    refine SO.alloc rfl Try.zeroValue114 rfl (fun b7 => ?_)
    exact SO.nilZ fun a w h1 h2 h3 h4 h5 => PZ.of h1 h3 h5 (.cons b7 (.nil ⟨EnvAll.of h2 ⟨rfl, trivial⟩, h4⟩))
  · rintro Fr _ b7
    refine SO.storeN Try.sizeOf114 rfl rfl rfl rfl rfl rfl ?_
    exact SO.nilZ fun a w h1 h2 h3 h4 h5 => PZ.of h1 h3 h5 (.cons () (.cons b7 (.nil ⟨EnvAll.of h2 ⟨rfl, rfl, trivial⟩, h4⟩)))
  rintro _ _ b7 _ _ _ _ _ _ _
  refine S.to (ρ' := [(2, bp b3 0), (3, bp b4 0), (4, bp b7 0)]) ⟨rfl, rfl, rfl, trivial⟩ ?_
  refine S.seq ?_
  refine S.region ?_
  refine SO.b2 ?_
  refine SO.load1 rfl Try.isAgg71 rfl rfl ?_
  refine SO.v rfl (opv_nilCheck rfl) ?_
  refine SO.v rfl (opv_fieldAddr Try.underlying108 rfl Try.sizeOf3 rfl rfl) ?_
  refine SO.b5 ?_
  refine SO.load1 rfl Try.isAgg3 rfl rfl ?_
  refine SO.v rfl (opv_add rfl rfl) ?_
  refine SO.v rfl (opv_nilCheck rfl) ?_
  refine SO.v rfl (opv_fieldAddr Try.underlying108 rfl Try.sizeOf3 rfl rfl) ?_
  refine SO.store1 Try.sizeOf3 rfl rfl rfl rfl ?_
  refine SO.nil ?_
  refine S.to (ρ' := [(2, bp b3 0), (3, bp b4 0), (4, bp b7 0)]) ⟨rfl, rfl, rfl, trivial⟩ ?_
  refine S.seq ?_
  refine S.seq ?_
  refine S.region ?_
  refine SO.b3 ?_
  refine SO.load1 rfl Try.isAgg27 rfl rfl ?_
  refine SO.v rfl (opv_fieldAddr Try.underlying114 rfl Try.sizeOf3 rfl rfl) ?_
  refine SO.b3 ?_
  refine SO.load1 rfl Try.isAgg3 rfl rfl ?_
  obtain ⟨⟨t8, t9⟩, ht10, h⟩ := opt_bind h
  refine SO.b4 ?_
  refine SO.b6 ?_
  refine SO.call (pre := [Box _ _, Own _ _ _ _]) rfl Try.call35 rfl rfl rfl (word_Store_Read.ct bp1 v1_l _ _ _ _ ht10) trivial ?_
  rintro _ _ ⟨rfl, rfl⟩
  refine SO.v rfl (opv_move rfl) ?_
  refine SO.v rfl (opv_extract rfl rfl) ?_
  refine SO.v rfl (opv_extract rfl rfl) ?_
  refine SO.alloc rfl Try.zeroValue88 rfl (fun b11 => ?_)
  refine SO.storeN Try.sizeOf88 rfl rfl rfl rfl rfl rfl ?_
  refine SO.v rfl (opv_assign rfl) ?_
  refine SO.nil ?_
  refine S.to (ρ' := [(2, bp b3 0), (3, bp b4 0), (4, bp b7 0), (5, bp b11 0), (6, errV 60 t9)]) ⟨rfl, rfl, rfl, rfl, rfl, trivial⟩ ?_
  refine S.seq ?_
  obtain ⟨j50_1, hC1, hJ1⟩ := opt_bind h
  clear h
  refine S.cutP (G := Unit) (fun _ => True) (fun _ => [(2, bp b3 0), (3, bp b4 0), (4, bp b7 0), (50, .bool j50_1)]) (fun _ => [Box b11 [.int .u64 t8.Value, .int .u32 t8.Version, .int .i64 t8.Mark], Box bp1 [v1_l, .int .u32 a1.limit], Own 88 ek_api_Cell v1_l a1.l, Box b7 [.int .i64 x5.Cell, .int .u32 x5.Version, .int .u64 x5.Old, .int .u64 x5.New, .bool x5.Write], Box b4 [bp bp1 0], Box bp0 [.int .i64 a0.mark, v0_l, .int .i64 a0.status, .int .i64 (w64 (a0.at_ + 1))], Box b3 [bp bp0 0], Own 114 ek_tx_Entry v0_l a0.l, F]) (fun hk1 => ?_) ?_
  · replace h := hC1
    rcases bool_or t9.isSome with b12 | b12
    · replace h := cond_t b12 h
      refine S.draw2 (Y := fun Q => ∃ (_ _ _ _ _ _ _ _ _ _ _ _ _ : Unit), Q [(6, errV 60 t9), (2, bp b3 0), (5, bp b11 0), (3, bp b4 0), (4, bp b7 0)] [Box b11 [.int .u64 t8.Value, .int .u32 t8.Version, .int .i64 t8.Mark], Box bp1 [v1_l, .int .u32 a1.limit], Own 88 ek_api_Cell v1_l a1.l, Box b7 [.int .i64 x5.Cell, .int .u32 x5.Version, .int .u64 x5.Old, .int .u64 x5.New, .bool x5.Write], Box b4 [bp bp1 0], Box bp0 [.int .i64 a0.mark, v0_l, .int .i64 a0.status, .int .i64 (w64 (a0.at_ + 1))], Box b3 [bp bp0 0], Own 114 ek_tx_Entry v0_l a0.l, F]) (Z := fun Q => ∀ (_ _ _ _ _ _ _ _ _ _ _ _ : Unit), Q [(2, bp b3 0), (3, bp b4 0), (4, bp b7 0), (50, .bool true)] [Box b11 [.int .u64 t8.Value, .int .u32 t8.Version, .int .i64 t8.Mark], Box bp1 [v1_l, .int .u32 a1.limit], Own 88 ek_api_Cell v1_l a1.l, Box b7 [.int .i64 x5.Cell, .int .u32 x5.Version, .int .u64 x5.Old, .int .u64 x5.New, .bool x5.Write], Box b4 [bp bp1 0], Box bp0 [.int .i64 a0.mark, v0_l, .int .i64 a0.status, .int .i64 (w64 (a0.at_ + 1))], Box b3 [bp bp0 0], Own 114 ek_tx_Entry v0_l a0.l, F]) (T := [tS 6 (errV 60 t9), tS 2 (bp b3 0), tS 5 (bp b11 0), tE [(3, bp b4 0), (4, bp b7 0)], tR (Box b11 [.int .u64 t8.Value, .int .u32 t8.Version, .int .i64 t8.Mark]), tR (Box bp1 [v1_l, .int .u32 a1.limit]), tR (Own 88 ek_api_Cell v1_l a1.l), tR (Box b7 [.int .i64 x5.Cell, .int .u32 x5.Version, .int .u64 x5.Old, .int .u64 x5.New, .bool x5.Write]), tR (Box b4 [bp bp1 0]), tR (Box bp0 [.int .i64 a0.mark, v0_l, .int .i64 a0.status, .int .i64 (w64 (a0.at_ + 1))]), tR (Box b3 [bp bp0 0]), tR (Own 114 ek_tx_Entry v0_l a0.l), tR (F), tS 33 (errV 60 t9), tS 34 (.bool t9.isSome), tS 35 (.bool t9.isSome), tS 36 (undef), tS 37 (undef), tS 38 (undef), tS 39 (undef), tS 40 (undef), tS 41 (.bool true), tS 42 (.bool true), tS 43 (undef), tS 44 (undef), tS 45 (undef), tS 46 (undef), tS 47 (undef), tS 48 (undef), tS 49 (undef), tS 50 (.bool true)]) (D := [⟨[0], [], [13]⟩, ⟨[13], [], [14]⟩, ⟨[14], [], [15]⟩, ⟨[15], [], [16]⟩, ⟨[15], [], [17]⟩, ⟨[15], [], [18]⟩, ⟨[15], [], [19]⟩, ⟨[15], [], [20]⟩, ⟨[15, 20], [], [21]⟩, ⟨[21], [], [22]⟩, ⟨[22], [], [23]⟩, ⟨[22], [], [24]⟩, ⟨[22], [], [25]⟩, ⟨[22], [], [26]⟩, ⟨[22], [], [27]⟩, ⟨[22], [], [28]⟩, ⟨[22], [], [29]⟩, ⟨[22, 29], [], [30]⟩]) (ini := [0, 1, 2, 3, 4, 5, 6, 7, 8, 9, 10, 11, 12]) (fin := [1, 3, 30, 4, 5, 6, 7, 8, 9, 10, 11, 12]) (bf := [[], [0], [0, 1], [0, 1, 2], [0, 1, 2, 3], [0, 1, 2, 3, 4], [0, 1, 2, 3, 4, 5], [0, 1, 2, 3, 4, 5, 6], [0, 1, 2, 3, 4, 5, 6, 7], [0, 1, 2, 3, 4, 5, 6, 7, 8], [0, 1, 2, 3, 4, 5, 6, 7, 8, 9], [0, 1, 2, 3, 4, 5, 6, 7, 8, 9, 10], [0, 1, 2, 3, 4, 5, 6, 7, 8, 9], [0, 1, 2, 3, 4, 5, 6, 7, 8, 9, 12], [0, 1, 2, 3, 4, 5, 6, 7, 8, 9, 12, 13], [0, 1, 2, 3, 4, 5, 6, 7, 8, 9, 12, 13, 14], [0, 1, 2, 3, 4, 5, 6, 7, 8, 9, 10, 11, 12, 13, 14, 15], [0, 1, 2, 3, 4, 5, 6, 7, 8, 9, 10, 11, 12, 13, 14, 15, 16]]) (by kernel_rfl) (by kernel_rfl) (fun Q => by kernel_rfl) (fun x w h1 h2 => ⟨(), (), (), (), (), (), (), (), (), (), (), (), (), EnvAll.of h1 ⟨rfl, rfl, rfl, rfl, rfl, trivial⟩, h2⟩) (fun Q => by kernel_rfl) ⟨?_, ?_, ?_, ?_, ?_, ?_, ?_, ?_, ?_, ?_, ?_, ?_, ?_, ?_, ?_, ?_, ?_, ?_, trivial⟩ ?_
      · rintro Fr _
        refine SO.v rfl (opv_move rfl) ?_
        exact SO.nilZ fun a w h1 h2 h3 h4 h5 => PZ.of h1 h3 h5 (.cons () (.cons () (.nil ⟨EnvAll.of h2 ⟨rfl, rfl, trivial⟩, h4⟩)))
      · rintro Fr _
        refine SO.v rfl (opv_neqN (e := t9) Try.underlying29 rfl) ?_
        exact SO.nilZ fun a w h1 h2 h3 h4 h5 => PZ.of h1 h3 h5 (.cons () (.cons () (.nil ⟨EnvAll.of h2 ⟨rfl, rfl, trivial⟩, h4⟩)))
      · rintro Fr _
        refine SO.v rfl (opv_move rfl) ?_
        exact SO.nilZ fun a w h1 h2 h3 h4 h5 => PZ.of h1 h3 h5 (.cons () (.cons () (.nil ⟨EnvAll.of h2 ⟨rfl, rfl, trivial⟩, h4⟩)))
      · rintro Fr _
        refine SO.passF rfl rfl rfl b12 rfl rfl ?_
        exact SO.nilZ fun a w h1 h2 h3 h4 h5 => PZ.of h1 h3 h5 (.cons () (.cons () (.nil ⟨EnvAll.of h2 ⟨rfl, rfl, trivial⟩, h4⟩)))
      · rintro Fr _
        refine SO.passF rfl rfl rfl b12 rfl rfl ?_
        exact SO.nilZ fun a w h1 h2 h3 h4 h5 => PZ.of h1 h3 h5 (.cons () (.cons () (.nil ⟨EnvAll.of h2 ⟨rfl, rfl, trivial⟩, h4⟩)))
      · rintro Fr _
        refine SO.passF rfl rfl rfl b12 rfl rfl ?_
        exact SO.nilZ fun a w h1 h2 h3 h4 h5 => PZ.of h1 h3 h5 (.cons () (.cons () (.nil ⟨EnvAll.of h2 ⟨rfl, rfl, trivial⟩, h4⟩)))
      · rintro Fr _
        refine SO.passF rfl rfl rfl b12 rfl rfl ?_
        exact SO.nilZ fun a w h1 h2 h3 h4 h5 => PZ.of h1 h3 h5 (.cons () (.cons () (.nil ⟨EnvAll.of h2 ⟨rfl, rfl, trivial⟩, h4⟩)))
      · rintro Fr _
        refine SO.passF rfl rfl rfl b12 rfl rfl ?_
        exact SO.nilZ fun a w h1 h2 h3 h4 h5 => PZ.of h1 h3 h5 (.cons () (.cons () (.nil ⟨EnvAll.of h2 ⟨rfl, rfl, trivial⟩, h4⟩)))
      · rintro Fr _ _
        refine SO.v rfl (opv_pick_t' b12 rfl rfl) ?_
        exact SO.nilZ fun a w h1 h2 h3 h4 h5 => PZ.of h1 h3 h5 (.cons () (.cons () (.cons () (.nil ⟨EnvAll.of h2 ⟨rfl, rfl, rfl, trivial⟩, h4⟩))))
      · rintro Fr _
        refine SO.v rfl (opv_move rfl) ?_
        exact SO.nilZ fun a w h1 h2 h3 h4 h5 => PZ.of h1 h3 h5 (.cons () (.cons () (.nil ⟨EnvAll.of h2 ⟨rfl, rfl, trivial⟩, h4⟩)))
      · rintro Fr _
        refine SO.passF rfl rfl rfl rfl rfl rfl ?_
        exact SO.nilZ fun a w h1 h2 h3 h4 h5 => PZ.of h1 h3 h5 (.cons () (.cons () (.nil ⟨EnvAll.of h2 ⟨rfl, rfl, trivial⟩, h4⟩)))
      · rintro Fr _
        refine SO.passF rfl rfl rfl rfl rfl rfl ?_
        exact SO.nilZ fun a w h1 h2 h3 h4 h5 => PZ.of h1 h3 h5 (.cons () (.cons () (.nil ⟨EnvAll.of h2 ⟨rfl, rfl, trivial⟩, h4⟩)))
      · rintro Fr _
        refine SO.passF rfl rfl rfl rfl rfl rfl ?_
        exact SO.nilZ fun a w h1 h2 h3 h4 h5 => PZ.of h1 h3 h5 (.cons () (.cons () (.nil ⟨EnvAll.of h2 ⟨rfl, rfl, trivial⟩, h4⟩)))
      · rintro Fr _
        refine SO.passF rfl rfl rfl rfl rfl rfl ?_
        exact SO.nilZ fun a w h1 h2 h3 h4 h5 => PZ.of h1 h3 h5 (.cons () (.cons () (.nil ⟨EnvAll.of h2 ⟨rfl, rfl, trivial⟩, h4⟩)))
      · rintro Fr _
        refine SO.passF rfl rfl rfl rfl rfl rfl ?_
        exact SO.nilZ fun a w h1 h2 h3 h4 h5 => PZ.of h1 h3 h5 (.cons () (.cons () (.nil ⟨EnvAll.of h2 ⟨rfl, rfl, trivial⟩, h4⟩)))
      · rintro Fr _
        refine SO.passF rfl rfl rfl rfl rfl rfl ?_
        exact SO.nilZ fun a w h1 h2 h3 h4 h5 => PZ.of h1 h3 h5 (.cons () (.cons () (.nil ⟨EnvAll.of h2 ⟨rfl, rfl, trivial⟩, h4⟩)))
      · rintro Fr _
        refine SO.passF rfl rfl rfl rfl rfl rfl ?_
        exact SO.nilZ fun a w h1 h2 h3 h4 h5 => PZ.of h1 h3 h5 (.cons () (.cons () (.nil ⟨EnvAll.of h2 ⟨rfl, rfl, trivial⟩, h4⟩)))
      · rintro Fr _ _
        refine SO.v rfl (opv_pick_tt rfl rfl) ?_
        exact SO.nilZ fun a w h1 h2 h3 h4 h5 => PZ.of h1 h3 h5 (.cons () (.cons () (.cons () (.nil ⟨EnvAll.of h2 ⟨rfl, rfl, rfl, trivial⟩, h4⟩))))
      rintro _ _ _ _ _ _ _ _ _ _ _ _
      refine S.to (ρ' := [(2, bp b3 0), (3, bp b4 0), (4, bp b7 0), (50, .bool true)]) ⟨rfl, rfl, rfl, rfl, trivial⟩ ?_
      cases h
      refine S.b8 ?_
      refine S.b8 ?_
      refine S.b8 ?_
      refine S.b8 ?_
      refine S.b8 ?_
      refine S.b8 ?_
      refine S.b8 ?_
      refine S.b8 ?_
      refine S.b8 ?_
      refine S.to ?_ (hk1 () trivial)
      exact ⟨rfl, rfl, rfl, rfl, trivial⟩
    replace h := cond_f b12 h
    rcases bool_or (decide (a0.mark < 1)) with b13 | b13
    · replace h := cond_t b13 h
      refine S.draw2 (Y := fun Q => ∃ (_ _ _ _ _ _ _ _ _ _ _ _ _ : Unit), Q [(6, errV 60 t9), (2, bp b3 0), (5, bp b11 0), (3, bp b4 0), (4, bp b7 0)] [Box b11 [.int .u64 t8.Value, .int .u32 t8.Version, .int .i64 t8.Mark], Box bp1 [v1_l, .int .u32 a1.limit], Own 88 ek_api_Cell v1_l a1.l, Box b7 [.int .i64 x5.Cell, .int .u32 x5.Version, .int .u64 x5.Old, .int .u64 x5.New, .bool x5.Write], Box b4 [bp bp1 0], Box bp0 [.int .i64 a0.mark, v0_l, .int .i64 a0.status, .int .i64 (w64 (a0.at_ + 1))], Box b3 [bp bp0 0], Own 114 ek_tx_Entry v0_l a0.l, F]) (Z := fun Q => ∀ (_ _ _ _ _ _ _ _ _ _ _ _ : Unit), Q [(2, bp b3 0), (3, bp b4 0), (4, bp b7 0), (50, .bool true)] [Box b11 [.int .u64 t8.Value, .int .u32 t8.Version, .int .i64 t8.Mark], Box bp1 [v1_l, .int .u32 a1.limit], Own 88 ek_api_Cell v1_l a1.l, Box b7 [.int .i64 x5.Cell, .int .u32 x5.Version, .int .u64 x5.Old, .int .u64 x5.New, .bool x5.Write], Box b4 [bp bp1 0], Box bp0 [.int .i64 a0.mark, v0_l, .int .i64 a0.status, .int .i64 (w64 (a0.at_ + 1))], Box b3 [bp bp0 0], Own 114 ek_tx_Entry v0_l a0.l, F]) (T := [tS 6 (errV 60 t9), tS 2 (bp b3 0), tS 5 (bp b11 0), tE [(3, bp b4 0), (4, bp b7 0)], tR (Box b11 [.int .u64 t8.Value, .int .u32 t8.Version, .int .i64 t8.Mark]), tR (Box bp1 [v1_l, .int .u32 a1.limit]), tR (Own 88 ek_api_Cell v1_l a1.l), tR (Box b7 [.int .i64 x5.Cell, .int .u32 x5.Version, .int .u64 x5.Old, .int .u64 x5.New, .bool x5.Write]), tR (Box b4 [bp bp1 0]), tR (Box bp0 [.int .i64 a0.mark, v0_l, .int .i64 a0.status, .int .i64 (w64 (a0.at_ + 1))]), tR (Box b3 [bp bp0 0]), tR (Own 114 ek_tx_Entry v0_l a0.l), tR (F), tS 33 (errV 60 t9), tS 34 (.bool t9.isSome), tS 35 (.bool t9.isSome), tS 36 (bp bp0 0), tS 37 (bp bp0 0), tS 38 (bp bp0 0), tS 39 (.int .i64 a0.mark), tS 40 (.bool (decide (a0.mark < 1))), tS 41 (.bool (decide (a0.mark < 1))), tS 42 (.bool (decide (a0.mark < 1))), tS 43 (undef), tS 44 (undef), tS 45 (undef), tS 46 (undef), tS 47 (undef), tS 48 (undef), tS 49 (undef), tS 50 (.bool true)]) (D := [⟨[0], [], [13]⟩, ⟨[13], [], [14]⟩, ⟨[14], [], [15]⟩, ⟨[1, 15, 10], [], [16]⟩, ⟨[15, 16], [], [17]⟩, ⟨[15, 17], [], [18]⟩, ⟨[15, 18, 9], [], [19]⟩, ⟨[15, 19], [], [20]⟩, ⟨[15, 20], [], [21]⟩, ⟨[21], [], [22]⟩, ⟨[22], [], [23]⟩, ⟨[22], [], [24]⟩, ⟨[22], [], [25]⟩, ⟨[22], [], [26]⟩, ⟨[22], [], [27]⟩, ⟨[22], [], [28]⟩, ⟨[22], [], [29]⟩, ⟨[22, 29], [], [30]⟩]) (ini := [0, 1, 2, 3, 4, 5, 6, 7, 8, 9, 10, 11, 12]) (fin := [1, 3, 30, 4, 5, 6, 7, 8, 9, 10, 11, 12]) (bf := [[], [0], [0, 1], [0, 1, 2], [0, 1, 2, 3], [0, 1, 2, 3, 4], [0, 1, 2, 3, 4, 5], [0, 1, 2, 3, 4, 5, 6], [0, 1, 2, 3, 4, 5, 6, 7], [0, 1, 2, 3, 4, 5, 6, 7, 8], [0, 1, 2, 3, 4, 5, 6, 7, 8, 9], [0, 1, 2, 3, 4, 5, 6, 7, 8, 9, 10], [0, 1, 2, 3, 4, 5, 6, 7, 8, 9], [0, 1, 2, 3, 4, 5, 6, 7, 8, 9, 12], [0, 1, 2, 3, 4, 5, 6, 7, 8, 9, 12, 13], [0, 1, 2, 3, 4, 5, 6, 7, 8, 9, 12, 13, 14], [0, 1, 2, 3, 4, 5, 6, 7, 8, 9, 10, 11, 12, 13, 14, 15], [0, 1, 2, 3, 4, 5, 6, 7, 8, 9, 10, 11, 12, 13, 14, 15, 16]]) (by kernel_rfl) (by kernel_rfl) (fun Q => by kernel_rfl) (fun x w h1 h2 => ⟨(), (), (), (), (), (), (), (), (), (), (), (), (), EnvAll.of h1 ⟨rfl, rfl, rfl, rfl, rfl, trivial⟩, h2⟩) (fun Q => by kernel_rfl) ⟨?_, ?_, ?_, ?_, ?_, ?_, ?_, ?_, ?_, ?_, ?_, ?_, ?_, ?_, ?_, ?_, ?_, ?_, trivial⟩ ?_
      · rintro Fr _
        refine SO.v rfl (opv_move rfl) ?_
        exact SO.nilZ fun a w h1 h2 h3 h4 h5 => PZ.of h1 h3 h5 (.cons () (.cons () (.nil ⟨EnvAll.of h2 ⟨rfl, rfl, trivial⟩, h4⟩)))
      · rintro Fr _
        refine SO.v rfl (opv_neqN (e := t9) Try.underlying29 rfl) ?_
        exact SO.nilZ fun a w h1 h2 h3 h4 h5 => PZ.of h1 h3 h5 (.cons () (.cons () (.nil ⟨EnvAll.of h2 ⟨rfl, rfl, trivial⟩, h4⟩)))
      · rintro Fr _
        refine SO.v rfl (opv_move rfl) ?_
        exact SO.nilZ fun a w h1 h2 h3 h4 h5 => PZ.of h1 h3 h5 (.cons () (.cons () (.nil ⟨EnvAll.of h2 ⟨rfl, rfl, trivial⟩, h4⟩)))
      · rintro Fr _ _ _
        refine SO.takeT rfl rfl rfl b12 ?_
        refine SO.load1 rfl Try.isAgg71 rfl rfl ?_
        exact SO.nilZ fun a w h1 h2 h3 h4 h5 => PZ.of h1 h3 h5 (.cons () (.cons () (.cons () (.cons () (.nil ⟨EnvAll.of h2 ⟨rfl, rfl, rfl, trivial⟩, h4⟩)))))
      · rintro Fr _ _
        refine SO.takeT rfl rfl rfl b12 ?_
        refine SO.v rfl (opv_nilCheck rfl) ?_
        exact SO.nilZ fun a w h1 h2 h3 h4 h5 => PZ.of h1 h3 h5 (.cons () (.cons () (.cons () (.nil ⟨EnvAll.of h2 ⟨rfl, rfl, rfl, trivial⟩, h4⟩))))
      · rintro Fr _ _
        refine SO.takeT rfl rfl rfl b12 ?_
        refine SO.v rfl (opv_fieldAddr Try.underlying108 rfl Try.sizeOf3 rfl rfl) ?_
        exact SO.nilZ fun a w h1 h2 h3 h4 h5 => PZ.of h1 h3 h5 (.cons () (.cons () (.cons () (.nil ⟨EnvAll.of h2 ⟨rfl, rfl, rfl, trivial⟩, h4⟩))))
      · rintro Fr _ _ _
        refine SO.takeT rfl rfl rfl b12 ?_
        refine SO.load1 rfl Try.isAgg3 rfl rfl ?_
        exact SO.nilZ fun a w h1 h2 h3 h4 h5 => PZ.of h1 h3 h5 (.cons () (.cons () (.cons () (.cons () (.nil ⟨EnvAll.of h2 ⟨rfl, rfl, rfl, trivial⟩, h4⟩)))))
      · rintro Fr _ _
        refine SO.takeT rfl rfl rfl b12 ?_
        refine SO.v rfl (opv_lss rfl rfl) ?_
        exact SO.nilZ fun a w h1 h2 h3 h4 h5 => PZ.of h1 h3 h5 (.cons () (.cons () (.cons () (.nil ⟨EnvAll.of h2 ⟨rfl, rfl, rfl, trivial⟩, h4⟩))))
      · rintro Fr _ _
        refine SO.v rfl (opv_pick_f' b12 rfl rfl) ?_
        exact SO.nilZ fun a w h1 h2 h3 h4 h5 => PZ.of h1 h3 h5 (.cons () (.cons () (.cons () (.nil ⟨EnvAll.of h2 ⟨rfl, rfl, rfl, trivial⟩, h4⟩))))
      · rintro Fr _
        refine SO.v rfl (opv_move rfl) ?_
        exact SO.nilZ fun a w h1 h2 h3 h4 h5 => PZ.of h1 h3 h5 (.cons () (.cons () (.nil ⟨EnvAll.of h2 ⟨rfl, rfl, trivial⟩, h4⟩)))
      · rintro Fr _
        refine SO.passF rfl rfl rfl b13 rfl rfl ?_
        exact SO.nilZ fun a w h1 h2 h3 h4 h5 => PZ.of h1 h3 h5 (.cons () (.cons () (.nil ⟨EnvAll.of h2 ⟨rfl, rfl, trivial⟩, h4⟩)))
      · rintro Fr _
        refine SO.passF rfl rfl rfl b13 rfl rfl ?_
        exact SO.nilZ fun a w h1 h2 h3 h4 h5 => PZ.of h1 h3 h5 (.cons () (.cons () (.nil ⟨EnvAll.of h2 ⟨rfl, rfl, trivial⟩, h4⟩)))
      · rintro Fr _
        refine SO.passF rfl rfl rfl b13 rfl rfl ?_
        exact SO.nilZ fun a w h1 h2 h3 h4 h5 => PZ.of h1 h3 h5 (.cons () (.cons () (.nil ⟨EnvAll.of h2 ⟨rfl, rfl, trivial⟩, h4⟩)))
      · rintro Fr _
        refine SO.passF rfl rfl rfl b13 rfl rfl ?_
        exact SO.nilZ fun a w h1 h2 h3 h4 h5 => PZ.of h1 h3 h5 (.cons () (.cons () (.nil ⟨EnvAll.of h2 ⟨rfl, rfl, trivial⟩, h4⟩)))
      · rintro Fr _
        refine SO.passF rfl rfl rfl b13 rfl rfl ?_
        exact SO.nilZ fun a w h1 h2 h3 h4 h5 => PZ.of h1 h3 h5 (.cons () (.cons () (.nil ⟨EnvAll.of h2 ⟨rfl, rfl, trivial⟩, h4⟩)))
      · rintro Fr _
        refine SO.passF rfl rfl rfl b13 rfl rfl ?_
        exact SO.nilZ fun a w h1 h2 h3 h4 h5 => PZ.of h1 h3 h5 (.cons () (.cons () (.nil ⟨EnvAll.of h2 ⟨rfl, rfl, trivial⟩, h4⟩)))
      · rintro Fr _
        refine SO.passF rfl rfl rfl b13 rfl rfl ?_
        exact SO.nilZ fun a w h1 h2 h3 h4 h5 => PZ.of h1 h3 h5 (.cons () (.cons () (.nil ⟨EnvAll.of h2 ⟨rfl, rfl, trivial⟩, h4⟩)))
      · rintro Fr _ _
        refine SO.v rfl (opv_pick_t' b13 rfl rfl) ?_
        exact SO.nilZ fun a w h1 h2 h3 h4 h5 => PZ.of h1 h3 h5 (.cons () (.cons () (.cons () (.nil ⟨EnvAll.of h2 ⟨rfl, rfl, rfl, trivial⟩, h4⟩))))
      rintro _ _ _ _ _ _ _ _ _ _ _ _
      refine S.to (ρ' := [(2, bp b3 0), (3, bp b4 0), (4, bp b7 0), (50, .bool true)]) ⟨rfl, rfl, rfl, rfl, trivial⟩ ?_
      cases h
      refine S.b8 ?_
      refine S.b8 ?_
      refine S.b8 ?_
      refine S.b8 ?_
      refine S.b8 ?_
      refine S.b8 ?_
      refine S.b8 ?_
      refine S.b8 ?_
      refine S.b8 ?_
      refine S.to ?_ (hk1 () trivial)
      exact ⟨rfl, rfl, rfl, rfl, trivial⟩
    replace h := cond_f b13 h
    refine S.draw2 (Y := fun Q => ∃ (_ _ _ _ _ _ _ _ _ _ _ _ _ : Unit), Q [(6, errV 60 t9), (2, bp b3 0), (5, bp b11 0), (3, bp b4 0), (4, bp b7 0)] [Box b11 [.int .u64 t8.Value, .int .u32 t8.Version, .int .i64 t8.Mark], Box bp1 [v1_l, .int .u32 a1.limit], Own 88 ek_api_Cell v1_l a1.l, Box b7 [.int .i64 x5.Cell, .int .u32 x5.Version, .int .u64 x5.Old, .int .u64 x5.New, .bool x5.Write], Box b4 [bp bp1 0], Box bp0 [.int .i64 a0.mark, v0_l, .int .i64 a0.status, .int .i64 (w64 (a0.at_ + 1))], Box b3 [bp bp0 0], Own 114 ek_tx_Entry v0_l a0.l, F]) (Z := fun Q => ∀ (_ _ _ _ _ _ _ _ _ _ _ _ : Unit), Q [(2, bp b3 0), (3, bp b4 0), (4, bp b7 0), (50, .bool (t8.Mark != a0.mark))] [Box b11 [.int .u64 t8.Value, .int .u32 t8.Version, .int .i64 t8.Mark], Box bp1 [v1_l, .int .u32 a1.limit], Own 88 ek_api_Cell v1_l a1.l, Box b7 [.int .i64 x5.Cell, .int .u32 x5.Version, .int .u64 x5.Old, .int .u64 x5.New, .bool x5.Write], Box b4 [bp bp1 0], Box bp0 [.int .i64 a0.mark, v0_l, .int .i64 a0.status, .int .i64 (w64 (a0.at_ + 1))], Box b3 [bp bp0 0], Own 114 ek_tx_Entry v0_l a0.l, F]) (T := [tS 6 (errV 60 t9), tS 2 (bp b3 0), tS 5 (bp b11 0), tE [(3, bp b4 0), (4, bp b7 0)], tR (Box b11 [.int .u64 t8.Value, .int .u32 t8.Version, .int .i64 t8.Mark]), tR (Box bp1 [v1_l, .int .u32 a1.limit]), tR (Own 88 ek_api_Cell v1_l a1.l), tR (Box b7 [.int .i64 x5.Cell, .int .u32 x5.Version, .int .u64 x5.Old, .int .u64 x5.New, .bool x5.Write]), tR (Box b4 [bp bp1 0]), tR (Box bp0 [.int .i64 a0.mark, v0_l, .int .i64 a0.status, .int .i64 (w64 (a0.at_ + 1))]), tR (Box b3 [bp bp0 0]), tR (Own 114 ek_tx_Entry v0_l a0.l), tR (F), tS 33 (errV 60 t9), tS 34 (.bool t9.isSome), tS 35 (.bool t9.isSome), tS 36 (bp bp0 0), tS 37 (bp bp0 0), tS 38 (bp bp0 0), tS 39 (.int .i64 a0.mark), tS 40 (.bool (decide (a0.mark < 1))), tS 41 (.bool (decide (a0.mark < 1))), tS 42 (.bool (decide (a0.mark < 1))), tS 43 (bp b11 2), tS 44 (.int .i64 t8.Mark), tS 45 (bp bp0 0), tS 46 (bp bp0 0), tS 47 (bp bp0 0), tS 48 (.int .i64 a0.mark), tS 49 (.bool (t8.Mark != a0.mark)), tS 50 (.bool (t8.Mark != a0.mark))]) (D := [⟨[0], [], [13]⟩, ⟨[13], [], [14]⟩, ⟨[14], [], [15]⟩, ⟨[1, 15, 10], [], [16]⟩, ⟨[15, 16], [], [17]⟩, ⟨[15, 17], [], [18]⟩, ⟨[15, 18, 9], [], [19]⟩, ⟨[15, 19], [], [20]⟩, ⟨[15, 20], [], [21]⟩, ⟨[21], [], [22]⟩, ⟨[2, 22], [], [23]⟩, ⟨[22, 23, 4], [], [24]⟩, ⟨[1, 22, 10], [], [25]⟩, ⟨[22, 25], [], [26]⟩, ⟨[22, 26], [], [27]⟩, ⟨[22, 27, 9], [], [28]⟩, ⟨[22, 24, 28], [], [29]⟩, ⟨[22, 29], [], [30]⟩]) (ini := [0, 1, 2, 3, 4, 5, 6, 7, 8, 9, 10, 11, 12]) (fin := [1, 3, 30, 4, 5, 6, 7, 8, 9, 10, 11, 12]) (bf := [[], [0], [0, 1], [0, 1, 2], [0, 1, 2, 3], [0, 1, 2, 3, 4], [0, 1, 2, 3, 4, 5], [0, 1, 2, 3, 4, 5, 6], [0, 1, 2, 3, 4, 5, 6, 7], [0, 1, 2, 3, 4, 5, 6, 7, 8], [0, 1, 2, 3, 4, 5, 6, 7, 8, 9], [0, 1, 2, 3, 4, 5, 6, 7, 8, 9, 10], [0, 1, 2, 3, 4, 5, 6, 7, 8, 9], [0, 1, 2, 3, 4, 5, 6, 7, 8, 9, 12], [0, 1, 2, 3, 4, 5, 6, 7, 8, 9, 12, 13], [0, 1, 2, 3, 4, 5, 6, 7, 8, 9, 12, 13, 14], [0, 1, 2, 3, 4, 5, 6, 7, 8, 9, 10, 11, 12, 13, 14, 15], [0, 1, 2, 3, 4, 5, 6, 7, 8, 9, 10, 11, 12, 13, 14, 15, 16]]) (by kernel_rfl) (by kernel_rfl) (fun Q => by kernel_rfl) (fun x w h1 h2 => ⟨(), (), (), (), (), (), (), (), (), (), (), (), (), EnvAll.of h1 ⟨rfl, rfl, rfl, rfl, rfl, trivial⟩, h2⟩) (fun Q => by kernel_rfl) ⟨?_, ?_, ?_, ?_, ?_, ?_, ?_, ?_, ?_, ?_, ?_, ?_, ?_, ?_, ?_, ?_, ?_, ?_, trivial⟩ ?_
    · rintro Fr _
      refine SO.v rfl (opv_move rfl) ?_
      exact SO.nilZ fun a w h1 h2 h3 h4 h5 => PZ.of h1 h3 h5 (.cons () (.cons () (.nil ⟨EnvAll.of h2 ⟨rfl, rfl, trivial⟩, h4⟩)))
    · rintro Fr _
      refine SO.v rfl (opv_neqN (e := t9) Try.underlying29 rfl) ?_
      exact SO.nilZ fun a w h1 h2 h3 h4 h5 => PZ.of h1 h3 h5 (.cons () (.cons () (.nil ⟨EnvAll.of h2 ⟨rfl, rfl, trivial⟩, h4⟩)))
    · rintro Fr _
      refine SO.v rfl (opv_move rfl) ?_
      exact SO.nilZ fun a w h1 h2 h3 h4 h5 => PZ.of h1 h3 h5 (.cons () (.cons () (.nil ⟨EnvAll.of h2 ⟨rfl, rfl, trivial⟩, h4⟩)))
    · rintro Fr _ _ _
      refine SO.takeT rfl rfl rfl b12 ?_
      refine SO.load1 rfl Try.isAgg71 rfl rfl ?_
      exact SO.nilZ fun a w h1 h2 h3 h4 h5 => PZ.of h1 h3 h5 (.cons () (.cons () (.cons () (.cons () (.nil ⟨EnvAll.of h2 ⟨rfl, rfl, rfl, trivial⟩, h4⟩)))))
    · rintro Fr _ _
      refine SO.takeT rfl rfl rfl b12 ?_
      refine SO.v rfl (opv_nilCheck rfl) ?_
      exact SO.nilZ fun a w h1 h2 h3 h4 h5 => PZ.of h1 h3 h5 (.cons () (.cons () (.cons () (.nil ⟨EnvAll.of h2 ⟨rfl, rfl, rfl, trivial⟩, h4⟩))))
    · rintro Fr _ _
      refine SO.takeT rfl rfl rfl b12 ?_
      refine SO.v rfl (opv_fieldAddr Try.underlying108 rfl Try.sizeOf3 rfl rfl) ?_
      exact SO.nilZ fun a w h1 h2 h3 h4 h5 => PZ.of h1 h3 h5 (.cons () (.cons () (.cons () (.nil ⟨EnvAll.of h2 ⟨rfl, rfl, rfl, trivial⟩, h4⟩))))
    · rintro Fr _ _ _
      refine SO.takeT rfl rfl rfl b12 ?_
      refine SO.load1 rfl Try.isAgg3 rfl rfl ?_
      exact SO.nilZ fun a w h1 h2 h3 h4 h5 => PZ.of h1 h3 h5 (.cons () (.cons () (.cons () (.cons () (.nil ⟨EnvAll.of h2 ⟨rfl, rfl, rfl, trivial⟩, h4⟩)))))
    · rintro Fr _ _
      refine SO.takeT rfl rfl rfl b12 ?_
      refine SO.v rfl (opv_lss rfl rfl) ?_
      exact SO.nilZ fun a w h1 h2 h3 h4 h5 => PZ.of h1 h3 h5 (.cons () (.cons () (.cons () (.nil ⟨EnvAll.of h2 ⟨rfl, rfl, rfl, trivial⟩, h4⟩))))
    · rintro Fr _ _
      refine SO.v rfl (opv_pick_f' b12 rfl rfl) ?_
      exact SO.nilZ fun a w h1 h2 h3 h4 h5 => PZ.of h1 h3 h5 (.cons () (.cons () (.cons () (.nil ⟨EnvAll.of h2 ⟨rfl, rfl, rfl, trivial⟩, h4⟩))))
    · rintro Fr _
      refine SO.v rfl (opv_move rfl) ?_
      exact SO.nilZ fun a w h1 h2 h3 h4 h5 => PZ.of h1 h3 h5 (.cons () (.cons () (.nil ⟨EnvAll.of h2 ⟨rfl, rfl, trivial⟩, h4⟩)))
    · rintro Fr _ _
      refine SO.takeT rfl rfl rfl b13 ?_
      refine SO.v rfl (opv_fieldAddr Try.underlying88 rfl Try.sizeOf3 rfl rfl) ?_
      exact SO.nilZ fun a w h1 h2 h3 h4 h5 => PZ.of h1 h3 h5 (.cons () (.cons () (.cons () (.nil ⟨EnvAll.of h2 ⟨rfl, rfl, rfl, trivial⟩, h4⟩))))
    · rintro Fr _ _ _
      refine SO.takeT rfl rfl rfl b13 ?_
      refine SO.load1 rfl Try.isAgg3 rfl rfl ?_
      exact SO.nilZ fun a w h1 h2 h3 h4 h5 => PZ.of h1 h3 h5 (.cons () (.cons () (.cons () (.cons () (.nil ⟨EnvAll.of h2 ⟨rfl, rfl, rfl, trivial⟩, h4⟩)))))
    · rintro Fr _ _ _
      refine SO.takeT rfl rfl rfl b13 ?_
      refine SO.load1 rfl Try.isAgg71 rfl rfl ?_
      exact SO.nilZ fun a w h1 h2 h3 h4 h5 => PZ.of h1 h3 h5 (.cons () (.cons () (.cons () (.cons () (.nil ⟨EnvAll.of h2 ⟨rfl, rfl, rfl, trivial⟩, h4⟩)))))
    · rintro Fr _ _
      refine SO.takeT rfl rfl rfl b13 ?_
      refine SO.v rfl (opv_nilCheck rfl) ?_
      exact SO.nilZ fun a w h1 h2 h3 h4 h5 => PZ.of h1 h3 h5 (.cons () (.cons () (.cons () (.nil ⟨EnvAll.of h2 ⟨rfl, rfl, rfl, trivial⟩, h4⟩))))
    · rintro Fr _ _
      refine SO.takeT rfl rfl rfl b13 ?_
      refine SO.v rfl (opv_fieldAddr Try.underlying108 rfl Try.sizeOf3 rfl rfl) ?_
      exact SO.nilZ fun a w h1 h2 h3 h4 h5 => PZ.of h1 h3 h5 (.cons () (.cons () (.cons () (.nil ⟨EnvAll.of h2 ⟨rfl, rfl, rfl, trivial⟩, h4⟩))))
    · rintro Fr _ _ _
      refine SO.takeT rfl rfl rfl b13 ?_
      refine SO.load1 rfl Try.isAgg3 rfl rfl ?_
      exact SO.nilZ fun a w h1 h2 h3 h4 h5 => PZ.of h1 h3 h5 (.cons () (.cons () (.cons () (.cons () (.nil ⟨EnvAll.of h2 ⟨rfl, rfl, rfl, trivial⟩, h4⟩)))))
    · rintro Fr _ _ _
      refine SO.takeT rfl rfl rfl b13 ?_
      refine SO.v rfl (opv_neq rfl rfl) ?_
      exact SO.nilZ fun a w h1 h2 h3 h4 h5 => PZ.of h1 h3 h5 (.cons () (.cons () (.cons () (.cons () (.nil ⟨EnvAll.of h2 ⟨rfl, rfl, rfl, rfl, trivial⟩, h4⟩)))))
    · rintro Fr _ _
      refine SO.v rfl (opv_pick_f' b13 rfl rfl) ?_
      exact SO.nilZ fun a w h1 h2 h3 h4 h5 => PZ.of h1 h3 h5 (.cons () (.cons () (.cons () (.nil ⟨EnvAll.of h2 ⟨rfl, rfl, rfl, trivial⟩, h4⟩))))
    rintro _ _ _ _ _ _ _ _ _ _ _ _
    refine S.to (ρ' := [(2, bp b3 0), (3, bp b4 0), (4, bp b7 0), (50, .bool (t8.Mark != a0.mark))]) ⟨rfl, rfl, rfl, rfl, trivial⟩ ?_
    cases h
    refine S.b8 ?_
    refine S.b8 ?_
    refine S.b8 ?_
    refine S.b8 ?_
    refine S.b8 ?_
    refine S.b8 ?_
    refine S.b8 ?_
    refine S.b8 ?_
    refine S.b8 ?_
    refine S.to ?_ (hk1 () trivial)
    exact ⟨rfl, rfl, rfl, rfl, trivial⟩
  rintro _ -
  replace h := hJ1
  rcases bool_or j50_1 with b14 | b14
  · replace h := cond_t b14 h
    refine S.condT rfl b14 ?_
    cases h
    refine S.drop ?_
    refine S.b2 ?_
    refine S.drop ?_
    refine S.b2 ?_
    refine S.drop ?_
    refine S.b3 ?_
    refine S.drop ?_
    refine S.b4 ?_
    refine S.b2 ?_
    refine S.b2 ?_
    refine S.b4 ?_
    refine S.b4 ?_
    exact S.ret0 Try.func51 rfl (fun w hs hk => hR w _ _ ⟨v0_l, v1_l, rfl, rfl⟩ hs hk)
  replace h := cond_f b14 h
  refine S.condF rfl b14 ?_
  refine S.skip ?_
  refine S.seq ?_
  refine S.region ?_
  refine SO.v rfl (opv_makeFunc rfl rfl) ?_
  refine SO.v rfl (opv_assign rfl) ?_
  refine SO.nil ?_
  refine S.seq ?_
  refine S.seq ?_
  refine S.region ?_
  refine SO.b6 ?_
  refine SO.load1 rfl Try.isAgg71 rfl rfl ?_
  refine SO.v rfl (opv_nilCheck rfl) ?_
  refine SO.v rfl (opv_fieldAddr Try.underlying108 rfl Try.sizeOf3 rfl rfl) ?_
  refine SO.b6 ?_
  refine SO.load1 rfl Try.isAgg3 rfl rfl ?_
  refine SO.v rfl (opv_eql rfl rfl) ?_
  refine SO.v rfl (opv_move rfl) ?_
  obtain ⟨c16, hc17, hgk⟩ := opt_bind h
  refine SO.cut 3 60 (.bool c16) [Box bp0 [.int .i64 a0.mark, v0_l, .int .i64 a0.status, .int .i64 (w64 (a0.at_ + 1))], Box b3 [bp bp0 0], Box b11 [.int .u64 t8.Value, .int .u32 t8.Version, .int .i64 t8.Mark], Box bp1 [v1_l, .int .u32 a1.limit], Own 88 ek_api_Cell v1_l a1.l, Box b7 [.int .i64 x5.Cell, .int .u32 x5.Version, .int .u64 x5.Old, .int .u64 x5.New, .bool x5.Write], Box b4 [bp bp1 0], Own 114 ek_tx_Entry v0_l a0.l, F] (fun l2 hk2 => ?_) ?_
  · clear hgk
    replace h := hc17
    rcases bool_or (a0.status == 1) with b15 | b15
    · replace h := cond_t b15 h
      refine SO.takeT rfl rfl rfl b15 ?_
      refine SO.v rfl (opv_fieldAddr Try.underlying114 rfl Try.sizeOf4 rfl rfl) ?_
      refine SO.takeT rfl rfl rfl b15 ?_
      refine SO.b5 ?_
      refine SO.load1 rfl Try.isAgg4 rfl rfl ?_
      cases h
      refine SO.v rfl (opv_pick_t' b15 rfl rfl) ?_
      refine SO.b8 ?_
      refine SO.b8 ?_
      refine SO.b8 ?_
      refine SO.b3 ?_
      refine SO.b8 ?_
      refine SO.b8 ?_
      refine SO.b8 ?_
      refine SO.b8 ?_
      refine SO.b8 ?_
      exact hk2.fitc (m := 3) rfl (rfl) rfl
    replace h := cond_f b15 h
    refine SO.passF rfl rfl rfl b15 rfl rfl ?_
    refine SO.passF rfl rfl rfl b15 rfl rfl ?_
    cases h
    refine SO.v rfl (opv_pick_f' b15 rfl rfl) ?_
    refine SO.b8 ?_
    refine SO.b8 ?_
    refine SO.b8 ?_
    refine SO.b8 ?_
    refine SO.b8 ?_
    refine SO.b8 ?_
    refine SO.b8 ?_
    refine SO.b8 ?_
    refine SO.b8 ?_
    exact hk2.fitc (m := 3) rfl (rfl) rfl
  clear hc17
  replace h := hgk
  refine SO.nil ?_
  refine S.to (ρ' := [(2, bp b3 0), (3, bp b4 0), (4, bp b7 0), (7, .func (.func 56) #[] #[bp b4 0, bp b7 0, bp b3 0]), (60, .bool c16)]) ⟨rfl, rfl, rfl, rfl, rfl, trivial⟩ ?_
  rcases bool_or c16 with b18 | b18
  · replace h := cond_t b18 h
    refine S.condT rfl b18 ?_
    refine S.region ?_
    refine SO.v rfl (opv_makeFunc rfl rfl) ?_
    refine SO.v rfl (opv_assign rfl) ?_
    refine SO.nil ?_
    refine S.seq ?_
    refine S.region ?_
    refine SO.v rfl (opv_move rfl) ?_
    obtain ⟨⟨t19, p20⟩, ht21, h⟩ := opt_bind h
    refine SO.b7 ?_
    refine SO.b1 ?_
    refine SO.b2 ?_
    refine SO.b6 ?_
    refine SO.b6 ?_
    refine SO.b6 ?_
    refine SO.b7 ?_
    have ct25 := desc_Desc_release_2.ct b4 bp1 v1_l b7 b3 bp0 v0_l _ _ _ _ _ ht21
    try dsimp only at ct25
    refine SO.call (pre := [Box _ _, Box _ _, Own _ _ _ _, Box _ _, Box _ _, Box _ _, Own _ _ _ _]) rfl Try.call58 rfl rfl rfl ct25 trivial ?_
    rintro _ _ ⟨u22_l, rfl, rfl⟩
    refine SO.b2 ?_
    refine SO.rd fun hr23 => ?_
    refine SO.v rfl (opv_assign rfl) ?_
    refine SO.nil ?_
    refine S.to (ρ' := [(8, errV 60 t19)]) ⟨rfl, trivial⟩ ?_
    refine S.seq ?_
    refine S.region ?_
    refine SO.v rfl (opv_move rfl) ?_
    refine SO.v rfl (opv_neqN (e := t19) Try.underlying29 rfl) ?_
    refine SO.nil ?_
    rcases bool_or t19.isSome with b24 | b24
    · replace h := cond_t b24 h
      refine S.condT rfl b24 ?_
      refine S.region ?_
      refine SO.v rfl (opv_move rfl) ?_
      cases h
    replace h := cond_f b24 h
    refine S.condF rfl b24 ?_
    refine S.skip ?_
    cases h
    refine S.b1 ?_
    refine S.drop ?_
    refine S.b2 ?_
    refine S.drop ?_
    refine S.b2 ?_
    refine S.drop ?_
    refine S.b4 ?_
    refine S.drop ?_
    refine S.b4 ?_
    refine S.b1 ?_
    refine S.b2 ?_
    refine S.b4 ?_
    refine S.b4 ?_
    exact S.fin0 Try.func51 rfl (fun w hs hk => hR w _ _ ⟨v0_l, u22_l, rfl, rfl⟩ hs hk)
  replace h := cond_f b18 h
  refine S.condF rfl b18 ?_
  refine S.skip ?_
  refine S.seq ?_
  refine S.region ?_
  refine SO.v rfl (opv_move rfl) ?_
  obtain ⟨⟨t26, p27⟩, ht28, h⟩ := opt_bind h
  refine SO.b7 ?_
  refine SO.b1 ?_
  refine SO.b2 ?_
  refine SO.b6 ?_
  refine SO.b6 ?_
  refine SO.b6 ?_
  refine SO.b7 ?_
  have ct32 := desc_Desc_release_1.ct b4 bp1 v1_l b7 b3 bp0 v0_l _ _ _ _ _ ht28
  try dsimp only at ct32
  refine SO.call (pre := [Box _ _, Box _ _, Own _ _ _ _, Box _ _, Box _ _, Box _ _, Own _ _ _ _]) rfl Try.call56 rfl rfl rfl ct32 trivial ?_
  rintro _ _ ⟨u29_l, rfl, rfl⟩
  refine SO.b2 ?_
  refine SO.rd fun hr30 => ?_
  refine SO.v rfl (opv_assign rfl) ?_
  refine SO.nil ?_
  refine S.to (ρ' := [(8, errV 60 t26)]) ⟨rfl, trivial⟩ ?_
  refine S.seq ?_
  refine S.region ?_
  refine SO.v rfl (opv_move rfl) ?_
  refine SO.v rfl (opv_neqN (e := t26) Try.underlying29 rfl) ?_
  refine SO.nil ?_
  rcases bool_or t26.isSome with b31 | b31
  · replace h := cond_t b31 h
    refine S.condT rfl b31 ?_
    refine S.region ?_
    refine SO.v rfl (opv_move rfl) ?_
    cases h
  replace h := cond_f b31 h
  refine S.condF rfl b31 ?_
  refine S.skip ?_
  cases h
  refine S.b1 ?_
  refine S.drop ?_
  refine S.b2 ?_
  refine S.drop ?_
  refine S.b2 ?_
  refine S.drop ?_
  refine S.b4 ?_
  refine S.drop ?_
  refine S.b4 ?_
  refine S.b1 ?_
  refine S.b2 ?_
  refine S.b4 ?_
  refine S.b4 ?_
  exact S.fin0 Try.func51 rfl (fun w hs hk => hR w _ _ ⟨v0_l, u29_l, rfl, rfl⟩ hs hk)
end Go.Proofs
namespace Go.Proofs
open Go.Sl Go.RowKit
/-! 52 (*padstone/desc.Desc).turn -/
def desc_Desc_turn.f (a0 : desc_Desc) (a1 : Int) : Option (desc_Desc) :=
  some ({ a0 with status := a1, at_ := 0 } : desc_Desc)
set_option maxHeartbeats 8000000 in
set_option maxRecDepth 100000 in
theorem desc_Desc_turn.ct (bp0 : Nat) (v0_l : Value) (a0 : desc_Desc) (a1 : Int) (rp0 : desc_Desc) (h : desc_Desc_turn.f a0 a1 = some rp0) :
    Ct Try.prog 52 [bp bp0 0, .int .i64 a1] (fun _ => True) [Box bp0 [.int .i64 a0.mark, v0_l, .int .i64 a0.status, .int .i64 a0.at_], Own 114 ek_tx_Entry v0_l a0.l] (fun u H' => ∃ rw0_l, u = .tuple #[] ∧ H' = [Box bp0 [.int .i64 rp0.mark, rw0_l, .int .i64 rp0.status, .int .i64 rp0.at_], Own 114 ek_tx_Entry rw0_l rp0.l]) := by
  unfold desc_Desc_turn.f at h
  refine Ct.intro (n := 11) Try.func52 rfl rfl rfl ?_
  intro R w0 F hF hR
  refine S.b1 ?_
  refine S.rd fun hr1 => ?_
  refine S.region ?_
  refine SO.v rfl (opv_move rfl) ?_
  refine SO.v rfl (opv_move rfl) ?_
  refine SO.v rfl (opv_move rfl) ?_
  refine SO.v rfl (opv_nilCheck rfl) ?_
  refine SO.v rfl (opv_fieldAddr Try.underlying108 rfl Try.sizeOf3 rfl rfl) ?_
  refine SO.b1 ?_
  refine SO.store1 Try.sizeOf3 rfl rfl rfl rfl ?_
  refine SO.v rfl (opv_nilCheck rfl) ?_
  refine SO.v rfl (opv_fieldAddr Try.underlying108 rfl Try.sizeOf3 rfl rfl) ?_
  refine SO.store1 Try.sizeOf3 rfl rfl rfl rfl ?_
  refine SO.nil ?_
  refine S.to (ρ' := []) trivial ?_
  cases h
  refine S.b2 ?_
  refine S.b2 ?_
  refine S.b2 ?_
  exact S.fin0 Try.func52 rfl (fun w hs hk => hR w _ _ ⟨v0_l, rfl, rfl⟩ hs hk)
end Go.Proofs
namespace Go.Proofs
open Go.Sl Go.RowKit
/-! 60 (*padstone/word.Store).Limit -/
def word_Store_Limit.f (a0 : word_Store) : Option (Int) :=
  some a0.limit
set_option maxHeartbeats 8000000 in
set_option maxRecDepth 100000 in
theorem word_Store_Limit.ct (bp0 : Nat) (v0_l : Value) (a0 : word_Store) (r0 : Int) (h : word_Store_Limit.f a0 = some r0) :
    Ct Try.prog 60 [bp bp0 0] (fun _ => True) [Box bp0 [v0_l, .int .u32 a0.limit], Own 88 ek_api_Cell v0_l a0.l] (fun u H' => u = .int .u32 r0 ∧ H' = [Box bp0 [v0_l, .int .u32 a0.limit], Own 88 ek_api_Cell v0_l a0.l]) := by
  unfold word_Store_Limit.f at h
  refine Ct.intro (n := 7) Try.func60 rfl rfl rfl ?_
  intro R w0 F hF hR
  refine S.b1 ?_
  refine S.rd fun hr1 => ?_
  refine S.seq ?_
  refine S.region ?_
  refine SO.v rfl (opv_assign rfl) ?_
  refine SO.nil ?_
  refine S.seq ?_
  refine S.region ?_
  refine SO.v rfl (opv_move rfl) ?_
  refine SO.v rfl (opv_nilCheck rfl) ?_
  refine SO.v rfl (opv_fieldAddr Try.underlying63 rfl Try.sizeOf22 rfl rfl) ?_
  refine SO.b1 ?_
  refine SO.load1 rfl Try.isAgg22 rfl rfl ?_
  refine SO.v rfl (opv_assign rfl) ?_
  refine SO.nil ?_
  cases h
  refine S.b2 ?_
  refine S.b2 ?_
  refine S.b2 ?_
  exact S.ret1 Try.func60 rfl rfl (fun w hs hk => hR w _ _ ⟨rfl, rfl⟩ hs hk)
end Go.Proofs
namespace Go.Proofs
open Go.Sl Go.RowKit
/-! 61 (*padstone/word.Store).Reserve -/
def word_Store_Reserve.f (a0 : word_Store) (a1 : Int) (a2 : Int) (a3 : Int) : Option (((Option Int) × word_Store)) :=
  (word_Store_has.f a0 a1).bind fun t2 => bif !t2 then (some ((some 2), a0)) else (bif decide (a3 < 1) then (some ((some 1), a0)) else ((at_ a0.l a1).bind fun x6 => (bif x6.Mark != 0 then ((at_ a0.l a1).bind fun x11 => some (x11.Mark != a3)) else (some false)).bind fun c9 => bif c9 then (some ((some 12), a0)) else ((at_ a0.l a1).bind fun x14 => bif x14.Version != a2 then (some ((some 10), a0)) else ((at_ a0.l a1).bind fun x17 => some (none, (⟨a0.l.set a1.toNat ({ x17 with Mark := a3 } : api_Cell), a0.limit⟩ : word_Store))))))
set_option maxHeartbeats 8000000 in
set_option maxRecDepth 100000 in
theorem word_Store_Reserve.ct (bp0 : Nat) (v0_l : Value) (a0 : word_Store) (a1 : Int) (a2 : Int) (a3 : Int) (r0 : Option Int) (rp0 : word_Store) (h : word_Store_Reserve.f a0 a1 a2 a3 = some (r0, rp0)) :
    Ct Try.prog 61 [bp bp0 0, .int .i64 a1, .int .u32 a2, .int .i64 a3] (fun _ => True) [Box bp0 [v0_l, .int .u32 a0.limit], Own 88 ek_api_Cell v0_l a0.l] (fun u H' => ∃ rw0_l, u = errV 60 r0 ∧ H' = [Box bp0 [rw0_l, .int .u32 rp0.limit], Own 88 ek_api_Cell rw0_l rp0.l]) := by
  unfold word_Store_Reserve.f at h
  refine Ct.intro (n := 62) Try.func61 rfl rfl rfl ?_
  intro R w0 F hF hR
  refine S.b1 ?_
  refine S.rd fun hr1 => ?_
  refine S.seq ?_
  refine S.region ?_
  refine SO.v rfl (opv_assign rfl) ?_
  refine SO.nil ?_
  refine S.seq ?_
  refine S.block ?_
  refine S.seq ?_
  refine S.region ?_
  refine SO.v rfl (opv_move rfl) ?_
  refine SO.v rfl (opv_move rfl) ?_
  obtain ⟨t2, ht3, h⟩ := opt_bind h
  refine SO.b1 ?_
  refine SO.call (pre := [Box _ _, Own _ _ _ _]) rfl Try.call47 rfl rfl rfl (word_Store_has.ct bp0 v0_l _ _ _ ht3) trivial ?_
  rintro _ _ ⟨rfl, rfl⟩
  refine SO.v rfl (opv_not rfl) ?_
  refine SO.v rfl (opv_assign rfl) ?_
  refine SO.nil ?_
  rcases bool_or (!t2) with b4 | b4
  · replace h := cond_t b4 h
    refine S.condT rfl b4 ?_
    refine S.seq ?_
    refine S.region ?_
    refine SO.v rfl (opv_iface Try.underlying60 rfl rfl) ?_
    refine SO.v rfl (opv_assign rfl) ?_
    refine SO.nil ?_
    refine S.to (ρ' := [(8, errV 60 (some 2))]) ⟨rfl, trivial⟩ ?_
    cases h
    refine S.b2 ?_
    refine S.b2 ?_
    refine S.b2 ?_
    exact S.ret1 Try.func61 rfl rfl (fun w hs hk => hR w _ _ ⟨v0_l, rfl, rfl⟩ hs hk)
  replace h := cond_f b4 h
  refine S.condF rfl b4 ?_
  refine S.seq ?_
  refine S.region ?_
  refine SO.v rfl (opv_move rfl) ?_
  refine SO.v rfl (opv_lss rfl rfl) ?_
  refine SO.v rfl (opv_assign rfl) ?_
  refine SO.nil ?_
  refine S.to (ρ' := [(0, bp bp0 0), (1, .int .i64 a1), (2, .int .u32 a2), (3, .int .i64 a3), (8, errV 60 none), (15, .bool (decide (a3 < 1)))]) ⟨rfl, rfl, rfl, rfl, rfl, rfl, trivial⟩ ?_
  rcases bool_or (decide (a3 < 1)) with b5 | b5
  · replace h := cond_t b5 h
    refine S.condT rfl b5 ?_
    refine S.seq ?_
    refine S.region ?_
    refine SO.v rfl (opv_iface Try.underlying60 rfl rfl) ?_
    refine SO.v rfl (opv_assign rfl) ?_
    refine SO.nil ?_
    cases h
    refine S.b2 ?_
    refine S.b2 ?_
    refine S.b2 ?_
    exact S.ret1 Try.func61 rfl rfl (fun w hs hk => hR w _ _ ⟨v0_l, rfl, rfl⟩ hs hk)
  replace h := cond_f b5 h
  refine S.condF rfl b5 ?_
  refine S.seq ?_
  refine S.region ?_
  refine SO.v rfl (opv_move rfl) ?_
  refine SO.v rfl (opv_nilCheck rfl) ?_
  refine SO.v rfl (opv_fieldAddr Try.underlying63 rfl Try.sizeOf61 rfl rfl) ?_
  refine SO.load1 rfl Try.isAgg61 rfl rfl ?_
  refine SO.v rfl (opv_move rfl) ?_
  obtain ⟨x6, hx7, h⟩ := opt_bind h
  refine SO.v rfl (opv_idx Try.underlying61 Try.sizeOf88 hr1 rfl rfl hx7) ?_
  refine SO.v rfl (opv_fieldIdx Try.underlying88 rfl Try.sizeOf3 hr1 hx7 rfl rfl) ?_
  refine SO.loadI1 (j := 2) rfl Try.isAgg3 (Rd.tail (Rd.head hr1)) hx7 rfl rfl rfl rfl ?_
  refine SO.v rfl (opv_neq rfl rfl) ?_
  refine SO.v rfl (opv_move rfl) ?_
  obtain ⟨c9, hc10, hgk⟩ := opt_bind h
  refine SO.cut 11 40 (.bool c9) [Box bp0 [v0_l, .int .u32 a0.limit], Own 88 ek_api_Cell v0_l a0.l, F] (fun l2 hk2 => ?_) ?_
  · clear hgk
    replace h := hc10
    rcases bool_or (x6.Mark != 0) with b8 | b8
    · replace h := cond_t b8 h
      refine SO.takeT rfl rfl rfl b8 ?_
      refine SO.v rfl (opv_move rfl) ?_
      refine SO.takeT rfl rfl rfl b8 ?_
      refine SO.v rfl (opv_nilCheck rfl) ?_
      refine SO.takeT rfl rfl rfl b8 ?_
      refine SO.v rfl (opv_fieldAddr Try.underlying63 rfl Try.sizeOf61 rfl rfl) ?_
      refine SO.takeT rfl rfl rfl b8 ?_
      refine SO.load1 rfl Try.isAgg61 rfl rfl ?_
      refine SO.takeT rfl rfl rfl b8 ?_
      refine SO.v rfl (opv_move rfl) ?_
      refine SO.takeT rfl rfl rfl b8 ?_
      obtain ⟨x11, hx12, h⟩ := opt_bind h
      refine SO.v rfl (opv_idx Try.underlying61 Try.sizeOf88 hr1 rfl rfl hx12) ?_
      refine SO.takeT rfl rfl rfl b8 ?_
      refine SO.v rfl (opv_fieldIdx Try.underlying88 rfl Try.sizeOf3 hr1 hx12 rfl rfl) ?_
      refine SO.takeT rfl rfl rfl b8 ?_
      refine SO.loadI1 (j := 2) rfl Try.isAgg3 (Rd.tail (Rd.head hr1)) hx12 rfl rfl rfl rfl ?_
      refine SO.takeT rfl rfl rfl b8 ?_
      refine SO.v rfl (opv_move rfl) ?_
      refine SO.takeT rfl rfl rfl b8 ?_
      refine SO.v rfl (opv_neq rfl rfl) ?_
      cases h
      refine SO.v rfl (opv_pick_t' b8 rfl rfl) ?_
      refine SO.b2 ?_
      refine SO.b2 ?_
      refine SO.b2 ?_
      exact hk2.fitc (m := 11) rfl (rfl) rfl
    replace h := cond_f b8 h
    refine SO.passF rfl rfl rfl b8 rfl rfl ?_
    refine SO.passF rfl rfl rfl b8 rfl rfl ?_
    refine SO.passF rfl rfl rfl b8 rfl rfl ?_
    refine SO.passF rfl rfl rfl b8 rfl rfl ?_
    refine SO.passF rfl rfl rfl b8 rfl rfl ?_
    refine SO.passF rfl rfl rfl b8 rfl rfl ?_
    refine SO.passF rfl rfl rfl b8 rfl rfl ?_
    refine SO.passF rfl rfl rfl b8 rfl rfl ?_
    refine SO.passF rfl rfl rfl b8 rfl rfl ?_
    refine SO.passF rfl rfl rfl b8 rfl rfl ?_
    cases h
    refine SO.v rfl (opv_pick_f' b8 rfl rfl) ?_
    refine SO.b2 ?_
    refine SO.b2 ?_
    refine SO.b2 ?_
    exact hk2.fitc (m := 11) rfl (rfl) rfl
  clear hc10
  replace h := hgk
  refine SO.v rfl (opv_assign rfl) ?_
  refine SO.nil ?_
  refine S.to (ρ' := [(0, bp bp0 0), (1, .int .i64 a1), (2, .int .u32 a2), (3, .int .i64 a3), (8, errV 60 none), (19, .bool c9)]) ⟨rfl, rfl, rfl, rfl, rfl, rfl, trivial⟩ ?_
  rcases bool_or c9 with b13 | b13
  · replace h := cond_t b13 h
    refine S.condT rfl b13 ?_
    refine S.seq ?_
    refine S.region ?_
    refine SO.v rfl (opv_iface Try.underlying60 rfl rfl) ?_
    refine SO.v rfl (opv_assign rfl) ?_
    refine SO.nil ?_
    cases h
    refine S.b2 ?_
    refine S.b2 ?_
    refine S.b2 ?_
    exact S.ret1 Try.func61 rfl rfl (fun w hs hk => hR w _ _ ⟨v0_l, rfl, rfl⟩ hs hk)
  replace h := cond_f b13 h
  refine S.condF rfl b13 ?_
  refine S.seq ?_
  refine S.region ?_
  refine SO.v rfl (opv_move rfl) ?_
  refine SO.v rfl (opv_nilCheck rfl) ?_
  refine SO.v rfl (opv_fieldAddr Try.underlying63 rfl Try.sizeOf61 rfl rfl) ?_
  refine SO.load1 rfl Try.isAgg61 rfl rfl ?_
  refine SO.v rfl (opv_move rfl) ?_
  obtain ⟨x14, hx15, h⟩ := opt_bind h
  refine SO.v rfl (opv_idx Try.underlying61 Try.sizeOf88 hr1 rfl rfl hx15) ?_
  refine SO.v rfl (opv_fieldIdx Try.underlying88 rfl Try.sizeOf22 hr1 hx15 rfl rfl) ?_
  refine SO.loadI1 (j := 1) rfl Try.isAgg22 (Rd.tail (Rd.head hr1)) hx15 rfl rfl rfl rfl ?_
  refine SO.v rfl (opv_move rfl) ?_
  refine SO.v rfl (opv_neq rfl rfl) ?_
  refine SO.v rfl (opv_assign rfl) ?_
  refine SO.nil ?_
  refine S.to (ρ' := [(0, bp bp0 0), (1, .int .i64 a1), (3, .int .i64 a3), (8, errV 60 none), (42, .bool (x14.Version != a2))]) ⟨rfl, rfl, rfl, rfl, rfl, trivial⟩ ?_
  rcases bool_or (x14.Version != a2) with b16 | b16
  · replace h := cond_t b16 h
    refine S.condT rfl b16 ?_
    refine S.seq ?_
    refine S.region ?_
    refine SO.v rfl (opv_iface Try.underlying60 rfl rfl) ?_
    refine SO.v rfl (opv_assign rfl) ?_
    refine SO.nil ?_
    cases h
    refine S.b2 ?_
    refine S.b2 ?_
    refine S.b2 ?_
    exact S.ret1 Try.func61 rfl rfl (fun w hs hk => hR w _ _ ⟨v0_l, rfl, rfl⟩ hs hk)
  replace h := cond_f b16 h
  refine S.condF rfl b16 ?_
  refine S.skip ?_
  refine S.inBlock ?_
  refine S.seq ?_
  refine S.region ?_
  refine SO.v rfl (opv_move rfl) ?_
  refine SO.v rfl (opv_nilCheck rfl) ?_
  refine SO.v rfl (opv_fieldAddr Try.underlying63 rfl Try.sizeOf61 rfl rfl) ?_
  refine SO.load1 rfl Try.isAgg61 rfl rfl ?_
  refine SO.v rfl (opv_move rfl) ?_
  refine SO.v rfl (opv_move rfl) ?_
  obtain ⟨x17, hx18, h⟩ := opt_bind h
  refine SO.v rfl (opv_idx Try.underlying61 Try.sizeOf88 hr1 rfl rfl hx18) ?_
  refine SO.v rfl (opv_fieldIdx Try.underlying88 rfl Try.sizeOf3 hr1 hx18 rfl rfl) ?_
  refine SO.b1 ?_
  refine SO.storeI1 (j := 2) (z' := ({ x17 with Mark := a3 } : api_Cell)) Try.sizeOf3 hx18 rfl rfl rfl rfl rfl rfl ?_
  refine SO.rd fun hr19 => ?_
  refine SO.nil ?_
  refine S.to (ρ' := [(8, errV 60 none)]) ⟨rfl, trivial⟩ ?_
  refine S.seq ?_
  refine S.region ?_
  refine SO.v rfl (opv_assign rfl) ?_
  refine SO.nil ?_
  cases h
  refine S.b2 ?_
  refine S.b1 ?_
  refine S.b2 ?_
  exact S.ret1 Try.func61 rfl rfl (fun w hs hk => hR w _ _ ⟨v0_l, rfl, rfl⟩ hs hk)
end Go.Proofs
