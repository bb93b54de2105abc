/- The resource logic, part SlOps. On no condition. -/
import Derived.Test.YtbhboofhcgkgfaaSlCore
import Derived.Laws.StructEq
import Derived.LaidEql
import Derived.WideLaws
set_option linter.all false
namespace Go.Sl
open Go.RowKit
section
variable {P : Program} {ρ : Env}

theorem opv_move {x : Operand} {v : Value} (h : ev ρ x = some v) : OpV P ρ (.move x) v := fun r w d t p af g hr => by simp [execOp, hr x v h]
theorem opv_assign {x : Operand} {v : Value} (h : ev ρ x = some v) : OpV P ρ (.assign x) v := fun r w d t p af g hr => by simp [execOp, hr x v h]
theorem opv_pick_tt {c a b : Operand} {v : Value} (hc : ev ρ c = some (.bool true)) (ha : ev ρ a = some v) : OpV P ρ (.pick c a b) v :=
  fun r w d t p af g hr => by simp [execOp, hr c _ hc, hr a _ ha, asBool]
theorem opv_pick_ff {c a b : Operand} {v : Value} (hc : ev ρ c = some (.bool false)) (hb : ev ρ b = some v) : OpV P ρ (.pick c a b) v :=
  fun r w d t p af g hr => by simp [execOp, hr c _ hc, hr b _ hb, asBool]
theorem opv_pick {c a b : Operand} {z p q : Bool} (hc : ev ρ c = some (.bool z)) (ha : ev ρ a = some (.bool p)) (hb : ev ρ b = some (.bool q)) : OpV P ρ (.pick c a b) (.bool (bif z then p else q)) :=
  fun r w d t p af g hr => by cases z <;> simp [execOp, hr c _ hc, hr a _ ha, hr b _ hb, asBool]
theorem opv_add {t t2 : TypeId} {x y : Operand} {k : IntKind} {a b : Int} (hx : ev ρ x = some (.int k a)) (hy : ev ρ y = some (.int k b)) : OpV P ρ (.binOp .add t x y t2) (.int k (k.wrap (a + b))) :=
  fun r w d t p af g hr => by simp [execOp, hr x _ hx, hr y _ hy, eqGuard, binOp, Op.intArith]
theorem opv_sub {t t2 : TypeId} {x y : Operand} {k : IntKind} {a b : Int} (hx : ev ρ x = some (.int k a)) (hy : ev ρ y = some (.int k b)) : OpV P ρ (.binOp .sub t x y t2) (.int k (k.wrap (a - b))) :=
  fun r w d t p af g hr => by simp [execOp, hr x _ hx, hr y _ hy, eqGuard, binOp, Op.intArith]
theorem opv_mul {t t2 : TypeId} {x y : Operand} {k : IntKind} {a b : Int} (hx : ev ρ x = some (.int k a)) (hy : ev ρ y = some (.int k b)) : OpV P ρ (.binOp .mul t x y t2) (.int k (k.wrap (a * b))) :=
  fun r w d t p af g hr => by simp [execOp, hr x _ hx, hr y _ hy, eqGuard, binOp, Op.intArith]
theorem opv_quo {t t2 : TypeId} {x y : Operand} {k : IntKind} {a b : Int} (hx : ev ρ x = some (.int k a)) (hy : ev ρ y = some (.int k b)) (h0 : b ≠ 0) : OpV P ρ (.binOp .quo t x y t2) (.int k (k.wrap (a.tdiv b))) :=
  fun r w d t p af g hr => by simp [execOp, hr x _ hx, hr y _ hy, eqGuard, binOp, Op.intDiv, h0]
theorem opv_rem {t t2 : TypeId} {x y : Operand} {k : IntKind} {a b : Int} (hx : ev ρ x = some (.int k a)) (hy : ev ρ y = some (.int k b)) (h0 : b ≠ 0) : OpV P ρ (.binOp .rem t x y t2) (.int k (a.tmod b)) :=
  fun r w d t p af g hr => by simp [execOp, hr x _ hx, hr y _ hy, eqGuard, binOp, Op.intDiv, h0]
/-- '&', '|', '^', '&^' of numbers of a kind. -/
def band (k : IntKind) (a b : Int) : Int := k.wrap (BitVec.ofInt k.bits a &&& BitVec.ofInt k.bits b).toNat
def bor (k : IntKind) (a b : Int) : Int := k.wrap (BitVec.ofInt k.bits a ||| BitVec.ofInt k.bits b).toNat
def bxor (k : IntKind) (a b : Int) : Int := k.wrap (BitVec.ofInt k.bits a ^^^ BitVec.ofInt k.bits b).toNat
def bclr (k : IntKind) (a b : Int) : Int := k.wrap (BitVec.ofInt k.bits a &&& ~~~BitVec.ofInt k.bits b).toNat
/-- 'a << b', 'a >> b'. -/
def bshl (k : IntKind) (a b : Int) : Int := k.wrap (a * 2 ^ (min b.toNat k.bits))
def bshr (k : IntKind) (a b : Int) : Int := a.fdiv (2 ^ (min b.toNat k.bits))
theorem opv_and {t t2 : TypeId} {x y : Operand} {k : IntKind} {a b : Int} (hx : ev ρ x = some (.int k a)) (hy : ev ρ y = some (.int k b)) : OpV P ρ (.binOp .and t x y t2) (.int k (band k a b)) :=
  fun r w d t p af g hr => by simp [execOp, hr x _ hx, hr y _ hy, eqGuard, binOp, Op.intBits, band]
theorem opv_or {t t2 : TypeId} {x y : Operand} {k : IntKind} {a b : Int} (hx : ev ρ x = some (.int k a)) (hy : ev ρ y = some (.int k b)) : OpV P ρ (.binOp .or t x y t2) (.int k (bor k a b)) :=
  fun r w d t p af g hr => by simp [execOp, hr x _ hx, hr y _ hy, eqGuard, binOp, Op.intBits, bor]
theorem opv_xor {t t2 : TypeId} {x y : Operand} {k : IntKind} {a b : Int} (hx : ev ρ x = some (.int k a)) (hy : ev ρ y = some (.int k b)) : OpV P ρ (.binOp .xor t x y t2) (.int k (bxor k a b)) :=
  fun r w d t p af g hr => by simp [execOp, hr x _ hx, hr y _ hy, eqGuard, binOp, Op.intBits, bxor]
theorem opv_andNot {t t2 : TypeId} {x y : Operand} {k : IntKind} {a b : Int} (hx : ev ρ x = some (.int k a)) (hy : ev ρ y = some (.int k b)) : OpV P ρ (.binOp .andNot t x y t2) (.int k (bclr k a b)) :=
  fun r w d t p af g hr => by simp [execOp, hr x _ hx, hr y _ hy, eqGuard, binOp, Op.intBits, bclr]
theorem opv_shl {t t2 : TypeId} {x y : Operand} {k k' : IntKind} {a b : Int} (hx : ev ρ x = some (.int k a)) (hy : ev ρ y = some (.int k' b)) (h0 : 0 ≤ b) : OpV P ρ (.binOp .shl t x y t2) (.int k (bshl k a b)) :=
  fun r w d t p af g hr => by simp [execOp, hr x _ hx, hr y _ hy, eqGuard, binOp, Op.shift, bshl, Int.not_lt.2 h0]
theorem opv_shr {t t2 : TypeId} {x y : Operand} {k k' : IntKind} {a b : Int} (hx : ev ρ x = some (.int k a)) (hy : ev ρ y = some (.int k' b)) (h0 : 0 ≤ b) : OpV P ρ (.binOp .shr t x y t2) (.int k (bshr k a b)) :=
  fun r w d t p af g hr => by simp [execOp, hr x _ hx, hr y _ hy, eqGuard, binOp, Op.shift, bshr, Int.not_lt.2 h0]
theorem opv_eql {t t2 : TypeId} {x y : Operand} {k : IntKind} {a b : Int} (hx : ev ρ x = some (.int k a)) (hy : ev ρ y = some (.int k b)) : OpV P ρ (.binOp .eql t x y t2) (.bool (a == b)) :=
  fun r w d t p af g hr => by simp [execOp, hr x _ hx, hr y _ hy, eqGuard, binOp, Op.intCmp]
theorem opv_neq {t t2 : TypeId} {x y : Operand} {k : IntKind} {a b : Int} (hx : ev ρ x = some (.int k a)) (hy : ev ρ y = some (.int k b)) : OpV P ρ (.binOp .neq t x y t2) (.bool (a != b)) :=
  fun r w d t p af g hr => by simp [execOp, hr x _ hx, hr y _ hy, eqGuard, binOp, Op.intCmp]
theorem opv_lss {t t2 : TypeId} {x y : Operand} {k : IntKind} {a b : Int} (hx : ev ρ x = some (.int k a)) (hy : ev ρ y = some (.int k b)) : OpV P ρ (.binOp .lss t x y t2) (.bool (decide (a < b))) :=
  fun r w d t p af g hr => by simp [execOp, hr x _ hx, hr y _ hy, eqGuard, binOp, Op.intCmp]
theorem opv_leq {t t2 : TypeId} {x y : Operand} {k : IntKind} {a b : Int} (hx : ev ρ x = some (.int k a)) (hy : ev ρ y = some (.int k b)) : OpV P ρ (.binOp .leq t x y t2) (.bool (decide (a ≤ b))) :=
  fun r w d t p af g hr => by simp [execOp, hr x _ hx, hr y _ hy, eqGuard, binOp, Op.intCmp]
theorem opv_gtr {t t2 : TypeId} {x y : Operand} {k : IntKind} {a b : Int} (hx : ev ρ x = some (.int k a)) (hy : ev ρ y = some (.int k b)) : OpV P ρ (.binOp .gtr t x y t2) (.bool (decide (b < a))) :=
  fun r w d t p af g hr => by simp [execOp, hr x _ hx, hr y _ hy, eqGuard, binOp, Op.intCmp]
theorem opv_geq {t t2 : TypeId} {x y : Operand} {k : IntKind} {a b : Int} (hx : ev ρ x = some (.int k a)) (hy : ev ρ y = some (.int k b)) : OpV P ρ (.binOp .geq t x y t2) (.bool (decide (b ≤ a))) :=
  fun r w d t p af g hr => by simp [execOp, hr x _ hx, hr y _ hy, eqGuard, binOp, Op.intCmp]
theorem eqIn_bool (w : World) (d : Nat) {t : TypeId} {a b : Bool} (ht : P.underlying t = some .bool) : (Op.equalIn (d + 1) t (.bool a) (.bool b)).run P w = .ok (a == b) w := by
  simp [Op.equalIn, run_underlying ht]
theorem eqIn_nn (w : World) (d : Nat) {t : TypeId} {ms : Array (String × TypeId)} (ht : P.underlying t = some (.interface ms)) : (Op.equalIn (d + 1) t .nilIface .nilIface).run P w = .ok true w := by
  simp [Op.equalIn, run_underlying ht]
theorem eqIn_in (w : World) (d : Nat) {t T : TypeId} {v : Value} {ms : Array (String × TypeId)} (ht : P.underlying t = some (.interface ms)) : (Op.equalIn (d + 1) t (.iface T v) .nilIface).run P w = .ok false w := by
  simp [Op.equalIn, run_underlying ht]
theorem eqIn_ni (w : World) (d : Nat) {t T : TypeId} {v : Value} {ms : Array (String × TypeId)} (ht : P.underlying t = some (.interface ms)) : (Op.equalIn (d + 1) t .nilIface (.iface T v)).run P w = .ok false w := by
  simp [Op.equalIn, run_underlying ht]
theorem eqIn_int (w : World) (d : Nat) {t : TypeId} {k k' : IntKind} {a b : Int} (ht : P.underlying t = some (.int k')) : (Op.equalIn (d + 1) t (.int k a) (.int k b)).run P w = .ok (a == b) w := by
  simp [Op.equalIn, run_underlying ht]
theorem eqIn_ii (w : World) (d : Nat) {t T : TypeId} {a b : Int} {ms : Array (String × TypeId)} {i : TypeInfo} (ht : P.underlying t = some (.interface ms)) (hT : P.underlying T = some (.int .i64)) (hi : P.info? T = some i) (hc : i.comparable = true) :
    (Op.equalIn (d + 2) t (.iface T (.int .i64 a)) (.iface T (.int .i64 b))).run P w = .ok (a == b) w := by
  have h := eqIn_int (P := P) w d (k := .i64) (a := a) (b := b) hT
  generalize hd : d + 1 = d1 at h
  simp only [show d + 2 = d1 + 1 by omega]
  simp [Op.equalIn, run_underlying ht, typeInfo, hi, hc, h]
theorem eql_run {t : TypeId} {x y : Value} {b : Bool} (w : World) (h : ∀ d, (Op.equalIn (d + 2) t x y).run P w = .ok b w) : (Op.equal t x y).run P w = .ok b w := h 9998
theorem opv_eqlB {t t2 : TypeId} {x y : Operand} {a b : Bool} (ht : P.underlying t = some .bool) (hx : ev ρ x = some (.bool a)) (hy : ev ρ y = some (.bool b)) : OpV P ρ (.binOp .eql t x y t2) (.bool (a == b)) :=
  fun r w d t p af g hr => by simp [execOp, hr x _ hx, hr y _ hy, eqGuard, binOp, eql_run w (fun d => eqIn_bool w (d + 1) ht)]
theorem opv_neqB {t t2 : TypeId} {x y : Operand} {a b : Bool} (ht : P.underlying t = some .bool) (hx : ev ρ x = some (.bool a)) (hy : ev ρ y = some (.bool b)) : OpV P ρ (.binOp .neq t x y t2) (.bool (a != b)) :=
  fun r w d t p af g hr => by simp [execOp, hr x _ hx, hr y _ hy, eqGuard, binOp, eql_run w (fun d => eqIn_bool w (d + 1) ht)]; cases a <;> cases b <;> rfl
theorem opv_not {t : TypeId} {x : Operand} {a : Bool} (hx : ev ρ x = some (.bool a)) : OpV P ρ (.unOp .not t x) (.bool (!a)) :=
  fun r w d t p af g hr => by simp [execOp, hr x _ hx, Op.unary]
theorem opv_neg {t : TypeId} {x : Operand} {k : IntKind} {a : Int} (hx : ev ρ x = some (.int k a)) : OpV P ρ (.unOp .neg t x) (.int k (k.wrap (0 - a))) :=
  fun r w d t p af g hr => by simp [execOp, hr x _ hx, Op.unary, Op.intArith]
theorem opv_conv {s t : TypeId} {x : Operand} {k k' : IntKind} {a : Int} {ds : TypeDesc} (hs : P.underlying s = some ds) (ht : P.underlying t = some (.int k')) (hx : ev ρ x = some (.int k a)) : OpV P ρ (.convert s t x) (.int k' (k'.wrap a)) :=
  fun r w d t p af g hr => by simp [execOp, hr x _ hx, convert, run_underlying hs, run_underlying ht, Conv.intToInt]
theorem opv_extract {x : Operand} {vs : Array Value} {i : Nat} {v : Value} (hx : ev ρ x = some (.tuple vs)) (hi : vs[i]? = some v) : OpV P ρ (.extract x i) v :=
  fun r w d t p af g hr => by simp [execOp, hr x _ hx, Instr.extract, hi]
theorem opv_iface {t : TypeId} {x : Operand} {v : Value} {dt : TypeDesc} (ht : P.underlying t = some dt) (hn : (match dt with | .interface _ => false | _ => true) = true) (hx : ev ρ x = some v) : OpV P ρ (.makeInterface t x) (.iface t v) :=
  fun r w d t p af g hr => by
    cases dt <;> first | (simp at hn; done) | simp [execOp, hr x _ hx, Instr.makeInterface, run_underlying ht]
theorem opv_nilCheck {x : Operand} {a : Addr} (hx : ev ρ x = some (.pointer (some a))) : OpV P ρ (.nilCheck x) (.pointer (some a)) :=
  fun r w d t p af g hr => by simp [execOp, hr x _ hx]
theorem opv_len {x : Operand} {tys : Array TypeId} {t e : TypeId} {a : Option Addr} {len cap : Nat} (ht0 : tys[0]? = some t) (ht : P.underlying t = some (.slice e)) (hx : ev ρ x = some (.slice a len cap)) :
    OpV P ρ (.call ⟨.builtin .len, #[x], tys⟩) (.int .i64 len) :=
  fun r w d t p af g hr => by simp [execOp, resolve, invoke, builtin, hr x _ hx, Builtin.len_, ht0, run_underlying ht, goInt]
theorem opv_min {x y : Operand} {tys : Array TypeId} {k : IntKind} {a b : Int} (hx : ev ρ x = some (.int k a)) (hy : ev ρ y = some (.int k b)) :
    OpV P ρ (.call ⟨.builtin .min, #[x, y], tys⟩) (.int k (if b < a then b else a)) :=
  fun r w d t p af g hr => by simp [execOp, resolve, invoke, builtin, hr x _ hx, hr y _ hy, Builtin.min_, Builtin.min2]
theorem opv_max {x y : Operand} {tys : Array TypeId} {k : IntKind} {a b : Int} (hx : ev ρ x = some (.int k a)) (hy : ev ρ y = some (.int k b)) :
    OpV P ρ (.call ⟨.builtin .max, #[x, y], tys⟩) (.int k (if a < b then b else a)) :=
  fun r w d t p af g hr => by simp [execOp, resolve, invoke, builtin, hr x _ hx, hr y _ hy, Builtin.max_, Builtin.max2]
/-- An error: none, or a number of the type T. -/
def errV (T : TypeId) : Option Int → Value
  | none => .nilIface
  | some c => .iface T (.int .i64 c)
theorem opv_eqlN {t t2 T : TypeId} {x : Operand} {e : Option Int} {ms : Array (String × TypeId)} (ht : P.underlying t = some (.interface ms)) (hx : ev ρ x = some (errV T e)) : OpV P ρ (.binOp .eql t x (.const .nilIface) t2) (.bool e.isNone) :=
  fun r w d t p af g hr => by
    have h0 : r (.const .nilIface) = .nilIface := hr _ _ rfl
    cases e <;> simp [execOp, hr x _ hx, h0, errV, eqGuard, binOp, eql_run w (fun d => eqIn_nn w (d + 1) ht), eql_run w (fun d => eqIn_in w (d + 1) ht)]
theorem opv_neqN {t t2 T : TypeId} {x : Operand} {e : Option Int} {ms : Array (String × TypeId)} (ht : P.underlying t = some (.interface ms)) (hx : ev ρ x = some (errV T e)) : OpV P ρ (.binOp .neq t x (.const .nilIface) t2) (.bool e.isSome) :=
  fun r w d t p af g hr => by
    have h0 : r (.const .nilIface) = .nilIface := hr _ _ rfl
    cases e <;> simp [execOp, hr x _ hx, h0, errV, eqGuard, binOp, eql_run w (fun d => eqIn_nn w (d + 1) ht), eql_run w (fun d => eqIn_in w (d + 1) ht)]
theorem opv_eqlE {t t2 T : TypeId} {x y : Operand} {e : Option Int} {c : Int} {ms : Array (String × TypeId)} {i : TypeInfo} (ht : P.underlying t = some (.interface ms)) (hT : P.underlying T = some (.int .i64)) (hi : P.info? T = some i) (hc : i.comparable = true)
    (hx : ev ρ x = some (errV T e)) (hy : ev ρ y = some (.iface T (.int .i64 c))) : OpV P ρ (.binOp .eql t x y t2) (.bool (e == some c)) :=
  fun r w d t p af g hr => by
    cases e <;> simp [execOp, hr x _ hx, hr y _ hy, errV, eqGuard, binOp, eql_run w (fun d => eqIn_ni w (d + 1) ht), eql_run w (fun d => eqIn_ii w d ht hT hi hc)]
theorem opv_neqE {t t2 T : TypeId} {x y : Operand} {e : Option Int} {c : Int} {ms : Array (String × TypeId)} {i : TypeInfo} (ht : P.underlying t = some (.interface ms)) (hT : P.underlying T = some (.int .i64)) (hi : P.info? T = some i) (hc : i.comparable = true)
    (hx : ev ρ x = some (errV T e)) (hy : ev ρ y = some (.iface T (.int .i64 c))) : OpV P ρ (.binOp .neq t x y t2) (.bool (e != some c)) :=
  fun r w d t p af g hr => by
    cases e <;> simp [execOp, hr x _ hx, hr y _ hy, errV, eqGuard, binOp, eql_run w (fun d => eqIn_ni w (d + 1) ht), eql_run w (fun d => eqIn_ii w d ht hT hi hc)] <;> simp [bne]
end
end Go.Sl
