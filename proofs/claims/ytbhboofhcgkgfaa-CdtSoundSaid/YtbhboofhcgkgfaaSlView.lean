/- The resource logic, part SlView. On no condition. -/
import Derived.Test.YtbhboofhcgkgfaaSlMore
set_option linter.all false
namespace Go.Sl
open Go.RowKit
/-! ### Functions of a view -/
/-- What is done with a view: words read, words written; an answer; or it dies. -/
inductive VM (α : Type) where
  | ret (a : α)
  | fail
  | rd (i : Int) (k : Int → VM α)
  | wr (i v : Int) (k : VM α)
namespace VM
variable {α β : Type}
def bind : VM α → (α → VM β) → VM β
  | .ret a, g => g a
  | .fail, _ => .fail
  | .rd i k, g => .rd i fun x => (k x).bind g
  | .wr i v k, g => .wr i v (k.bind g)
def opt : Option α → VM α
  | some a => .ret a
  | none => .fail
def read (i : Int) : VM Int := .rd i .ret
def write (i v : Int) : VM Unit := .wr i v (.ret ())
end VM
/-- A kind of view: its states, what a read tells, what a write leaves. -/
structure VI where
  S : Type
  rd : S → Int → Int × S
  wr : S → Int → Int → S
namespace VM
variable {α β : Type} (V : VI)
def run : VM α → V.S → Option (α × V.S)
  | .ret a, s => some (a, s)
  | .fail, _ => none
  | .rd i k, s => (k (V.rd s i).1).run (V.rd s i).2
  | .wr i v k, s => k.run (V.wr s i v)
theorem run_bind (x : VM α) (g : α → VM β) (s : V.S) : (x.bind g).run V s = (x.run V s).bind fun p => (g p.1).run V p.2 := by
  induction x generalizing s with
  | ret a => rfl
  | fail => rfl
  | rd i k ih => simp only [bind, run, ih]
  | wr i v k ih => simp only [bind, run, ih]
theorem bind_some {x : VM α} {g : α → VM β} {s : V.S} {r : β × V.S} (h : (x.bind g).run V s = some r) : ∃ t s1, x.run V s = some (t, s1) ∧ (g t).run V s1 = some r := by
  rw [run_bind] at h
  obtain ⟨⟨t, s1⟩, h1, h2⟩ := opt_bind h
  exact ⟨t, s1, h1, h2⟩
theorem opt_some {x : Option α} {g : α → VM β} {s : V.S} {r : β × V.S} (h : ((opt x).bind g).run V s = some r) : ∃ t, x = some t ∧ (g t).run V s = some r := by
  cases x with
  | none => cases h
  | some t => exact ⟨t, rfl, h⟩
theorem ret_some {a b : α} {s s' : V.S} (h : (VM.ret a).run V s = some (b, s')) : a = b ∧ s = s' := by
  injection h with h; injection h with h1 h2; exact ⟨h1, h2⟩
theorem optt_some {x : Option α} {s : V.S} {b : α} {s' : V.S} (h : (opt x).run V s = some (b, s')) : x = some b ∧ s = s' := by
  cases x with
  | none => cases h
  | some t => injection h with h; injection h with h1 h2; subst h1; exact ⟨rfl, h2⟩
theorem cond_t {c : Bool} {a b : VM α} {s : V.S} {r : Option (α × V.S)} (h : c = true) (e : (bif c then a else b).run V s = r) : a.run V s = r := by subst h; exact e
theorem cond_f {c : Bool} {a b : VM α} {s : V.S} {r : Option (α × V.S)} (h : c = false) (e : (bif c then a else b).run V s = r) : b.run V s = r := by subst h; exact e
end VM
/-- A view, as it lies in memory. -/
structure VW (P : Program) extends VI where
  t : TypeId
  v : Value
  rep : S → HProp
  rF : FuncId
  rV : Value
  wF : FuncId
  wV : Value
  rM : ∀ w, (method (P.types.size + Made.depth) t v "Read").run P w = .ok (rF, rV) w
  wM : ∀ w, (method (P.types.size + Made.depth) t v "Write").run P w = .ok (wF, wV) w
  rC : ∀ (as : Array Value) (w : World), (callFunc rF as).run P w = .ok (.enter rF as) w
  wC : ∀ (as : Array Value) (w : World), (callFunc wF as).run P w = .ok (.enter wF as) w
  rCt : ∀ (s : S) (i : Int), Ct P rF [rV, .int .i64 i] (fun _ => True) [rep s] (fun u H' => u = .int .u64 (rd s i).1 ∧ H' = [rep (rd s i).2])
  wCt : ∀ (s : S) (i x : Int), Ct P wF [wV, .int .i64 i, .int .u64 x] (fun _ => True) [rep s] (fun u H' => u = .tuple #[] ∧ H' = [rep (wr s i x)])
/-- The value of type interface. -/
def VW.val {P : Program} (V : VW P) : Value := .iface V.t V.v
section
variable {P : Program} {f : FuncId} {n : Nat} {Z : Act → World → Prop} {R : Ending → World → Prop} {w0 : World} {k : List Item} {ρ ρ' : Env} {rest : List HProp} {ops : Array Oper} {l : List Oper}
theorem SO.vread (V : VW P) {d : Nat} {t : TypeId} {p : String} {af : Array Edge} {x y : Operand} {tys : Array TypeId} {s : V.S} {i : Int} (hd : Nat.blt d n = true) (hx : ev ρ x = some V.val) (hy : ev ρ y = some (.int .i64 i))
    (h : SO P n Z w0 ops l ((d, .int .u64 (V.rd s i).1) :: ρ) (V.rep (V.rd s i).2 :: rest)) :
    SO P n Z w0 ops (⟨some d, .call ⟨.invoke x "Read", #[y], tys⟩, t, p, af, none⟩ :: l) ρ (V.rep s :: rest) :=
  SO.invoke (pre := [V.rep s]) (vs := [.int .i64 i]) hd V.rC hx V.rM (by simp [evs, hy]) rfl (V.rCt s i) trivial (by rintro v H' ⟨rfl, rfl⟩; exact h)
theorem SO.vwrite0 (V : VW P) {t : TypeId} {p : String} {af : Array Edge} {x y z : Operand} {tys : Array TypeId} {s : V.S} {i u : Int} (hx : ev ρ x = some V.val) (hy : ev ρ y = some (.int .i64 i)) (hz : ev ρ z = some (.int .u64 u))
    (h : SO P n Z w0 ops l ρ (V.rep (V.wr s i u) :: rest)) :
    SO P n Z w0 ops (⟨none, .call ⟨.invoke x "Write", #[y, z], tys⟩, t, p, af, none⟩ :: l) ρ (V.rep s :: rest) :=
  SO.enter0 (pre := [V.rep s]) (vals := [V.wV, .int .i64 i, .int .u64 u]) (fun _ _ hr => invoke_run (vs := [.int .i64 i, .int .u64 u]) V.wC hx V.wM (by simp [evs, hy, hz]) rfl hr) (V.wCt s i u) trivial (by rintro v H' ⟨rfl, rfl⟩; exact h)
theorem SO.vwrite (V : VW P) {d : Nat} {t : TypeId} {p : String} {af : Array Edge} {x y z : Operand} {tys : Array TypeId} {s : V.S} {i u : Int} (hd : Nat.blt d n = true) (hx : ev ρ x = some V.val) (hy : ev ρ y = some (.int .i64 i)) (hz : ev ρ z = some (.int .u64 u))
    (h : SO P n Z w0 ops l ((d, .tuple #[]) :: ρ) (V.rep (V.wr s i u) :: rest)) :
    SO P n Z w0 ops (⟨some d, .call ⟨.invoke x "Write", #[y, z], tys⟩, t, p, af, none⟩ :: l) ρ (V.rep s :: rest) :=
  SO.invoke (pre := [V.rep s]) (vs := [.int .i64 i, .int .u64 u]) hd V.wC hx V.wM (by simp [evs, hy, hz]) rfl (V.wCt s i u) trivial (by rintro v H' ⟨rfl, rfl⟩; exact h)
end
end Go.Sl
