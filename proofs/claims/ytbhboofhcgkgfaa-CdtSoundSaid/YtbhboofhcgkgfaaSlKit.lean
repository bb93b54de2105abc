/- The resource logic, part SlKit. On no condition. -/
import Derived.Test.YtbhboofhcgkgfaaSlView
set_option linter.all false
namespace Go.Sl
open Go.RowKit
abbrev w64 (x : Int) : Int := IntKind.wrap .i64 x
abbrev wu64 (x : Int) : Int := IntKind.wrap .u64 x
abbrev wu32 (x : Int) : Int := IntKind.wrap .u32 x
abbrev w32 (x : Int) : Int := IntKind.wrap .i32 x
abbrev wu8 (x : Int) : Int := IntKind.wrap .u8 x
def chk (c : Bool) : Option Unit := bif c then some () else none
theorem chk_some {c : Bool} {u : Unit} (h : chk c = some u) : c = true := by cases c with | false => cases h | true => rfl
section
variable {P : Program} {f : FuncId} {n : Nat} {Z : Act → World → Prop} {R : Ending → World → Prop} {w0 : World} {k : List Item} {ρ ρ' : Env} {H H' rest l : List HProp} {ops : Array Oper} {os : List Oper}
theorem SO.drop {A : HProp} (h : SO P n Z w0 ops os ρ rest) : SO P n Z w0 ops os ρ (A :: rest) := h.sat fun _ s => s.drop
theorem S.drop {A : HProp} (h : S P f n R w0 k ρ rest) : S P f n R w0 k ρ (A :: rest) := h.sat fun _ s => s.drop
theorem S.newOwn {α : Type} (E : TypeId) (K : EK α) (h : S P f n R w0 k ρ (Own E K (.slice none 0 0) ([] : List α) :: H)) : S P f n R w0 k ρ H :=
  h.sat fun w s => show stars (Own E K (.slice none 0 0) ([] : List α) :: H) (hp w) from ⟨fun _ => none, hp w, fun _ => .inl rfl, fun _ _ e => by simp at e, .refl _, Own.nil E K _, s⟩
theorem opv_pick_t' {c a b : Operand} {z : Bool} {v : Value} (hz : z = true) (hc : ev ρ c = some (.bool z)) (ha : ev ρ a = some v) : OpV P ρ (.pick c a b) v := by subst hz; exact opv_pick_tt hc ha
theorem opv_pick_f' {c a b : Operand} {z : Bool} {v : Value} (hz : z = false) (hc : ev ρ c = some (.bool z)) (hb : ev ρ b = some v) : OpV P ρ (.pick c a b) v := by subst hz; exact opv_pick_ff hc hb
/-- No slot of the one is among the other's. -/
def apart : Env → Env → Bool
  | [], _ => true
  | (t, _) :: l, m => (match look m t with | none => true | some _ => false) && apart l m
theorem look_append : ∀ (J m : Env) (t : Nat), look (J ++ m) t = match look J t with | some v => some v | none => look m t
  | [], _, _ => rfl
  | (a, u) :: J, m, t => by
    simp only [List.cons_append, look]
    cases Nat.beq a t with
    | true => rfl
    | false => exact look_append J m t
theorem apart_spec : ∀ {J m : Env} {t : Nat} {v : Value}, apart J m = true → look J t = some v → look m t = none
  | [], _, _, _, _, h => by simp [look] at h
  | (a, u) :: J, m, t, v, hd, h => by
    simp only [apart, Bool.and_eq_true] at hd
    simp only [look] at h
    cases hb : Nat.beq a t with
    | true =>
      have : a = t := Nat.eq_of_beq_eq_true hb
      subst this
      have h1 := hd.1
      cases hl : look m a with
      | none => rfl
      | some x => simp [hl] at h1
    | false => simp only [hb, cond_false] at h; exact apart_spec hd.2 h
theorem SO.fitc {d m : Nat} {v : Value} {ρ0 ρ1 : Env} (hk : SO P n Z w0 ops os ((d, v) :: ρ0) H) (hρ : ρ1.drop m = ρ0) (hv : look ρ1 d = some v) (ha : apart (ρ1.take m) ρ0 = true) : SO P n Z w0 ops os ρ1 H := by
  intro a w h1 h2 h3 h4 h5
  refine hk a w h1 (fun t u hu => ?_) h3 h4 h5
  simp only [look] at hu
  cases hb : Nat.beq d t with
  | true =>
    have : d = t := Nat.eq_of_beq_eq_true hb
    subst this
    simp only [hb, cond_true] at hu
    exact h2 d u (by rw [hv, hu])
  | false =>
    simp only [hb, cond_false] at hu
    refine h2 t u ?_
    rw [← List.take_append_drop m ρ1, look_append, hρ]
    cases hl : look (ρ1.take m) t with
    | none => exact hu
    | some x => rw [apart_spec ha hl] at hu; cases hu
theorem perm1 {A0 X : HProp} {l : List HProp} : (A0 :: X :: l).Perm (X :: A0 :: l) := List.perm_middle (l₁ := [A0])
theorem SO.b1 {A0 X : HProp} (h : SO P n Z w0 ops os ρ (X :: A0 :: l)) : SO P n Z w0 ops os ρ (A0 :: X :: l) := .bring perm1 h
theorem S.b1 {A0 X : HProp} (h : S P f n R w0 k ρ (X :: A0 :: l)) : S P f n R w0 k ρ (A0 :: X :: l) := .bring perm1 h
theorem perm2 {A0 A1 X : HProp} {l : List HProp} : (A0 :: A1 :: X :: l).Perm (X :: A0 :: A1 :: l) := List.perm_middle (l₁ := [A0, A1])
theorem SO.b2 {A0 A1 X : HProp} (h : SO P n Z w0 ops os ρ (X :: A0 :: A1 :: l)) : SO P n Z w0 ops os ρ (A0 :: A1 :: X :: l) := .bring perm2 h
theorem S.b2 {A0 A1 X : HProp} (h : S P f n R w0 k ρ (X :: A0 :: A1 :: l)) : S P f n R w0 k ρ (A0 :: A1 :: X :: l) := .bring perm2 h
theorem perm3 {A0 A1 A2 X : HProp} {l : List HProp} : (A0 :: A1 :: A2 :: X :: l).Perm (X :: A0 :: A1 :: A2 :: l) := List.perm_middle (l₁ := [A0, A1, A2])
theorem SO.b3 {A0 A1 A2 X : HProp} (h : SO P n Z w0 ops os ρ (X :: A0 :: A1 :: A2 :: l)) : SO P n Z w0 ops os ρ (A0 :: A1 :: A2 :: X :: l) := .bring perm3 h
theorem S.b3 {A0 A1 A2 X : HProp} (h : S P f n R w0 k ρ (X :: A0 :: A1 :: A2 :: l)) : S P f n R w0 k ρ (A0 :: A1 :: A2 :: X :: l) := .bring perm3 h
theorem perm4 {A0 A1 A2 A3 X : HProp} {l : List HProp} : (A0 :: A1 :: A2 :: A3 :: X :: l).Perm (X :: A0 :: A1 :: A2 :: A3 :: l) := List.perm_middle (l₁ := [A0, A1, A2, A3])
theorem SO.b4 {A0 A1 A2 A3 X : HProp} (h : SO P n Z w0 ops os ρ (X :: A0 :: A1 :: A2 :: A3 :: l)) : SO P n Z w0 ops os ρ (A0 :: A1 :: A2 :: A3 :: X :: l) := .bring perm4 h
theorem S.b4 {A0 A1 A2 A3 X : HProp} (h : S P f n R w0 k ρ (X :: A0 :: A1 :: A2 :: A3 :: l)) : S P f n R w0 k ρ (A0 :: A1 :: A2 :: A3 :: X :: l) := .bring perm4 h
theorem perm5 {A0 A1 A2 A3 A4 X : HProp} {l : List HProp} : (A0 :: A1 :: A2 :: A3 :: A4 :: X :: l).Perm (X :: A0 :: A1 :: A2 :: A3 :: A4 :: l) := List.perm_middle (l₁ := [A0, A1, A2, A3, A4])
theorem SO.b5 {A0 A1 A2 A3 A4 X : HProp} (h : SO P n Z w0 ops os ρ (X :: A0 :: A1 :: A2 :: A3 :: A4 :: l)) : SO P n Z w0 ops os ρ (A0 :: A1 :: A2 :: A3 :: A4 :: X :: l) := .bring perm5 h
theorem S.b5 {A0 A1 A2 A3 A4 X : HProp} (h : S P f n R w0 k ρ (X :: A0 :: A1 :: A2 :: A3 :: A4 :: l)) : S P f n R w0 k ρ (A0 :: A1 :: A2 :: A3 :: A4 :: X :: l) := .bring perm5 h
theorem perm6 {A0 A1 A2 A3 A4 A5 X : HProp} {l : List HProp} : (A0 :: A1 :: A2 :: A3 :: A4 :: A5 :: X :: l).Perm (X :: A0 :: A1 :: A2 :: A3 :: A4 :: A5 :: l) := List.perm_middle (l₁ := [A0, A1, A2, A3, A4, A5])
theorem SO.b6 {A0 A1 A2 A3 A4 A5 X : HProp} (h : SO P n Z w0 ops os ρ (X :: A0 :: A1 :: A2 :: A3 :: A4 :: A5 :: l)) : SO P n Z w0 ops os ρ (A0 :: A1 :: A2 :: A3 :: A4 :: A5 :: X :: l) := .bring perm6 h
theorem S.b6 {A0 A1 A2 A3 A4 A5 X : HProp} (h : S P f n R w0 k ρ (X :: A0 :: A1 :: A2 :: A3 :: A4 :: A5 :: l)) : S P f n R w0 k ρ (A0 :: A1 :: A2 :: A3 :: A4 :: A5 :: X :: l) := .bring perm6 h
theorem perm7 {A0 A1 A2 A3 A4 A5 A6 X : HProp} {l : List HProp} : (A0 :: A1 :: A2 :: A3 :: A4 :: A5 :: A6 :: X :: l).Perm (X :: A0 :: A1 :: A2 :: A3 :: A4 :: A5 :: A6 :: l) := List.perm_middle (l₁ := [A0, A1, A2, A3, A4, A5, A6])
theorem SO.b7 {A0 A1 A2 A3 A4 A5 A6 X : HProp} (h : SO P n Z w0 ops os ρ (X :: A0 :: A1 :: A2 :: A3 :: A4 :: A5 :: A6 :: l)) : SO P n Z w0 ops os ρ (A0 :: A1 :: A2 :: A3 :: A4 :: A5 :: A6 :: X :: l) := .bring perm7 h
theorem S.b7 {A0 A1 A2 A3 A4 A5 A6 X : HProp} (h : S P f n R w0 k ρ (X :: A0 :: A1 :: A2 :: A3 :: A4 :: A5 :: A6 :: l)) : S P f n R w0 k ρ (A0 :: A1 :: A2 :: A3 :: A4 :: A5 :: A6 :: X :: l) := .bring perm7 h
theorem perm8 {A0 A1 A2 A3 A4 A5 A6 A7 X : HProp} {l : List HProp} : (A0 :: A1 :: A2 :: A3 :: A4 :: A5 :: A6 :: A7 :: X :: l).Perm (X :: A0 :: A1 :: A2 :: A3 :: A4 :: A5 :: A6 :: A7 :: l) := List.perm_middle (l₁ := [A0, A1, A2, A3, A4, A5, A6, A7])
theorem SO.b8 {A0 A1 A2 A3 A4 A5 A6 A7 X : HProp} (h : SO P n Z w0 ops os ρ (X :: A0 :: A1 :: A2 :: A3 :: A4 :: A5 :: A6 :: A7 :: l)) : SO P n Z w0 ops os ρ (A0 :: A1 :: A2 :: A3 :: A4 :: A5 :: A6 :: A7 :: X :: l) := .bring perm8 h
theorem S.b8 {A0 A1 A2 A3 A4 A5 A6 A7 X : HProp} (h : S P f n R w0 k ρ (X :: A0 :: A1 :: A2 :: A3 :: A4 :: A5 :: A6 :: A7 :: l)) : S P f n R w0 k ρ (A0 :: A1 :: A2 :: A3 :: A4 :: A5 :: A6 :: A7 :: X :: l) := .bring perm8 h
theorem perm9 {A0 A1 A2 A3 A4 A5 A6 A7 A8 X : HProp} {l : List HProp} : (A0 :: A1 :: A2 :: A3 :: A4 :: A5 :: A6 :: A7 :: A8 :: X :: l).Perm (X :: A0 :: A1 :: A2 :: A3 :: A4 :: A5 :: A6 :: A7 :: A8 :: l) := List.perm_middle (l₁ := [A0, A1, A2, A3, A4, A5, A6, A7, A8])
theorem SO.b9 {A0 A1 A2 A3 A4 A5 A6 A7 A8 X : HProp} (h : SO P n Z w0 ops os ρ (X :: A0 :: A1 :: A2 :: A3 :: A4 :: A5 :: A6 :: A7 :: A8 :: l)) : SO P n Z w0 ops os ρ (A0 :: A1 :: A2 :: A3 :: A4 :: A5 :: A6 :: A7 :: A8 :: X :: l) := .bring perm9 h
theorem S.b9 {A0 A1 A2 A3 A4 A5 A6 A7 A8 X : HProp} (h : S P f n R w0 k ρ (X :: A0 :: A1 :: A2 :: A3 :: A4 :: A5 :: A6 :: A7 :: A8 :: l)) : S P f n R w0 k ρ (A0 :: A1 :: A2 :: A3 :: A4 :: A5 :: A6 :: A7 :: A8 :: X :: l) := .bring perm9 h
theorem perm10 {A0 A1 A2 A3 A4 A5 A6 A7 A8 A9 X : HProp} {l : List HProp} : (A0 :: A1 :: A2 :: A3 :: A4 :: A5 :: A6 :: A7 :: A8 :: A9 :: X :: l).Perm (X :: A0 :: A1 :: A2 :: A3 :: A4 :: A5 :: A6 :: A7 :: A8 :: A9 :: l) := List.perm_middle (l₁ := [A0, A1, A2, A3, A4, A5, A6, A7, A8, A9])
theorem SO.b10 {A0 A1 A2 A3 A4 A5 A6 A7 A8 A9 X : HProp} (h : SO P n Z w0 ops os ρ (X :: A0 :: A1 :: A2 :: A3 :: A4 :: A5 :: A6 :: A7 :: A8 :: A9 :: l)) : SO P n Z w0 ops os ρ (A0 :: A1 :: A2 :: A3 :: A4 :: A5 :: A6 :: A7 :: A8 :: A9 :: X :: l) := .bring perm10 h
theorem S.b10 {A0 A1 A2 A3 A4 A5 A6 A7 A8 A9 X : HProp} (h : S P f n R w0 k ρ (X :: A0 :: A1 :: A2 :: A3 :: A4 :: A5 :: A6 :: A7 :: A8 :: A9 :: l)) : S P f n R w0 k ρ (A0 :: A1 :: A2 :: A3 :: A4 :: A5 :: A6 :: A7 :: A8 :: A9 :: X :: l) := .bring perm10 h
theorem perm11 {A0 A1 A2 A3 A4 A5 A6 A7 A8 A9 A10 X : HProp} {l : List HProp} : (A0 :: A1 :: A2 :: A3 :: A4 :: A5 :: A6 :: A7 :: A8 :: A9 :: A10 :: X :: l).Perm (X :: A0 :: A1 :: A2 :: A3 :: A4 :: A5 :: A6 :: A7 :: A8 :: A9 :: A10 :: l) := List.perm_middle (l₁ := [A0, A1, A2, A3, A4, A5, A6, A7, A8, A9, A10])
theorem SO.b11 {A0 A1 A2 A3 A4 A5 A6 A7 A8 A9 A10 X : HProp} (h : SO P n Z w0 ops os ρ (X :: A0 :: A1 :: A2 :: A3 :: A4 :: A5 :: A6 :: A7 :: A8 :: A9 :: A10 :: l)) : SO P n Z w0 ops os ρ (A0 :: A1 :: A2 :: A3 :: A4 :: A5 :: A6 :: A7 :: A8 :: A9 :: A10 :: X :: l) := .bring perm11 h
theorem S.b11 {A0 A1 A2 A3 A4 A5 A6 A7 A8 A9 A10 X : HProp} (h : S P f n R w0 k ρ (X :: A0 :: A1 :: A2 :: A3 :: A4 :: A5 :: A6 :: A7 :: A8 :: A9 :: A10 :: l)) : S P f n R w0 k ρ (A0 :: A1 :: A2 :: A3 :: A4 :: A5 :: A6 :: A7 :: A8 :: A9 :: A10 :: X :: l) := .bring perm11 h
end
section
variable {P : Program} {f : FuncId} {n : Nat} {R : Ending → World → Prop} {w0 : World} {k : List Item} {ρ : Env} {H : List HProp}
theorem S.cutP {x : Code} {G : Type} (Φ : G → Prop) (ρ2 : G → Env) (H2 : G → List HProp) (h1 : (∀ g, Φ g → S P f n R w0 k (ρ2 g) (H2 g)) → S P f n R w0 (.code x :: k) ρ H) (h2 : ∀ g, Φ g → S P f n R w0 k (ρ2 g) (H2 g)) : S P f n R w0 (.code x :: k) ρ H := h1 h2
end
def Brk.go {α β γ : Type} (o : Brk α β) (f : α → γ) (g : β → γ) : γ := match o with | .ret a => f a | .nx b => g b
theorem Brk.of_ret {α β γ : Type} {a : α} {f : α → γ} {g : β → γ} {r : γ} (h : (Brk.ret a).go f g = r) : f a = r := h
theorem Brk.of_nx {α β γ : Type} {b : β} {f : α → γ} {g : β → γ} {r : γ} (h : (Brk.nx b).go f g = r) : g b = r := h
theorem VM.of_ret {V : VI} {α β γ : Type} {a : α} {f : α → VM γ} {g : β → VM γ} {s : V.S} {r : Option (γ × V.S)} (h : VM.run V ((Brk.ret a).go f g) s = r) : VM.run V (f a) s = r := h
theorem VM.of_nx {V : VI} {α β γ : Type} {b : β} {f : α → VM γ} {g : β → VM γ} {s : V.S} {r : Option (γ × V.S)} (h : VM.run V ((Brk.nx b).go f g) s = r) : VM.run V (g b) s = r := h
namespace VM
variable {α β : Type} (V : VI)
theorem rd_some {i : Int} {k : Int → VM α} {s : V.S} {r : α × V.S} (h : (VM.rd i k).run V s = some r) : ∃ t s1, V.rd s i = (t, s1) ∧ (k t).run V s1 = some r := ⟨(V.rd s i).1, (V.rd s i).2, rfl, h⟩
theorem wr_some {i v : Int} {k : VM α} {s : V.S} {r : α × V.S} (h : (VM.wr i v k).run V s = some r) : ∃ s1, V.wr s i v = s1 ∧ k.run V s1 = some r := ⟨_, rfl, h⟩
end VM
section
variable {P : Program} {f : FuncId} {n : Nat} {Z : Act → World → Prop} {R : Ending → World → Prop} {w0 : World} {k : List Item} {ρ ρ' : Env} {rest : List HProp} {ops : Array Oper} {l : List Oper}
theorem SO.vread' (V : VW P) {d : Nat} {t : TypeId} {p : String} {af : Array Edge} {x y : Operand} {tys : Array TypeId} {s s1 : V.S} {i u : Int} (hd : Nat.blt d n = true) (hx : ev ρ x = some V.val) (hy : ev ρ y = some (.int .i64 i)) (hv : V.rd s i = (u, s1))
    (h : SO P n Z w0 ops l ((d, .int .u64 u) :: ρ) (V.rep s1 :: rest)) :
    SO P n Z w0 ops (⟨some d, .call ⟨.invoke x "Read", #[y], tys⟩, t, p, af, none⟩ :: l) ρ (V.rep s :: rest) := SO.vread V hd hx hy (by rw [hv]; exact h)
theorem SO.vwrite0' (V : VW P) {t : TypeId} {p : String} {af : Array Edge} {x y z : Operand} {tys : Array TypeId} {s s1 : V.S} {i u : Int} (hx : ev ρ x = some V.val) (hy : ev ρ y = some (.int .i64 i)) (hz : ev ρ z = some (.int .u64 u)) (hv : V.wr s i u = s1)
    (h : SO P n Z w0 ops l ρ (V.rep s1 :: rest)) :
    SO P n Z w0 ops (⟨none, .call ⟨.invoke x "Write", #[y, z], tys⟩, t, p, af, none⟩ :: l) ρ (V.rep s :: rest) := SO.vwrite0 V hx hy hz (by rw [hv]; exact h)
theorem SO.vwrite' (V : VW P) {d : Nat} {t : TypeId} {p : String} {af : Array Edge} {x y z : Operand} {tys : Array TypeId} {s s1 : V.S} {i u : Int} (hd : Nat.blt d n = true) (hx : ev ρ x = some V.val) (hy : ev ρ y = some (.int .i64 i)) (hz : ev ρ z = some (.int .u64 u)) (hv : V.wr s i u = s1)
    (h : SO P n Z w0 ops l ((d, .tuple #[]) :: ρ) (V.rep s1 :: rest)) :
    SO P n Z w0 ops (⟨some d, .call ⟨.invoke x "Write", #[y, z], tys⟩, t, p, af, none⟩ :: l) ρ (V.rep s :: rest) := SO.vwrite V hd hx hy hz (by rw [hv]; exact h)
end
end Go.Sl
