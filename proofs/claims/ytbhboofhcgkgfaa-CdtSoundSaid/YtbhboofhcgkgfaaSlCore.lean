/- The resource logic, part SlCore. On no condition. -/
import Derived.WalkKit
import Derived.Orders
set_option linter.all false
/-! Resources: a small separation logic over the model's heap, and a walk by it. -/
namespace Go.Sl

/-- A part of the heap. -/
abbrev PH := Nat → Option Obj
abbrev HProp := PH → Prop
def PH.Sub (m n : PH) : Prop := ∀ b o, m b = some o → n b = some o
def PH.Dj (m n : PH) : Prop := ∀ b, m b = none ∨ n b = none
def hp (w : World) : PH := fun b => w.heap[b]?

def star (A B : HProp) : HProp := fun m => ∃ m1 m2, PH.Dj m1 m2 ∧ PH.Sub m1 m ∧ PH.Sub m2 m ∧ A m1 ∧ B m2
def stars : List HProp → HProp
  | [] => fun _ => True
  | A :: l => star A (stars l)
def Sat (w : World) (l : List HProp) : Prop := stars l (hp w)

theorem PH.Sub.trans {a b c : PH} (h : a.Sub b) (k : b.Sub c) : a.Sub c := fun x o e => k x o (h x o e)
theorem PH.Sub.refl (a : PH) : a.Sub a := fun _ _ e => e
theorem PH.Dj.sub {a b a' b' : PH} (h : a.Dj b) (ha : a'.Sub a) (hb : b'.Sub b) : a'.Dj b' := fun x => by
  cases ea : a' x with
  | none => exact .inl rfl
  | some o =>
    cases eb : b' x with
    | none => exact .inr rfl
    | some o' =>
      have := ha x o ea; have := hb x o' eb
      rcases h x with h | h <;> simp_all
theorem PH.Dj.symm {a b : PH} (h : a.Dj b) : b.Dj a := fun x => (h x).symm
def PH.un (a b : PH) : PH := fun x => (a x).or (b x)
theorem PH.sub_un_l (a b : PH) : a.Sub (a.un b) := fun x o e => by simp [PH.un, e]
theorem PH.sub_un_r {a b : PH} (h : a.Dj b) : b.Sub (a.un b) := fun x o e => by
  rcases h x with h | h
  · simp [PH.un, h, e]
  · simp [e] at h
theorem PH.un_sub {a b m : PH} (ha : a.Sub m) (hb : b.Sub m) : (a.un b).Sub m := fun x o e => by
  cases h : a x with
  | none => simp [PH.un, h] at e; exact hb x o e
  | some y => simp [PH.un, h] at e; subst e; exact ha x y h
theorem PH.Dj.un {a b c : PH} (h1 : a.Dj c) (h2 : b.Dj c) : (a.un b).Dj c := fun x => by
  rcases h1 x with h | h
  · rcases h2 x with k | k
    · exact .inl (by simp [PH.un, h, k])
    · exact .inr k
  · exact .inr h

theorem stars_mono : ∀ (l : List HProp) {m m' : PH}, m.Sub m' → stars l m → stars l m'
  | [], _, _, _, _ => trivial
  | _ :: _, _, _, hs, ⟨m1, m2, d, s1, s2, a, b⟩ => ⟨m1, m2, d, s1.trans hs, s2.trans hs, a, b⟩

theorem stars_swap {A B : HProp} {l : List HProp} {m : PH} (h : stars (A :: B :: l) m) : stars (B :: A :: l) m := by
  obtain ⟨m1, m2, d, s1, s2, a, n1, n2, e, t1, t2, b, r⟩ := h
  have d1 : m1.Dj n1 := d.sub (.refl _) t1
  have d2 : m1.Dj n2 := d.sub (.refl _) t2
  exact ⟨n1, m1.un n2, (PH.Dj.un d1 e.symm).symm, t1.trans s2, PH.un_sub s1 (t2.trans s2), b, m1, n2, d2, PH.sub_un_l _ _, PH.sub_un_r d2, a, r⟩
theorem stars_cons {A : HProp} {l l' : List HProp} (h : ∀ m, stars l m → stars l' m) {m : PH} (k : stars (A :: l) m) : stars (A :: l') m := by
  obtain ⟨m1, m2, d, s1, s2, a, b⟩ := k
  exact ⟨m1, m2, d, s1, s2, a, h _ b⟩
theorem stars_perm {l l' : List HProp} (h : l.Perm l') : ∀ {m : PH}, stars l m → stars l' m := by
  induction h with
  | nil => exact fun h => h
  | cons x _ ih => exact fun h => stars_cons (fun _ => ih) h
  | swap x y l => exact fun h => stars_swap h
  | trans _ _ ih1 ih2 => exact fun h => ih2 (ih1 h)
theorem Sat.perm {w : World} {l l' : List HProp} (h : Sat w l) (p : l.Perm l') : Sat w l' := stars_perm p h
theorem stars_drop {A : HProp} {l : List HProp} {m : PH} (h : stars (A :: l) m) : stars l m := by
  obtain ⟨m1, m2, d, s1, s2, a, b⟩ := h
  exact stars_mono l s2 b
theorem Sat.drop {w : World} {A : HProp} {l : List HProp} (h : Sat w (A :: l)) : Sat w l := stars_drop h
theorem stars_append : ∀ (l1 l2 : List HProp) (m : PH), stars (l1 ++ l2) m ↔ star (stars l1) (stars l2) m
  | [], l2, m => ⟨fun h => ⟨fun _ => none, m, fun _ => .inl rfl, fun _ _ e => by simp at e, .refl _, trivial, h⟩, fun ⟨_, _, _, _, s2, _, h⟩ => stars_mono l2 s2 h⟩
  | A :: l1, l2, m => by
    constructor
    · rintro ⟨m1, m2, d, s1, s2, a, h⟩
      obtain ⟨n1, n2, e, t1, t2, b, c⟩ := (stars_append l1 l2 m2).1 h
      refine ⟨m1.un n1, n2, ?_, PH.un_sub s1 (t1.trans s2), t2.trans s2, ⟨m1, n1, d.sub (.refl _) t1, PH.sub_un_l _ _, PH.sub_un_r (d.sub (.refl _) t1), a, b⟩, c⟩
      exact PH.Dj.un (d.sub (.refl _) t2) e
    · rintro ⟨m1, m2, d, s1, s2, ⟨n1, n2, e, t1, t2, a, b⟩, c⟩
      refine ⟨n1, n2.un m2, ?_, t1.trans s1, PH.un_sub (t2.trans s1) s2, a, (stars_append l1 l2 _).2 ⟨n2, m2, d.sub t2 (.refl _), PH.sub_un_l _ _, PH.sub_un_r (d.sub t2 (.refl _)), b, c⟩⟩
      exact (PH.Dj.un e.symm ((d.sub t1 (.refl _)).symm)).symm
theorem Sat.pack {w : World} {l1 l2 : List HProp} (h : Sat w (l1 ++ l2)) : Sat w (l1 ++ [stars l2]) := by
  obtain ⟨m1, m2, d, s1, s2, a, b⟩ := (stars_append l1 l2 _).1 h
  exact (stars_append _ _ _).2 ⟨m1, m2, d, s1, s2, a, m2, fun _ => none, fun _ => .inr rfl, .refl _, fun _ _ e => by simp at e, b, trivial⟩
theorem Sat.unpack {w : World} {l1 l2 : List HProp} (h : Sat w (l1 ++ [stars l2])) : Sat w (l1 ++ l2) := by
  obtain ⟨m1, m2, d, s1, s2, a, n1, n2, e, t1, t2, b, c⟩ := (stars_append l1 _ _).1 h
  exact (stars_append _ _ _).2 ⟨m1, m2, d, s1, s2, a, stars_mono _ t1 b⟩

/-- A pure fact, and what is told of a resource. -/
theorem Sat.head {w : World} {A : HProp} {l : List HProp} (h : Sat w (A :: l)) : ∃ m, PH.Sub m (hp w) ∧ A m := by
  obtain ⟨m1, m2, d, s1, s2, a, b⟩ := h
  exact ⟨m1, s1, a⟩
theorem Sat.weaken {w : World} {A B : HProp} {l : List HProp} (h : Sat w (A :: l)) (k : ∀ m, A m → B m) : Sat w (B :: l) := by
  obtain ⟨m1, m2, d, s1, s2, a, b⟩ := h
  exact ⟨m1, m2, d, s1, s2, k _ a, b⟩

/-- What is not A's own stays; what A' has was A's, or is new. -/
theorem Sat.update {w w' : World} {A A' : HProp} {l : List HProp} (h : Sat w (A :: l))
    (hu : ∀ m1, A m1 → PH.Sub m1 (hp w) → (∀ b, w.heap.size ≤ b → m1 b = none) → ∃ m1', A' m1' ∧ PH.Sub m1' (hp w') ∧ (∀ b, m1 b = none → b < w.heap.size → m1' b = none) ∧
      (∀ b, b < w.heap.size → m1 b = none → w'.heap[b]? = w.heap[b]?)) : Sat w' (A' :: l) := by
  obtain ⟨m1, m2, d, s1, s2, a, r⟩ := h
  have big : ∀ {m : PH}, PH.Sub m (hp w) → ∀ b, w.heap.size ≤ b → m b = none := fun {m} hs b hb => by
    cases e : m b with
    | none => rfl
    | some o => have := hs b o e; simp [hp, Array.getElem?_eq_none hb] at this
  obtain ⟨m1', a', s1', hn, hk⟩ := hu m1 a s1 (big s1)
  refine ⟨m1', m2, fun b => ?_, s1', fun b o e => ?_, a', r⟩
  · rcases Nat.lt_or_ge b w.heap.size with hb | hb
    · rcases d b with h | h
      · exact .inl (hn b h hb)
      · exact .inr h
    · exact .inr (big s2 b hb)
  · have hb : b < w.heap.size := by
      rcases Nat.lt_or_ge b w.heap.size with hb | hb
      · exact hb
      · simp [big s2 b hb] at e
    have h1 : m1 b = none := by rcases d b with h | h; exact h; simp [e] at h
    show w'.heap[b]? = some o
    rw [hk b hb h1]; exact s2 b o e

/-- Two worlds whose blocks are alike. -/
theorem Sat.same {w w' : World} {l : List HProp} (h : Sat w l) (hk : ∀ b, b < w.heap.size → w'.heap[b]? = w.heap[b]?) : Sat w' l := by
  refine stars_mono l (fun b o e => ?_) h
  have hb : b < w.heap.size := by
    rcases Nat.lt_or_ge b w.heap.size with hb | hb
    · exact hb
    · simp [hp, Array.getElem?_eq_none hb] at e
  show w'.heap[b]? = some o
  rw [hk b hb]; exact e

structure Keep (w w' : World) : Prop where
  os : w'.os = w.os
  tape : w'.tape = w.tape
  output : w'.output = w.output
  size : w.heap.size ≤ w'.heap.size
theorem Keep.refl (w : World) : Keep w w := ⟨rfl, rfl, rfl, Nat.le_refl _⟩
theorem Keep.trans {a b c : World} (h : Keep a b) (k : Keep b c) : Keep a c := ⟨k.os.trans h.os, k.tape.trans h.tape, k.output.trans h.output, Nat.le_trans h.size k.size⟩

/-! ### The frame's slots -/
abbrev Env := List (Nat × Value)
def look : Env → Nat → Option Value
  | [], _ => none
  | (k, v) :: l, t => bif Nat.beq k t then some v else look l t
def EnvOk (tmps : Array Value) (ρ : Env) : Prop := ∀ t v, look ρ t = some v → tmps[t]? = some v
def ev (ρ : Env) : Operand → Option Value
  | .tmp t => look ρ t
  | .const v => some v
  | .global g => some (.pointer (some ⟨g, 0, none⟩))
  | .func f => some (.func (.func f) #[] #[])
theorem EnvOk.ev {a : Act} {ρ : Env} (h : EnvOk a.tmps ρ) {x : Operand} {v : Value} (hx : ev ρ x = some v) : a.eval x = v := by
  cases x with
  | tmp t => have := h t v hx; simp [Act.eval, this]
  | const u => simpa [Sl.ev, Act.eval] using hx
  | global g => simpa [Sl.ev, Act.eval] using hx
  | func g => simpa [Sl.ev, Act.eval] using hx
theorem EnvOk.put {tmps : Array Value} {ρ : Env} (h : EnvOk tmps ρ) {d : Nat} (v : Value) (hd : d < tmps.size) : EnvOk (tmps.setIfInBounds d v) ((d, v) :: ρ) := by
  intro t u hu
  simp only [look] at hu
  cases hb : Nat.beq d t with
  | true =>
    have : d = t := Nat.eq_of_beq_eq_true hb
    subst this
    simp at hu; subst hu; simp [hd]
  | false =>
    have hne : d ≠ t := fun e => by subst e; simp at hb
    simp [hb] at hu
    rw [Array.getElem?_setIfInBounds_ne hne]; exact h t u hu
/-- Some slots are let go, or told in another order. -/
def Fit (ρ ρ' : Env) : Prop := ∀ p ∈ ρ', look ρ p.1 = some p.2
theorem look_mem : ∀ {ρ : Env} {t : Nat} {v : Value}, look ρ t = some v → (t, v) ∈ ρ
  | [], _, _, h => by simp [look] at h
  | (k, u) :: l, t, v, h => by
    simp only [look] at h
    cases hb : Nat.beq k t with
    | true => have : k = t := Nat.eq_of_beq_eq_true hb; subst this; simp at h; subst h; exact List.mem_cons_self
    | false => simp [hb] at h; exact List.mem_cons_of_mem _ (look_mem h)
theorem EnvOk.fit {tmps : Array Value} {ρ ρ' : Env} (h : EnvOk tmps ρ) (f : Fit ρ ρ') : EnvOk tmps ρ' := fun t v e => h t v (f (t, v) (look_mem e))

/-! ### Going on from a place in the code -/
def Goes (P : Program) (f : FuncId) (R : Ending → World → Prop) (todo : List Item) (a : Act) (w : World) : Prop :=
  ∀ (b : Frame) (cs : List Frame), b.fn = f → b.kind = .normal →
    ∃ e w' fr, R e w' ∧ Comes P (lone (b.at a todo) cs w) (lone fr cs w') e ∧ fr.fn = f ∧ fr.leaving P w' e
theorem Goes.step {P : Program} {f : FuncId} {R : Ending → World → Prop} {k k' : List Item} {a a' : Act} {w w' : World}
    (hs : ∀ (b : Frame) (cs : List Frame), b.fn = f → Go.step P (lone (b.at a k) cs w) = .next (lone (b.at a' k') cs w')) (h : Goes P f R k' a' w') : Goes P f R k a w := by
  intro b cs hb hk
  obtain ⟨e, w2, fr, hr, hc, h1, h2⟩ := h b cs hb hk
  exact ⟨e, w2, fr, hr, .of_steps (.one (hs b cs hb)) hc, h1, h2⟩
theorem Goes.of_wp {P : Program} {f : FuncId} {R : Ending → World → Prop} {c : Code} {k : List Item} {a : Act} {w : World}
    (h : c.wp P (fun e a w => e = .normal ∧ Goes P f R k a w) a w) : Goes P f R (.code c :: k) a w := by
  intro b cs hb hk
  obtain ⟨e, a', w', ⟨rfl, hq⟩, harr⟩ := h b k cs
  obtain ⟨e, w2, fr, hr, hc, h1, h2⟩ := hq b cs hb hk
  exact ⟨e, w2, fr, hr, .of_steps harr hc, h1, h2⟩
theorem Goes.ret {P : Program} {f : FuncId} {fn : Func} {R : Ending → World → Prop} {k : List Item} {a : Act} {w : World} {v : Value}
    (hf : P.funcs[f]? = some fn) (hd : a.defers = []) (hv : (results fn a.tmps).run P w = .ok v w) (hR : R (.returned v) w) : Goes P f R (.code .ret :: k) a w := by
  intro b cs hb hk
  exact ⟨.returned v, w, _, hR, .one step_ret, hb, rfl, hd, hk, fn, by simpa [Frame.at, hb] using hf, hv⟩
theorem Goes.fin {P : Program} {f : FuncId} {fn : Func} {R : Ending → World → Prop} {a : Act} {w : World} {v : Value}
    (hf : P.funcs[f]? = some fn) (hd : a.defers = []) (hv : (results fn a.tmps).run P w = .ok v w) (hR : R (.returned v) w) : Goes P f R [] a w := by
  intro b cs hb hk
  exact ⟨.returned v, w, _, hR, .one step_end, hb, rfl, hd, hk, fn, by simpa [Frame.at, hb] using hf, hv⟩
theorem Calls.of_goes {P : Program} {f : FuncId} {fn : Func} {c : Code} {args : Array Value} {w : World} {R : Ending → World → Prop}
    (hf : P.funcs[f]? = some fn) (hb : fn.body = some c)
    (h : Goes P f R [.code c] { tmps := args ++ Array.replicate (fn.ntmps - args.size) undef, defers := [] } w) : Calls P f args w R := by
  intro cs
  have henter : Frame.enter P f args .normal =
      ({ (default : Frame) with fn := f, kind := .normal } : Frame).at { tmps := args ++ Array.replicate (fn.ntmps - args.size) undef, defers := [] } [.code c] := by
    simp [Frame.enter, Frame.at, hf, hb]
  rw [henter]
  exact h _ cs rfl rfl

/-- In a frame of n slots, begun in w0: what these slots and resources lead to. -/
def St (n : Nat) (Z : Act → World → Prop) (w0 : World) (ρ : Env) (H : List HProp) : Prop :=
  ∀ (a : Act) (w : World), a.tmps.size = n → EnvOk a.tmps ρ → a.defers = [] → Sat w H → Keep w0 w → Z a w
/-- What is still to be done in a function leads to R. -/
def S (P : Program) (f : FuncId) (n : Nat) (R : Ending → World → Prop) (w0 : World) (k : List Item) (ρ : Env) (H : List HProp) : Prop :=
  ∀ (a : Act) (w : World), a.tmps.size = n → EnvOk a.tmps ρ → a.defers = [] → Sat w H → Keep w0 w → Goes P f R k a w
/-- Operations of a region, carried out from here on, lead to Z. -/
def SO (P : Program) (n : Nat) (Z : Act → World → Prop) (w0 : World) (ops : Array Oper) (l : List Oper) (ρ : Env) (H : List HProp) : Prop :=
  ∀ (a : Act) (w : World), a.tmps.size = n → EnvOk a.tmps ρ → a.defers = [] → Sat w H → Keep w0 w → wpList P ops (fun e a w => e = .normal ∧ Z a w) l a w

section
variable {P : Program} {f : FuncId} {n : Nat} {Z : Act → World → Prop} {R : Ending → World → Prop} {w0 : World} {k : List Item} {ρ ρ' : Env} {H H' : List HProp} {ops : Array Oper} {l : List Oper}

theorem S.fit (hf : Fit ρ ρ') (h : S P f n R w0 k ρ' H) : S P f n R w0 k ρ H := fun a w h1 h2 h3 h4 h5 => h a w h1 (h2.fit hf) h3 h4 h5
theorem SO.fit (hf : Fit ρ ρ') (h : SO P n Z w0 ops l ρ' H) : SO P n Z w0 ops l ρ H := fun a w h1 h2 h3 h4 h5 => h a w h1 (h2.fit hf) h3 h4 h5
theorem S.sat (hf : ∀ w, Sat w H → Sat w H') (h : S P f n R w0 k ρ H') : S P f n R w0 k ρ H := fun a w h1 h2 h3 h4 h5 => h a w h1 h2 h3 (hf w h4) h5
theorem SO.sat (hf : ∀ w, Sat w H → Sat w H') (h : SO P n Z w0 ops l ρ H') : SO P n Z w0 ops l ρ H := fun a w h1 h2 h3 h4 h5 => h a w h1 h2 h3 (hf w h4) h5
theorem S.seq {x y : Code} (h : S P f n R w0 (.code x :: .code y :: k) ρ H) : S P f n R w0 (.code (.seq x y) :: k) ρ H :=
  fun a w h1 h2 h3 h4 h5 => .step (fun _ _ _ => step_seq) (h a w h1 h2 h3 h4 h5)
theorem S.skip (h : S P f n R w0 k ρ H) : S P f n R w0 (.code .skip :: k) ρ H := fun a w h1 h2 h3 h4 h5 => .step (fun _ _ _ => step_skip) (h a w h1 h2 h3 h4 h5)
theorem S.label {i : Nat} (h : S P f n R w0 k ρ H) : S P f n R w0 (.code (.label i) :: k) ρ H := fun a w h1 h2 h3 h4 h5 => .step (fun _ _ _ => step_label) (h a w h1 h2 h3 h4 h5)
theorem S.block {i : Nat} {c : Code} (h : S P f n R w0 (.code c :: .inBlock i :: k) ρ H) : S P f n R w0 (.code (.block i c) :: k) ρ H :=
  fun a w h1 h2 h3 h4 h5 => .step (fun _ _ _ => step_block) (h a w h1 h2 h3 h4 h5)
theorem S.inBlock {i : Nat} (h : S P f n R w0 k ρ H) : S P f n R w0 (.inBlock i :: k) ρ H := fun a w h1 h2 h3 h4 h5 => .step (fun _ _ _ => step_inBlock) (h a w h1 h2 h3 h4 h5)
theorem S.loop {c : Code} (h : S P f n R w0 (.code c :: .inLoop c :: k) ρ H) : S P f n R w0 (.code (.loop c) :: k) ρ H :=
  fun a w h1 h2 h3 h4 h5 => .step (fun _ _ _ => step_loop) (h a w h1 h2 h3 h4 h5)
theorem S.again {c : Code} (h : S P f n R w0 (.code c :: .inLoop c :: k) ρ H) : S P f n R w0 (.inLoop c :: k) ρ H :=
  fun a w h1 h2 h3 h4 h5 => .step (fun _ _ _ => step_inLoop) (h a w h1 h2 h3 h4 h5)
theorem S.exit {i : Nat} {k' : List Item} (he : exitTo i k = some k') (h : S P f n R w0 k' ρ H) : S P f n R w0 (.code (.exit i) :: k) ρ H :=
  fun a w h1 h2 h3 h4 h5 => .step (fun _ _ _ => step_exit he) (h a w h1 h2 h3 h4 h5)
theorem S.cond {c : Operand} {x y : Code} {t : Bool} (hc : ev ρ c = some (.bool t)) (h : S P f n R w0 (.code (if t then x else y) :: k) ρ H) : S P f n R w0 (.code (.cond c x y) :: k) ρ H :=
  fun a w h1 h2 h3 h4 h5 => .step (fun _ _ _ => step_cond (h2.ev hc)) (h a w h1 h2 h3 h4 h5)
theorem S.cond_true {c : Operand} {x y : Code} (hc : ev ρ c = some (.bool true)) (h : S P f n R w0 (.code x :: k) ρ H) : S P f n R w0 (.code (.cond c x y) :: k) ρ H := S.cond hc h
theorem S.cond_false {c : Operand} {x y : Code} (hc : ev ρ c = some (.bool false)) (h : S P f n R w0 (.code y :: k) ρ H) : S P f n R w0 (.code (.cond c x y) :: k) ρ H := S.cond hc h
theorem S.region {i : Nat} {l : List Oper} (h : SO P n (Goes P f R k) w0 l.toArray l ρ H) : S P f n R w0 (.code (.region i l.toArray false) :: k) ρ H :=
  fun a w h1 h2 h3 h4 h5 => .of_wp (wp_region_lit (h a w h1 h2 h3 h4 h5))
theorem SO.nil (h : S P f n R w0 k ρ H) : SO P n (Goes P f R k) w0 ops [] ρ H := fun a w h1 h2 h3 h4 h5 => ⟨rfl, h a w h1 h2 h3 h4 h5⟩
theorem SO.nilZ (h : St n Z w0 ρ H) : SO P n Z w0 ops [] ρ H := fun a w h1 h2 h3 h4 h5 => ⟨rfl, h a w h1 h2 h3 h4 h5⟩
theorem S.ret1 {fn : Func} {t : Tmp} {v : Value} (hf : P.funcs[f]? = some fn) (hr : fn.results = #[.tmp t]) (hv : look ρ t = some v)
    (hR : ∀ w, Sat w H → Keep w0 w → R (.returned v) w) : S P f n R w0 (.code .ret :: k) ρ H :=
  fun a w _ h2 h3 h4 h5 => .ret hf h3 (by rw [results_tmp hr]; simp [h2 t v hv]) (hR w h4 h5)
theorem S.ret0 {fn : Func} (hf : P.funcs[f]? = some fn) (hr : fn.results = #[])
    (hR : ∀ w, Sat w H → Keep w0 w → R (.returned (.tuple #[])) w) : S P f n R w0 (.code .ret :: k) ρ H :=
  fun _ w _ _ h3 h4 h5 => .ret hf h3 (results_none hr _ _ _) (hR w h4 h5)
theorem S.fin0 {fn : Func} (hf : P.funcs[f]? = some fn) (hr : fn.results = #[])
    (hR : ∀ w, Sat w H → Keep w0 w → R (.returned (.tuple #[])) w) : S P f n R w0 [] ρ H :=
  fun _ w _ _ h3 h4 h5 => .fin hf h3 (results_none hr _ _ _) (hR w h4 h5)
theorem S.ret2 {fn : Func} {t u : Tmp} {v x : Value} (hf : P.funcs[f]? = some fn) (hr : fn.results = #[.tmp t, .tmp u]) (hv : look ρ t = some v) (hx : look ρ u = some x)
    (hR : ∀ w, Sat w H → Keep w0 w → R (.returned (.tuple #[v, x])) w) : S P f n R w0 (.code .ret :: k) ρ H :=
  fun a w _ h2 h3 h4 h5 => .ret hf h3 (by rw [results_tmp2 hr]; simp [h2 t v hv, h2 u x hx]) (hR w h4 h5)
theorem S.ret3 {fn : Func} {t u s : Tmp} {v x y : Value} (hf : P.funcs[f]? = some fn) (hr : fn.results = #[.tmp t, .tmp u, .tmp s]) (hv : look ρ t = some v) (hx : look ρ u = some x) (hy : look ρ s = some y)
    (hR : ∀ w, Sat w H → Keep w0 w → R (.returned (.tuple #[v, x, y])) w) : S P f n R w0 (.code .ret :: k) ρ H :=
  fun a w _ h2 h3 h4 h5 => .ret hf h3 (by simp [results, hr, h2 t v hv, h2 u x hx, h2 s y hy]) (hR w h4 h5)

/-! ### Operations -/
/-- An operation that only reckons: its value, in every world. -/
def OpV (P : Program) (ρ : Env) (o : Op) (v : Value) : Prop :=
  ∀ (r : Operand → Value) (w : World) (d : Option Tmp) (t : TypeId) (p : String) (af : Array Edge) (g : Option (Nat × Bool)), (∀ x u, ev ρ x = some u → r x = u) → (execOp r ⟨d, o, t, p, af, g⟩).run P w = .ok (.value v) w
theorem SO.v {d t : Nat} {o : Op} {p : String} {af : Array Edge} {v : Value} (hd : Nat.blt d n = true) (ho : OpV P ρ o v) (h : SO P n Z w0 ops l ((d, v) :: ρ) H) :
    SO P n Z w0 ops (⟨some d, o, t, p, af, none⟩ :: l) ρ H := by
  intro a w h1 h2 h3 h4 h5
  refine wpList_plain rfl fun K hK => ?_
  unfold Oper.wp
  rw [ho a.eval w _ _ _ _ _ (fun x u => h2.ev)]
  have hd' : d < n := by simpa using hd
  exact hK _ _ (h _ w (by simpa [Act.put] using h1) (h2.put v (by omega)) h3 h4 h5)
theorem SO.take {d : Option Tmp} {t : TypeId} {o : Op} {p : String} {af : Array Edge} {j : Nat} {b : Bool} {oj : Oper} {dj : Tmp} (hj : ops[j]? = some oj) (hdj : oj.dst = some dj) (hv : look ρ dj = some (.bool b))
    (h : SO P n Z w0 ops (⟨d, o, t, p, af, none⟩ :: l) ρ H) : SO P n Z w0 ops (⟨d, o, t, p, af, some (j, b)⟩ :: l) ρ H := by
  intro a w h1 h2 h3 h4 h5
  have := h a w h1 h2 h3 h4 h5
  have hy : yielded ops a.tmps j = some b := by simp [yielded, hj, hdj, h2 dj _ hv]
  unfold wpList at this ⊢
  rw [if_pos (by simp [Region.wanted, hy])]
  rw [if_pos (by simp [Region.wanted])] at this
  exact this
theorem SO.pass {d : Nat} {t : TypeId} {o : Op} {p : String} {af : Array Edge} {j : Nat} {b c : Bool} {oj : Oper} {dj : Tmp} (hj : ops[j]? = some oj) (hdj : oj.dst = some dj) (hv : look ρ dj = some (.bool c)) (hbc : (c == b) = false) (hd : Nat.blt d n = true)
    (h : SO P n Z w0 ops l ((d, undef) :: ρ) H) : SO P n Z w0 ops (⟨some d, o, t, p, af, some (j, b)⟩ :: l) ρ H := by
  intro a w h1 h2 h3 h4 h5
  have hy : yielded ops a.tmps j = some c := by simp [yielded, hj, hdj, h2 dj _ hv]
  unfold wpList
  rw [if_neg (by simp only [Region.wanted, hy]; simpa using hbc)]
  have hd' : d < n := by simpa using hd
  exact h _ w (by simpa [Act.put] using h1) (h2.put undef (by omega)) h3 h4 h5
/-- The group's own guard was not given: so are those that hang on it. -/
theorem SO.pass_undef {d : Nat} {t : TypeId} {o : Op} {p : String} {af : Array Edge} {j : Nat} {b : Bool} {oj : Oper} {dj : Tmp} (hj : ops[j]? = some oj) (hdj : oj.dst = some dj) (hv : look ρ dj = some undef) (hd : Nat.blt d n = true)
    (h : SO P n Z w0 ops l ((d, undef) :: ρ) H) : SO P n Z w0 ops (⟨some d, o, t, p, af, some (j, b)⟩ :: l) ρ H := by
  intro a w h1 h2 h3 h4 h5
  have hy : yielded ops a.tmps j = none := by simp [yielded, hj, hdj, h2 dj _ hv, undef]
  unfold wpList
  rw [if_neg (by simp [Region.wanted, hy])]
  have hd' : d < n := by simpa using hd
  exact h _ w (by simpa [Act.put] using h1) (h2.put undef (by omega)) h3 h4 h5
end
end Go.Sl
