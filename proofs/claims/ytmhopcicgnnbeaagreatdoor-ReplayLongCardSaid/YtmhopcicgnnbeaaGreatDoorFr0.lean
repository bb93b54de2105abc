/- The resource logic, parts SlCore, SlOps, SlMem, SlCall, SlSeq, SlMore, SlView, SlKit. On no condition. -/
import Derived.WalkKit
import Derived.Orders
import Derived.RangeFuncLeaves
import Derived.RangeFuncRecord
import Derived.TacticsIn
import Derived.Laws.StructEq
import Derived.LaidEql
import Derived.WideLaws
import Derived.Laws.MakeOwn
import Derived.Laws.OwnMore
set_option linter.all false
/-! Resources: a small separation logic over the model's heap, and a walk by it. -/
namespace Go.Sl

/-- A part of the heap. -/
abbrev PH := Nat → Option Obj
abbrev HProp := PH → Prop
def PH.Sub (m n : PH) : Prop := ∀ b o, m b = some o → n b = some o
def PH.Dj (m n : PH) : Prop := ∀ b, m b = none ∨ n b = none
def hp (w : World) : PH := fun b => w.heap[b]?

def star (A B : HProp) : HProp := fun m => ∃ m1 m2, PH.Dj m1 m2 ∧ PH.Sub m1 m ∧ PH.Sub m2 m ∧ A m1 ∧ B m2
def stars : List HProp → HProp
  | [] => fun _ => True
  | A :: l => star A (stars l)
def Sat (w : World) (l : List HProp) : Prop := stars l (hp w)

theorem PH.Sub.trans {a b c : PH} (h : a.Sub b) (k : b.Sub c) : a.Sub c := fun x o e => k x o (h x o e)
theorem PH.Sub.refl (a : PH) : a.Sub a := fun _ _ e => e
theorem PH.Dj.sub {a b a' b' : PH} (h : a.Dj b) (ha : a'.Sub a) (hb : b'.Sub b) : a'.Dj b' := fun x => by
  cases ea : a' x with
  | none => exact .inl rfl
  | some o =>
    cases eb : b' x with
    | none => exact .inr rfl
    | some o' =>
      have := ha x o ea; have := hb x o' eb
      rcases h x with h | h <;> simp_all
theorem PH.Dj.symm {a b : PH} (h : a.Dj b) : b.Dj a := fun x => (h x).symm
def PH.un (a b : PH) : PH := fun x => (a x).or (b x)
theorem PH.sub_un_l (a b : PH) : a.Sub (a.un b) := fun x o e => by simp [PH.un, e]
theorem PH.sub_un_r {a b : PH} (h : a.Dj b) : b.Sub (a.un b) := fun x o e => by
  rcases h x with h | h
  · simp [PH.un, h, e]
  · simp [e] at h
theorem PH.un_sub {a b m : PH} (ha : a.Sub m) (hb : b.Sub m) : (a.un b).Sub m := fun x o e => by
  cases h : a x with
  | none => simp [PH.un, h] at e; exact hb x o e
  | some y => simp [PH.un, h] at e; subst e; exact ha x y h
theorem PH.Dj.un {a b c : PH} (h1 : a.Dj c) (h2 : b.Dj c) : (a.un b).Dj c := fun x => by
  rcases h1 x with h | h
  · rcases h2 x with k | k
    · exact .inl (by simp [PH.un, h, k])
    · exact .inr k
  · exact .inr h

theorem stars_mono : ∀ (l : List HProp) {m m' : PH}, m.Sub m' → stars l m → stars l m'
  | [], _, _, _, _ => trivial
  | _ :: _, _, _, hs, ⟨m1, m2, d, s1, s2, a, b⟩ => ⟨m1, m2, d, s1.trans hs, s2.trans hs, a, b⟩

theorem stars_swap {A B : HProp} {l : List HProp} {m : PH} (h : stars (A :: B :: l) m) : stars (B :: A :: l) m := by
  obtain ⟨m1, m2, d, s1, s2, a, n1, n2, e, t1, t2, b, r⟩ := h
  have d1 : m1.Dj n1 := d.sub (.refl _) t1
  have d2 : m1.Dj n2 := d.sub (.refl _) t2
  exact ⟨n1, m1.un n2, (PH.Dj.un d1 e.symm).symm, t1.trans s2, PH.un_sub s1 (t2.trans s2), b, m1, n2, d2, PH.sub_un_l _ _, PH.sub_un_r d2, a, r⟩
theorem stars_cons {A : HProp} {l l' : List HProp} (h : ∀ m, stars l m → stars l' m) {m : PH} (k : stars (A :: l) m) : stars (A :: l') m := by
  obtain ⟨m1, m2, d, s1, s2, a, b⟩ := k
  exact ⟨m1, m2, d, s1, s2, a, h _ b⟩
theorem stars_perm {l l' : List HProp} (h : l.Perm l') : ∀ {m : PH}, stars l m → stars l' m := by
  induction h with
  | nil => exact fun h => h
  | cons x _ ih => exact fun h => stars_cons (fun _ => ih) h
  | swap x y l => exact fun h => stars_swap h
  | trans _ _ ih1 ih2 => exact fun h => ih2 (ih1 h)
theorem Sat.perm {w : World} {l l' : List HProp} (h : Sat w l) (p : l.Perm l') : Sat w l' := stars_perm p h
theorem stars_drop {A : HProp} {l : List HProp} {m : PH} (h : stars (A :: l) m) : stars l m := by
  obtain ⟨m1, m2, d, s1, s2, a, b⟩ := h
  exact stars_mono l s2 b
theorem Sat.drop {w : World} {A : HProp} {l : List HProp} (h : Sat w (A :: l)) : Sat w l := stars_drop h
theorem stars_append : ∀ (l1 l2 : List HProp) (m : PH), stars (l1 ++ l2) m ↔ star (stars l1) (stars l2) m
  | [], l2, m => ⟨fun h => ⟨fun _ => none, m, fun _ => .inl rfl, fun _ _ e => by simp at e, .refl _, trivial, h⟩, fun ⟨_, _, _, _, s2, _, h⟩ => stars_mono l2 s2 h⟩
  | A :: l1, l2, m => by
    constructor
    · rintro ⟨m1, m2, d, s1, s2, a, h⟩
      obtain ⟨n1, n2, e, t1, t2, b, c⟩ := (stars_append l1 l2 m2).1 h
      refine ⟨m1.un n1, n2, ?_, PH.un_sub s1 (t1.trans s2), t2.trans s2, ⟨m1, n1, d.sub (.refl _) t1, PH.sub_un_l _ _, PH.sub_un_r (d.sub (.refl _) t1), a, b⟩, c⟩
      exact PH.Dj.un (d.sub (.refl _) t2) e
    · rintro ⟨m1, m2, d, s1, s2, ⟨n1, n2, e, t1, t2, a, b⟩, c⟩
      refine ⟨n1, n2.un m2, ?_, t1.trans s1, PH.un_sub (t2.trans s1) s2, a, (stars_append l1 l2 _).2 ⟨n2, m2, d.sub t2 (.refl _), PH.sub_un_l _ _, PH.sub_un_r (d.sub t2 (.refl _)), b, c⟩⟩
      exact (PH.Dj.un e.symm ((d.sub t1 (.refl _)).symm)).symm
theorem Sat.pack {w : World} {l1 l2 : List HProp} (h : Sat w (l1 ++ l2)) : Sat w (l1 ++ [stars l2]) := by
  obtain ⟨m1, m2, d, s1, s2, a, b⟩ := (stars_append l1 l2 _).1 h
  exact (stars_append _ _ _).2 ⟨m1, m2, d, s1, s2, a, m2, fun _ => none, fun _ => .inr rfl, .refl _, fun _ _ e => by simp at e, b, trivial⟩
theorem Sat.unpack {w : World} {l1 l2 : List HProp} (h : Sat w (l1 ++ [stars l2])) : Sat w (l1 ++ l2) := by
  obtain ⟨m1, m2, d, s1, s2, a, n1, n2, e, t1, t2, b, c⟩ := (stars_append l1 _ _).1 h
  exact (stars_append _ _ _).2 ⟨m1, m2, d, s1, s2, a, stars_mono _ t1 b⟩

/-- A pure fact, and what is told of a resource. -/
theorem Sat.head {w : World} {A : HProp} {l : List HProp} (h : Sat w (A :: l)) : ∃ m, PH.Sub m (hp w) ∧ A m := by
  obtain ⟨m1, m2, d, s1, s2, a, b⟩ := h
  exact ⟨m1, s1, a⟩
theorem Sat.weaken {w : World} {A B : HProp} {l : List HProp} (h : Sat w (A :: l)) (k : ∀ m, A m → B m) : Sat w (B :: l) := by
  obtain ⟨m1, m2, d, s1, s2, a, b⟩ := h
  exact ⟨m1, m2, d, s1, s2, k _ a, b⟩

/-- What is not A's own stays; what A' has was A's, or is new. -/
theorem Sat.update {w w' : World} {A A' : HProp} {l : List HProp} (h : Sat w (A :: l))
    (hu : ∀ m1, A m1 → PH.Sub m1 (hp w) → (∀ b, w.heap.size ≤ b → m1 b = none) → ∃ m1', A' m1' ∧ PH.Sub m1' (hp w') ∧ (∀ b, m1 b = none → b < w.heap.size → m1' b = none) ∧
      (∀ b, b < w.heap.size → m1 b = none → w'.heap[b]? = w.heap[b]?)) : Sat w' (A' :: l) := by
  obtain ⟨m1, m2, d, s1, s2, a, r⟩ := h
  have big : ∀ {m : PH}, PH.Sub m (hp w) → ∀ b, w.heap.size ≤ b → m b = none := fun {m} hs b hb => by
    cases e : m b with
    | none => rfl
    | some o => have := hs b o e; simp [hp, Array.getElem?_eq_none hb] at this
  obtain ⟨m1', a', s1', hn, hk⟩ := hu m1 a s1 (big s1)
  refine ⟨m1', m2, fun b => ?_, s1', fun b o e => ?_, a', r⟩
  · rcases Nat.lt_or_ge b w.heap.size with hb | hb
    · rcases d b with h | h
      · exact .inl (hn b h hb)
      · exact .inr h
    · exact .inr (big s2 b hb)
  · have hb : b < w.heap.size := by
      rcases Nat.lt_or_ge b w.heap.size with hb | hb
      · exact hb
      · simp [big s2 b hb] at e
    have h1 : m1 b = none := by rcases d b with h | h; exact h; simp [e] at h
    show w'.heap[b]? = some o
    rw [hk b hb h1]; exact s2 b o e

/-- Two worlds whose blocks are alike. -/
theorem Sat.same {w w' : World} {l : List HProp} (h : Sat w l) (hk : ∀ b, b < w.heap.size → w'.heap[b]? = w.heap[b]?) : Sat w' l := by
  refine stars_mono l (fun b o e => ?_) h
  have hb : b < w.heap.size := by
    rcases Nat.lt_or_ge b w.heap.size with hb | hb
    · exact hb
    · simp [hp, Array.getElem?_eq_none hb] at e
  show w'.heap[b]? = some o
  rw [hk b hb]; exact e

structure Keep (w w' : World) : Prop where
  os : w'.os = w.os
  tape : w'.tape = w.tape
  output : w'.output = w.output
  size : w.heap.size ≤ w'.heap.size
theorem Keep.refl (w : World) : Keep w w := ⟨rfl, rfl, rfl, Nat.le_refl _⟩
theorem Keep.trans {a b c : World} (h : Keep a b) (k : Keep b c) : Keep a c := ⟨k.os.trans h.os, k.tape.trans h.tape, k.output.trans h.output, Nat.le_trans h.size k.size⟩

/-! ### The frame's slots -/
abbrev Env := List (Nat × Value)
def look : Env → Nat → Option Value
  | [], _ => none
  | (k, v) :: l, t => bif Nat.beq k t then some v else look l t
def EnvOk (tmps : Array Value) (ρ : Env) : Prop := ∀ t v, look ρ t = some v → tmps[t]? = some v
def ev (ρ : Env) : Operand → Option Value
  | .tmp t => look ρ t
  | .const v => some v
  | .global g => some (.pointer (some ⟨g, 0, none⟩))
  | .func f => some (.func (.func f) #[] #[])
theorem EnvOk.ev {a : Act} {ρ : Env} (h : EnvOk a.tmps ρ) {x : Operand} {v : Value} (hx : ev ρ x = some v) : a.eval x = v := by
  cases x with
  | tmp t => have := h t v hx; simp [Act.eval, this]
  | const u => simpa [Sl.ev, Act.eval] using hx
  | global g => simpa [Sl.ev, Act.eval] using hx
  | func g => simpa [Sl.ev, Act.eval] using hx
theorem EnvOk.put {tmps : Array Value} {ρ : Env} (h : EnvOk tmps ρ) {d : Nat} (v : Value) (hd : d < tmps.size) : EnvOk (tmps.setIfInBounds d v) ((d, v) :: ρ) := by
  intro t u hu
  simp only [look] at hu
  cases hb : Nat.beq d t with
  | true =>
    have : d = t := Nat.eq_of_beq_eq_true hb
    subst this
    simp at hu; subst hu; simp [hd]
  | false =>
    have hne : d ≠ t := fun e => by subst e; simp at hb
    simp [hb] at hu
    rw [Array.getElem?_setIfInBounds_ne hne]; exact h t u hu
/-- Some slots are let go, or told in another order. -/
def Fit (ρ ρ' : Env) : Prop := ∀ p ∈ ρ', look ρ p.1 = some p.2
theorem look_mem : ∀ {ρ : Env} {t : Nat} {v : Value}, look ρ t = some v → (t, v) ∈ ρ
  | [], _, _, h => by simp [look] at h
  | (k, u) :: l, t, v, h => by
    simp only [look] at h
    cases hb : Nat.beq k t with
    | true => have : k = t := Nat.eq_of_beq_eq_true hb; subst this; simp at h; subst h; exact List.mem_cons_self
    | false => simp [hb] at h; exact List.mem_cons_of_mem _ (look_mem h)
theorem EnvOk.fit {tmps : Array Value} {ρ ρ' : Env} (h : EnvOk tmps ρ) (f : Fit ρ ρ') : EnvOk tmps ρ' := fun t v e => h t v (f (t, v) (look_mem e))

/-! ### Going on from a place in the code -/
/-- Where a function, or a round, was begun: the world, what is deferred, and in which frames ('rd': none: as without a fence; some none: a function's; some (some l): a round's of the loop l). -/
structure Beg where
  w : World
  ds : List Deferred := []
  rd : Option (Option Nat) := none
def Beg.ro (b : Beg) : Option Nat := b.rd.getD none
def fw (ro : Option Nat) : Fence := { Fence.wide with round := ro }
theorem callsIn_fw {ro : Option Nat} {n : Nat} {P : Program} {f : FuncId} {args : Array Value} {w : World} {R : Ending → World → Prop} : CallsIn (fw ro) n P f args w R ↔ Calls P f args w R := callsIn_wide
theorem fenced_fw (P : Program) (ro : Option Nat) (m : Machine) : m.fenced P (fw ro) := fenced_wide P m
/-- Operations of a region. -/
def wpl (rd : Option (Option Nat)) (P : Program) (ops : Array Oper) (Q : Exit → Act → World → Prop) (l : List Oper) (a : Act) (w : World) : Prop :=
  match rd with
  | none => wpList P ops Q l a w
  | some ro => wpListIn (fw ro) 0 P ops Q l a w
section
variable {rd : Option (Option Nat)} {P : Program} {ops : Array Oper} {Q : Exit → Act → World → Prop} {l : List Oper} {o : Oper} {a : Act} {w w' : World}
theorem wpl_nil (h : Q .normal a w) : wpl rd P ops Q [] a w := by cases rd <;> exact h
theorem semAt_of {ro : Option Nat} {ρ : Operand → Value} {x : Next} (h : (execOp ρ o).run P w = .ok x w') (hx : ∀ d, x ≠ .defer d) : (o.semAt ro ρ).run P w = .ok x w' := by
  rw [Oper.semAt_eq ro ρ o, h]
  intro c hc
  have h2 := h
  simp only [execOp, hc] at h2
  rw [Sem.run_bind] at h2
  cases hr : (resolve ρ c o.type).run P w with
  | ok d w1 => rw [hr] at h2; simp only [Result.andThen_ok] at h2; injection h2 with h2 _; exact hx d h2.symm
  | halt s w1 => rw [hr] at h2; cases h2
theorem wpl_value {v : Value} (hg : o.guard = none) (h : (execOp a.eval o).run P w = .ok (.value v) w') (k : wpl rd P ops Q l (a.put o.dst v) w') : wpl rd P ops Q (o :: l) a w := by
  cases rd with
  | none =>
    refine wpList_plain hg fun K hK => ?_
    unfold Oper.wp
    rw [h]; exact hK _ _ k
  | some ro =>
    refine wpListIn_plain hg fun K hK => ⟨fun _ _ => trivial, ?_⟩
    rw [show (fw ro).round = ro from rfl, semAt_of h (fun _ => by simp)]; exact hK _ _ k
theorem wpl_skip (hg : o.guard = none) (h : (execOp a.eval o).run P w = .ok .skip w') (k : wpl rd P ops Q l (a.put o.dst undef) w') : wpl rd P ops Q (o :: l) a w := by
  cases rd with
  | none =>
    refine wpList_plain hg fun K hK => ?_
    unfold Oper.wp
    rw [h]; exact hK _ _ k
  | some ro =>
    refine wpListIn_plain hg fun K hK => ⟨fun _ _ => trivial, ?_⟩
    rw [show (fw ro).round = ro from rfl, semAt_of h (fun _ => by simp)]; exact hK _ _ k
theorem wpl_enter {f : FuncId} {args : Array Value} (hg : o.guard = none) (h : (execOp a.eval o).run P w = .ok (.enter f args) w') (k : Calls P f args w' fun e w'' => ∃ v, e = .returned v ∧ wpl rd P ops Q l (a.put o.dst v) w'') : wpl rd P ops Q (o :: l) a w := by
  cases rd with
  | none =>
    refine wpList_plain hg fun K hK => ?_
    unfold Oper.wp
    rw [h]
    refine k.mono ?_
    rintro e w2 ⟨v, rfl, hv⟩
    exact hK _ _ hv
  | some ro =>
    refine wpListIn_plain hg fun K hK => ⟨fun _ _ => trivial, ?_⟩
    rw [show (fw ro).round = ro from rfl, semAt_of h (fun _ => by simp)]
    refine ⟨fun z => (by cases z), callsIn_fw.2 (k.mono ?_)⟩
    rintro e w2 ⟨v, rfl, hv⟩
    exact hK _ _ hv
theorem wpl_take {d : Option Tmp} {p : Op} {t : TypeId} {q : String} {af : Array Edge} {g : Nat × Bool} (hw : Region.wanted ⟨d, p, t, q, af, some g⟩ (yielded ops a.tmps) = true) (h : wpl rd P ops Q (⟨d, p, t, q, af, none⟩ :: l) a w) : wpl rd P ops Q (⟨d, p, t, q, af, some g⟩ :: l) a w := by
  cases rd with
  | none =>
    simp only [wpl] at h ⊢
    unfold wpList at h ⊢
    rw [if_pos hw]
    rw [if_pos (by simp [Region.wanted])] at h
    exact h
  | some ro =>
    simp only [wpl] at h ⊢
    unfold wpListIn at h ⊢
    rw [if_pos hw]
    rw [if_pos (by simp [Region.wanted])] at h
    exact h
theorem wpl_pass (hw : ¬ Region.wanted o (yielded ops a.tmps) = true) (h : wpl rd P ops Q l (a.put o.dst undef) w) : wpl rd P ops Q (o :: l) a w := by
  cases rd with
  | none =>
    simp only [wpl] at h ⊢
    unfold wpList
    rw [if_neg hw]; exact h
  | some ro =>
    simp only [wpl] at h ⊢
    unfold wpListIn
    rw [if_neg hw]; exact ⟨fun _ _ => trivial, h⟩
end
/-- How it ends: a function leaves; a round hands a value back to who called it. -/
def Final (P : Program) (f : FuncId) (R : Ending → World → Prop) (cs : List Frame) (m : Machine) : Option Nat → Prop
  | none => ∃ e w' fr, R e w' ∧ Comes P m (lone fr cs w') e ∧ fr.fn = f ∧ fr.leaving P w' e
  | some _ => ∀ c cs', cs = c :: cs' → ∃ v w', R (.returned v) w' ∧ Steps P m (lone (c.finish v) cs' w')
theorem Final.of_steps {P : Program} {f : FuncId} {R : Ending → World → Prop} {cs : List Frame} {m m' : Machine} {ro : Option Nat} (hs : Steps P m m') (h : Final P f R cs m' ro) : Final P f R cs m ro := by
  cases ro with
  | none =>
    obtain ⟨e, w2, fr, hr, hc, h1, h2⟩ := h
    exact ⟨e, w2, fr, hr, .of_steps hs hc, h1, h2⟩
  | some l =>
    intro c cs' e
    obtain ⟨v, w2, hr, hc⟩ := h c cs' e
    exact ⟨v, w2, hr, hs.trans hc⟩
def Goes (P : Program) (f : FuncId) (ro : Option Nat) (R : Ending → World → Prop) (todo : List Item) (a : Act) (w : World) : Prop :=
  ∀ (b : Frame) (cs : List Frame), b.fn = f → b.kind = .normal → b.roundOf = ro → Final P f R cs (lone (b.atR a todo) cs w) ro
theorem Goes.step {P : Program} {f : FuncId} {ro : Option Nat} {R : Ending → World → Prop} {k k' : List Item} {a a' : Act} {w w' : World}
    (hs : ∀ (b : Frame) (cs : List Frame), b.fn = f → Go.step P (lone (b.atR a k) cs w) = .next (lone (b.atR a' k') cs w')) (h : Goes P f ro R k' a' w') : Goes P f ro R k a w := by
  intro b cs hb hk hr
  exact .of_steps (.one (hs b cs hb)) (h b cs hb hk hr)
theorem Goes.of_wp {P : Program} {f : FuncId} {R : Ending → World → Prop} {c : Code} {k : List Item} {a : Act} {w : World}
    (h : c.wp P (fun e a w => e = .normal ∧ Goes P f none R k a w) a w) : Goes P f none R (.code c :: k) a w := by
  intro b cs hb hk hn
  obtain ⟨e, a', w', ⟨rfl, hq⟩, harr⟩ := h b k cs
  rw [Frame.atR_of_none hn]
  refine .of_steps harr ?_
  have := hq b cs hb hk hn
  rwa [Frame.atR_of_none hn] at this
theorem Goes.of_wpIn {P : Program} {f : FuncId} {ro : Option Nat} {R : Ending → World → Prop} {c : Code} {k : List Item} {a : Act} {w : World}
    (h : c.wpIn (fw ro) 0 P (fun e a w => e = .normal ∧ Goes P f ro R k a w) a w) : Goes P f ro R (.code c :: k) a w := by
  intro b cs hb hk hn
  obtain ⟨e, a', w', ⟨rfl, hq⟩, harr⟩ := h b k cs hn trivial (room_wide _)
  exact .of_steps (StepsIn.steps harr) (hq b cs hb hk hn)
theorem Goes.ret {P : Program} {f : FuncId} {fn : Func} {R : Ending → World → Prop} {k : List Item} {a : Act} {w : World} {v : Value}
    (hf : P.funcs[f]? = some fn) (hd : a.defers = []) (hv : (results fn a.tmps).run P w = .ok v w) (hR : R (.returned v) w) : Goes P f none R (.code .ret :: k) a w := by
  intro b cs hb hk hn
  exact ⟨.returned v, w, _, hR, .one (stepR_ret hn), hb, rfl, hd, hk, fn, by simpa [Frame.atR, hb] using hf, hv⟩
theorem Goes.fin {P : Program} {f : FuncId} {fn : Func} {R : Ending → World → Prop} {a : Act} {w : World} {v : Value}
    (hf : P.funcs[f]? = some fn) (hd : a.defers = []) (hv : (results fn a.tmps).run P w = .ok v w) (hR : R (.returned v) w) : Goes P f none R [] a w := by
  intro b cs hb hk hn
  exact ⟨.returned v, w, _, hR, .one (stepR_end hn), hb, rfl, hd, hk, fn, by simpa [Frame.atR, hb] using hf, hv⟩
theorem Calls.of_goes {P : Program} {f : FuncId} {fn : Func} {c : Code} {args : Array Value} {w : World} {R : Ending → World → Prop}
    (hf : P.funcs[f]? = some fn) (hb : fn.body = some c)
    (h : Goes P f none R [.code c] { tmps := args ++ Array.replicate (fn.ntmps - args.size) undef, defers := [] } w) : Calls P f args w R := by
  intro cs
  have henter : Frame.enter P f args .normal =
      ({ (default : Frame) with fn := f, kind := .normal } : Frame).atR { tmps := args ++ Array.replicate (fn.ntmps - args.size) undef, defers := [] } [.code c] := by
    simp [Frame.enter, Frame.atR, hf, hb]; rfl
  rw [henter]
  exact h _ cs rfl rfl rfl

/-- In a frame of n slots, begun in w0: what these slots and resources lead to. -/
def St (n : Nat) (Z : Act → World → Prop) (w0 : Beg) (ρ : Env) (H : List HProp) : Prop :=
  ∀ (a : Act) (w : World), a.tmps.size = n → EnvOk a.tmps ρ → a.defers = w0.ds → Sat w H → Keep w0.w w → Z a w
/-- What is still to be done in a function leads to R. -/
def S (P : Program) (f : FuncId) (n : Nat) (R : Ending → World → Prop) (w0 : Beg) (k : List Item) (ρ : Env) (H : List HProp) : Prop :=
  ∀ (a : Act) (w : World), a.tmps.size = n → EnvOk a.tmps ρ → a.defers = w0.ds → Sat w H → Keep w0.w w → Goes P f w0.ro R k a w
/-- Operations of a region, carried out from here on, lead to Z. -/
def SO (P : Program) (n : Nat) (Z : Act → World → Prop) (w0 : Beg) (ops : Array Oper) (l : List Oper) (ρ : Env) (H : List HProp) : Prop :=
  ∀ (a : Act) (w : World), a.tmps.size = n → EnvOk a.tmps ρ → a.defers = w0.ds → Sat w H → Keep w0.w w → wpl w0.rd P ops (fun e a w => e = .normal ∧ Z a w) l a w

section
variable {P : Program} {f : FuncId} {n : Nat} {Z : Act → World → Prop} {R : Ending → World → Prop} {w0 : Beg} {k : List Item} {ρ ρ' : Env} {H H' : List HProp} {ops : Array Oper} {l : List Oper}

theorem S.fit (hf : Fit ρ ρ') (h : S P f n R w0 k ρ' H) : S P f n R w0 k ρ H := fun a w h1 h2 h3 h4 h5 => h a w h1 (h2.fit hf) h3 h4 h5
theorem SO.fit (hf : Fit ρ ρ') (h : SO P n Z w0 ops l ρ' H) : SO P n Z w0 ops l ρ H := fun a w h1 h2 h3 h4 h5 => h a w h1 (h2.fit hf) h3 h4 h5
theorem S.sat (hf : ∀ w, Sat w H → Sat w H') (h : S P f n R w0 k ρ H') : S P f n R w0 k ρ H := fun a w h1 h2 h3 h4 h5 => h a w h1 h2 h3 (hf w h4) h5
theorem SO.sat (hf : ∀ w, Sat w H → Sat w H') (h : SO P n Z w0 ops l ρ H') : SO P n Z w0 ops l ρ H := fun a w h1 h2 h3 h4 h5 => h a w h1 h2 h3 (hf w h4) h5
theorem S.seq {x y : Code} (h : S P f n R w0 (.code x :: .code y :: k) ρ H) : S P f n R w0 (.code (.seq x y) :: k) ρ H :=
  fun a w h1 h2 h3 h4 h5 => .step (fun _ _ _ => stepR_seq) (h a w h1 h2 h3 h4 h5)
theorem S.skip (h : S P f n R w0 k ρ H) : S P f n R w0 (.code .skip :: k) ρ H := fun a w h1 h2 h3 h4 h5 => .step (fun _ _ _ => stepR_skip) (h a w h1 h2 h3 h4 h5)
theorem S.label {i : Nat} (h : S P f n R w0 k ρ H) : S P f n R w0 (.code (.label i) :: k) ρ H := fun a w h1 h2 h3 h4 h5 => .step (fun _ _ _ => stepR_label) (h a w h1 h2 h3 h4 h5)
theorem S.block {i : Nat} {c : Code} (h : S P f n R w0 (.code c :: .inBlock i :: k) ρ H) : S P f n R w0 (.code (.block i c) :: k) ρ H :=
  fun a w h1 h2 h3 h4 h5 => .step (fun _ _ _ => stepR_block) (h a w h1 h2 h3 h4 h5)
theorem S.inBlock {i : Nat} (h : S P f n R w0 k ρ H) : S P f n R w0 (.inBlock i :: k) ρ H := fun a w h1 h2 h3 h4 h5 => .step (fun _ _ _ => stepR_inBlock) (h a w h1 h2 h3 h4 h5)
theorem S.loop {c : Code} (h : S P f n R w0 (.code c :: .inLoop c :: k) ρ H) : S P f n R w0 (.code (.loop c) :: k) ρ H :=
  fun a w h1 h2 h3 h4 h5 => .step (fun _ _ _ => stepR_loop) (h a w h1 h2 h3 h4 h5)
theorem S.again {c : Code} (h : S P f n R w0 (.code c :: .inLoop c :: k) ρ H) : S P f n R w0 (.inLoop c :: k) ρ H :=
  fun a w h1 h2 h3 h4 h5 => .step (fun _ _ _ => stepR_inLoop) (h a w h1 h2 h3 h4 h5)
theorem S.exit {i : Nat} {k' : List Item} (he : exitTo i k = some k') (h : S P f n R w0 k' ρ H) : S P f n R w0 (.code (.exit i) :: k) ρ H :=
  fun a w h1 h2 h3 h4 h5 => .step (fun _ _ _ => stepR_exit he) (h a w h1 h2 h3 h4 h5)
theorem S.cond {c : Operand} {x y : Code} {t : Bool} (hc : ev ρ c = some (.bool t)) (h : S P f n R w0 (.code (if t then x else y) :: k) ρ H) : S P f n R w0 (.code (.cond c x y) :: k) ρ H :=
  fun a w h1 h2 h3 h4 h5 => .step (fun _ _ _ => stepR_cond (h2.ev hc)) (h a w h1 h2 h3 h4 h5)
theorem S.cond_true {c : Operand} {x y : Code} (hc : ev ρ c = some (.bool true)) (h : S P f n R w0 (.code x :: k) ρ H) : S P f n R w0 (.code (.cond c x y) :: k) ρ H := S.cond hc h
theorem S.cond_false {c : Operand} {x y : Code} (hc : ev ρ c = some (.bool false)) (h : S P f n R w0 (.code y :: k) ρ H) : S P f n R w0 (.code (.cond c x y) :: k) ρ H := S.cond hc h
theorem S.region {i : Nat} {l : List Oper} (h : SO P n (Goes P f w0.ro R k) w0 l.toArray l ρ H) : S P f n R w0 (.code (.region i l.toArray false) :: k) ρ H :=
  fun a w h1 h2 h3 h4 h5 => by
    have := h a w h1 h2 h3 h4 h5
    obtain ⟨w1, ds, rd⟩ := w0
    cases rd with
    | none => exact .of_wp (wp_region_lit this)
    | some ro => exact .of_wpIn (wpIn_region_lit this)
theorem SO.nil (h : S P f n R w0 k ρ H) : SO P n (Goes P f w0.ro R k) w0 ops [] ρ H := fun a w h1 h2 h3 h4 h5 => wpl_nil ⟨rfl, h a w h1 h2 h3 h4 h5⟩
theorem SO.nilZ (h : St n Z w0 ρ H) : SO P n Z w0 ops [] ρ H := fun a w h1 h2 h3 h4 h5 => wpl_nil ⟨rfl, h a w h1 h2 h3 h4 h5⟩
theorem S.ret1 {fn : Func} {t : Tmp} {v : Value} (hf : P.funcs[f]? = some fn) (hr : fn.results = #[.tmp t]) (hv : look ρ t = some v)
    (hR : ∀ w, Sat w H → Keep w0.w w → R (.returned v) w) (hds : w0.ds = [] := by rfl) (hro : w0.ro = none := by rfl) : S P f n R w0 (.code .ret :: k) ρ H :=
  fun a w _ h2 h3 h4 h5 => by rw [hro]; exact .ret hf (h3.trans hds) (by rw [results_tmp hr]; simp [h2 t v hv]) (hR w h4 h5)
theorem S.ret0 {fn : Func} (hf : P.funcs[f]? = some fn) (hr : fn.results = #[])
    (hR : ∀ w, Sat w H → Keep w0.w w → R (.returned (.tuple #[])) w) (hds : w0.ds = [] := by rfl) (hro : w0.ro = none := by rfl) : S P f n R w0 (.code .ret :: k) ρ H :=
  fun _ w _ _ h3 h4 h5 => by rw [hro]; exact .ret hf (h3.trans hds) (results_none hr _ _ _) (hR w h4 h5)
theorem S.fin0 {fn : Func} (hf : P.funcs[f]? = some fn) (hr : fn.results = #[])
    (hR : ∀ w, Sat w H → Keep w0.w w → R (.returned (.tuple #[])) w) (hds : w0.ds = [] := by rfl) (hro : w0.ro = none := by rfl) : S P f n R w0 [] ρ H :=
  fun _ w _ _ h3 h4 h5 => by rw [hro]; exact .fin hf (h3.trans hds) (results_none hr _ _ _) (hR w h4 h5)
theorem S.ret2 {fn : Func} {t u : Tmp} {v x : Value} (hf : P.funcs[f]? = some fn) (hr : fn.results = #[.tmp t, .tmp u]) (hv : look ρ t = some v) (hx : look ρ u = some x)
    (hR : ∀ w, Sat w H → Keep w0.w w → R (.returned (.tuple #[v, x])) w) (hds : w0.ds = [] := by rfl) (hro : w0.ro = none := by rfl) : S P f n R w0 (.code .ret :: k) ρ H :=
  fun a w _ h2 h3 h4 h5 => by rw [hro]; exact .ret hf (h3.trans hds) (by rw [results_tmp2 hr]; simp [h2 t v hv, h2 u x hx]) (hR w h4 h5)
theorem S.ret3 {fn : Func} {t u s : Tmp} {v x y : Value} (hf : P.funcs[f]? = some fn) (hr : fn.results = #[.tmp t, .tmp u, .tmp s]) (hv : look ρ t = some v) (hx : look ρ u = some x) (hy : look ρ s = some y)
    (hR : ∀ w, Sat w H → Keep w0.w w → R (.returned (.tuple #[v, x, y])) w) (hds : w0.ds = [] := by rfl) (hro : w0.ro = none := by rfl) : S P f n R w0 (.code .ret :: k) ρ H :=
  fun a w _ h2 h3 h4 h5 => by rw [hro]; exact .ret hf (h3.trans hds) (by simp [results, hr, h2 t v hv, h2 u x hx, h2 s y hy]) (hR w h4 h5)

/-! ### Operations -/
/-- An operation that only reckons: its value, in every world. -/
def OpV (P : Program) (ρ : Env) (o : Op) (v : Value) : Prop :=
  ∀ (r : Operand → Value) (w : World) (d : Option Tmp) (t : TypeId) (p : String) (af : Array Edge) (g : Option (Nat × Bool)), (∀ x u, ev ρ x = some u → r x = u) → (execOp r ⟨d, o, t, p, af, g⟩).run P w = .ok (.value v) w
theorem SO.v {d t : Nat} {o : Op} {p : String} {af : Array Edge} {v : Value} (hd : Nat.blt d n = true) (ho : OpV P ρ o v) (h : SO P n Z w0 ops l ((d, v) :: ρ) H) :
    SO P n Z w0 ops (⟨some d, o, t, p, af, none⟩ :: l) ρ H := by
  intro a w h1 h2 h3 h4 h5
  have hd' : d < n := by simpa using hd
  exact wpl_value rfl (ho a.eval w _ _ _ _ _ (fun x u => h2.ev)) (h _ w (by simpa [Act.put] using h1) (h2.put v (by omega)) h3 h4 h5)
theorem SO.take {d : Option Tmp} {t : TypeId} {o : Op} {p : String} {af : Array Edge} {j : Nat} {b : Bool} {oj : Oper} {dj : Tmp} (hj : ops[j]? = some oj) (hdj : oj.dst = some dj) (hv : look ρ dj = some (.bool b))
    (h : SO P n Z w0 ops (⟨d, o, t, p, af, none⟩ :: l) ρ H) : SO P n Z w0 ops (⟨d, o, t, p, af, some (j, b)⟩ :: l) ρ H := by
  intro a w h1 h2 h3 h4 h5
  have := h a w h1 h2 h3 h4 h5
  have hy : yielded ops a.tmps j = some b := by simp [yielded, hj, hdj, h2 dj _ hv]
  exact wpl_take (by simp [Region.wanted, hy]) this
theorem SO.pass {d : Nat} {t : TypeId} {o : Op} {p : String} {af : Array Edge} {j : Nat} {b c : Bool} {oj : Oper} {dj : Tmp} (hj : ops[j]? = some oj) (hdj : oj.dst = some dj) (hv : look ρ dj = some (.bool c)) (hbc : (c == b) = false) (hd : Nat.blt d n = true)
    (h : SO P n Z w0 ops l ((d, undef) :: ρ) H) : SO P n Z w0 ops (⟨some d, o, t, p, af, some (j, b)⟩ :: l) ρ H := by
  intro a w h1 h2 h3 h4 h5
  have hy : yielded ops a.tmps j = some c := by simp [yielded, hj, hdj, h2 dj _ hv]
  have hd' : d < n := by simpa using hd
  exact wpl_pass (by simp only [Region.wanted, hy]; simpa using hbc) <| h _ w (by simpa [Act.put] using h1) (h2.put undef (by omega)) h3 h4 h5
/-- The group's own guard was not given: so are those that hang on it. -/
theorem SO.pass_undef {d : Nat} {t : TypeId} {o : Op} {p : String} {af : Array Edge} {j : Nat} {b : Bool} {oj : Oper} {dj : Tmp} (hj : ops[j]? = some oj) (hdj : oj.dst = some dj) (hv : look ρ dj = some undef) (hd : Nat.blt d n = true)
    (h : SO P n Z w0 ops l ((d, undef) :: ρ) H) : SO P n Z w0 ops (⟨some d, o, t, p, af, some (j, b)⟩ :: l) ρ H := by
  intro a w h1 h2 h3 h4 h5
  have hy : yielded ops a.tmps j = none := by simp [yielded, hj, hdj, h2 dj _ hv, undef]
  have hd' : d < n := by simpa using hd
  exact wpl_pass (by simp [Region.wanted, hy]) <| h _ w (by simpa [Act.put] using h1) (h2.put undef (by omega)) h3 h4 h5
end
end Go.Sl
namespace Go.Sl
open Go.RowKit
section
variable {P : Program} {ρ : Env}

theorem opv_move {x : Operand} {v : Value} (h : ev ρ x = some v) : OpV P ρ (.move x) v := fun r w d t p af g hr => by simp [execOp, hr x v h]
theorem opv_assign {x : Operand} {v : Value} (h : ev ρ x = some v) : OpV P ρ (.assign x) v := fun r w d t p af g hr => by simp [execOp, hr x v h]
theorem opv_pick_tt {c a b : Operand} {v : Value} (hc : ev ρ c = some (.bool true)) (ha : ev ρ a = some v) : OpV P ρ (.pick c a b) v :=
  fun r w d t p af g hr => by simp [execOp, hr c _ hc, hr a _ ha, asBool]
theorem opv_pick_ff {c a b : Operand} {v : Value} (hc : ev ρ c = some (.bool false)) (hb : ev ρ b = some v) : OpV P ρ (.pick c a b) v :=
  fun r w d t p af g hr => by simp [execOp, hr c _ hc, hr b _ hb, asBool]
theorem opv_pick {c a b : Operand} {z p q : Bool} (hc : ev ρ c = some (.bool z)) (ha : ev ρ a = some (.bool p)) (hb : ev ρ b = some (.bool q)) : OpV P ρ (.pick c a b) (.bool (bif z then p else q)) :=
  fun r w d t p af g hr => by cases z <;> simp [execOp, hr c _ hc, hr a _ ha, hr b _ hb, asBool]
theorem opv_add {t t2 : TypeId} {x y : Operand} {k : IntKind} {a b : Int} (hx : ev ρ x = some (.int k a)) (hy : ev ρ y = some (.int k b)) : OpV P ρ (.binOp .add t x y t2) (.int k (k.wrap (a + b))) :=
  fun r w d t p af g hr => by simp [execOp, hr x _ hx, hr y _ hy, eqGuard, binOp, Op.intArith]
theorem opv_sub {t t2 : TypeId} {x y : Operand} {k : IntKind} {a b : Int} (hx : ev ρ x = some (.int k a)) (hy : ev ρ y = some (.int k b)) : OpV P ρ (.binOp .sub t x y t2) (.int k (k.wrap (a - b))) :=
  fun r w d t p af g hr => by simp [execOp, hr x _ hx, hr y _ hy, eqGuard, binOp, Op.intArith]
theorem opv_mul {t t2 : TypeId} {x y : Operand} {k : IntKind} {a b : Int} (hx : ev ρ x = some (.int k a)) (hy : ev ρ y = some (.int k b)) : OpV P ρ (.binOp .mul t x y t2) (.int k (k.wrap (a * b))) :=
  fun r w d t p af g hr => by simp [execOp, hr x _ hx, hr y _ hy, eqGuard, binOp, Op.intArith]
theorem opv_quo {t t2 : TypeId} {x y : Operand} {k : IntKind} {a b : Int} (hx : ev ρ x = some (.int k a)) (hy : ev ρ y = some (.int k b)) (h0 : b ≠ 0) : OpV P ρ (.binOp .quo t x y t2) (.int k (k.wrap (a.tdiv b))) :=
  fun r w d t p af g hr => by simp [execOp, hr x _ hx, hr y _ hy, eqGuard, binOp, Op.intDiv, h0]
theorem opv_rem {t t2 : TypeId} {x y : Operand} {k : IntKind} {a b : Int} (hx : ev ρ x = some (.int k a)) (hy : ev ρ y = some (.int k b)) (h0 : b ≠ 0) : OpV P ρ (.binOp .rem t x y t2) (.int k (a.tmod b)) :=
  fun r w d t p af g hr => by simp [execOp, hr x _ hx, hr y _ hy, eqGuard, binOp, Op.intDiv, h0]
/-- '&', '|', '^', '&^' of numbers of a kind. -/
def band (k : IntKind) (a b : Int) : Int := k.wrap (BitVec.ofInt k.bits a &&& BitVec.ofInt k.bits b).toNat
def bor (k : IntKind) (a b : Int) : Int := k.wrap (BitVec.ofInt k.bits a ||| BitVec.ofInt k.bits b).toNat
def bxor (k : IntKind) (a b : Int) : Int := k.wrap (BitVec.ofInt k.bits a ^^^ BitVec.ofInt k.bits b).toNat
def bclr (k : IntKind) (a b : Int) : Int := k.wrap (BitVec.ofInt k.bits a &&& ~~~BitVec.ofInt k.bits b).toNat
/-- 'a << b', 'a >> b'. -/
def bshl (k : IntKind) (a b : Int) : Int := k.wrap (a * 2 ^ (min b.toNat k.bits))
def bshr (k : IntKind) (a b : Int) : Int := a.fdiv (2 ^ (min b.toNat k.bits))
theorem opv_and {t t2 : TypeId} {x y : Operand} {k : IntKind} {a b : Int} (hx : ev ρ x = some (.int k a)) (hy : ev ρ y = some (.int k b)) : OpV P ρ (.binOp .and t x y t2) (.int k (band k a b)) :=
  fun r w d t p af g hr => by simp [execOp, hr x _ hx, hr y _ hy, eqGuard, binOp, Op.intBits, band]
theorem opv_or {t t2 : TypeId} {x y : Operand} {k : IntKind} {a b : Int} (hx : ev ρ x = some (.int k a)) (hy : ev ρ y = some (.int k b)) : OpV P ρ (.binOp .or t x y t2) (.int k (bor k a b)) :=
  fun r w d t p af g hr => by simp [execOp, hr x _ hx, hr y _ hy, eqGuard, binOp, Op.intBits, bor]
theorem opv_xor {t t2 : TypeId} {x y : Operand} {k : IntKind} {a b : Int} (hx : ev ρ x = some (.int k a)) (hy : ev ρ y = some (.int k b)) : OpV P ρ (.binOp .xor t x y t2) (.int k (bxor k a b)) :=
  fun r w d t p af g hr => by simp [execOp, hr x _ hx, hr y _ hy, eqGuard, binOp, Op.intBits, bxor]
theorem opv_andNot {t t2 : TypeId} {x y : Operand} {k : IntKind} {a b : Int} (hx : ev ρ x = some (.int k a)) (hy : ev ρ y = some (.int k b)) : OpV P ρ (.binOp .andNot t x y t2) (.int k (bclr k a b)) :=
  fun r w d t p af g hr => by simp [execOp, hr x _ hx, hr y _ hy, eqGuard, binOp, Op.intBits, bclr]
theorem opv_shl {t t2 : TypeId} {x y : Operand} {k k' : IntKind} {a b : Int} (hx : ev ρ x = some (.int k a)) (hy : ev ρ y = some (.int k' b)) (h0 : 0 ≤ b) : OpV P ρ (.binOp .shl t x y t2) (.int k (bshl k a b)) :=
  fun r w d t p af g hr => by simp [execOp, hr x _ hx, hr y _ hy, eqGuard, binOp, Op.shift, bshl, Int.not_lt.2 h0]
theorem opv_shr {t t2 : TypeId} {x y : Operand} {k k' : IntKind} {a b : Int} (hx : ev ρ x = some (.int k a)) (hy : ev ρ y = some (.int k' b)) (h0 : 0 ≤ b) : OpV P ρ (.binOp .shr t x y t2) (.int k (bshr k a b)) :=
  fun r w d t p af g hr => by simp [execOp, hr x _ hx, hr y _ hy, eqGuard, binOp, Op.shift, bshr, Int.not_lt.2 h0]
theorem opv_eql {t t2 : TypeId} {x y : Operand} {k : IntKind} {a b : Int} (hx : ev ρ x = some (.int k a)) (hy : ev ρ y = some (.int k b)) : OpV P ρ (.binOp .eql t x y t2) (.bool (a == b)) :=
  fun r w d t p af g hr => by simp [execOp, hr x _ hx, hr y _ hy, eqGuard, binOp, Op.intCmp]
theorem opv_neq {t t2 : TypeId} {x y : Operand} {k : IntKind} {a b : Int} (hx : ev ρ x = some (.int k a)) (hy : ev ρ y = some (.int k b)) : OpV P ρ (.binOp .neq t x y t2) (.bool (a != b)) :=
  fun r w d t p af g hr => by simp [execOp, hr x _ hx, hr y _ hy, eqGuard, binOp, Op.intCmp]
theorem opv_lss {t t2 : TypeId} {x y : Operand} {k : IntKind} {a b : Int} (hx : ev ρ x = some (.int k a)) (hy : ev ρ y = some (.int k b)) : OpV P ρ (.binOp .lss t x y t2) (.bool (decide (a < b))) :=
  fun r w d t p af g hr => by simp [execOp, hr x _ hx, hr y _ hy, eqGuard, binOp, Op.intCmp]
theorem opv_leq {t t2 : TypeId} {x y : Operand} {k : IntKind} {a b : Int} (hx : ev ρ x = some (.int k a)) (hy : ev ρ y = some (.int k b)) : OpV P ρ (.binOp .leq t x y t2) (.bool (decide (a ≤ b))) :=
  fun r w d t p af g hr => by simp [execOp, hr x _ hx, hr y _ hy, eqGuard, binOp, Op.intCmp]
theorem opv_gtr {t t2 : TypeId} {x y : Operand} {k : IntKind} {a b : Int} (hx : ev ρ x = some (.int k a)) (hy : ev ρ y = some (.int k b)) : OpV P ρ (.binOp .gtr t x y t2) (.bool (decide (b < a))) :=
  fun r w d t p af g hr => by simp [execOp, hr x _ hx, hr y _ hy, eqGuard, binOp, Op.intCmp]
theorem opv_geq {t t2 : TypeId} {x y : Operand} {k : IntKind} {a b : Int} (hx : ev ρ x = some (.int k a)) (hy : ev ρ y = some (.int k b)) : OpV P ρ (.binOp .geq t x y t2) (.bool (decide (b ≤ a))) :=
  fun r w d t p af g hr => by simp [execOp, hr x _ hx, hr y _ hy, eqGuard, binOp, Op.intCmp]
theorem eqIn_bool (w : World) (d : Nat) {t : TypeId} {a b : Bool} (ht : P.underlying t = some .bool) : (Op.equalIn (d + 1) t (.bool a) (.bool b)).run P w = .ok (a == b) w := by
  simp [Op.equalIn, run_underlying ht]
theorem eqIn_nn (w : World) (d : Nat) {t : TypeId} {ms : Array (String × TypeId)} (ht : P.underlying t = some (.interface ms)) : (Op.equalIn (d + 1) t .nilIface .nilIface).run P w = .ok true w := by
  simp [Op.equalIn, run_underlying ht]
theorem eqIn_in (w : World) (d : Nat) {t T : TypeId} {v : Value} {ms : Array (String × TypeId)} (ht : P.underlying t = some (.interface ms)) : (Op.equalIn (d + 1) t (.iface T v) .nilIface).run P w = .ok false w := by
  simp [Op.equalIn, run_underlying ht]
theorem eqIn_ni (w : World) (d : Nat) {t T : TypeId} {v : Value} {ms : Array (String × TypeId)} (ht : P.underlying t = some (.interface ms)) : (Op.equalIn (d + 1) t .nilIface (.iface T v)).run P w = .ok false w := by
  simp [Op.equalIn, run_underlying ht]
theorem eqIn_int (w : World) (d : Nat) {t : TypeId} {k k' : IntKind} {a b : Int} (ht : P.underlying t = some (.int k')) : (Op.equalIn (d + 1) t (.int k a) (.int k b)).run P w = .ok (a == b) w := by
  simp [Op.equalIn, run_underlying ht]
theorem eqIn_ii (w : World) (d : Nat) {t T : TypeId} {a b : Int} {ms : Array (String × TypeId)} {i : TypeInfo} (ht : P.underlying t = some (.interface ms)) (hT : P.underlying T = some (.int .i64)) (hi : P.info? T = some i) (hc : i.comparable = true) :
    (Op.equalIn (d + 2) t (.iface T (.int .i64 a)) (.iface T (.int .i64 b))).run P w = .ok (a == b) w := by
  have h := eqIn_int (P := P) w d (k := .i64) (a := a) (b := b) hT
  generalize hd : d + 1 = d1 at h
  simp only [show d + 2 = d1 + 1 by omega]
  simp [Op.equalIn, run_underlying ht, typeInfo, hi, hc, h]
theorem eql_run {t : TypeId} {x y : Value} {b : Bool} (w : World) (h : ∀ d, (Op.equalIn (d + 2) t x y).run P w = .ok b w) : (Op.equal t x y).run P w = .ok b w := h 9998
theorem opv_eqlB {t t2 : TypeId} {x y : Operand} {a b : Bool} (ht : P.underlying t = some .bool) (hx : ev ρ x = some (.bool a)) (hy : ev ρ y = some (.bool b)) : OpV P ρ (.binOp .eql t x y t2) (.bool (a == b)) :=
  fun r w d t p af g hr => by simp [execOp, hr x _ hx, hr y _ hy, eqGuard, binOp, eql_run w (fun d => eqIn_bool w (d + 1) ht)]
theorem opv_neqB {t t2 : TypeId} {x y : Operand} {a b : Bool} (ht : P.underlying t = some .bool) (hx : ev ρ x = some (.bool a)) (hy : ev ρ y = some (.bool b)) : OpV P ρ (.binOp .neq t x y t2) (.bool (a != b)) :=
  fun r w d t p af g hr => by simp [execOp, hr x _ hx, hr y _ hy, eqGuard, binOp, eql_run w (fun d => eqIn_bool w (d + 1) ht)]; cases a <;> cases b <;> rfl
theorem opv_not {t : TypeId} {x : Operand} {a : Bool} (hx : ev ρ x = some (.bool a)) : OpV P ρ (.unOp .not t x) (.bool (!a)) :=
  fun r w d t p af g hr => by simp [execOp, hr x _ hx, Op.unary]
theorem opv_neg {t : TypeId} {x : Operand} {k : IntKind} {a : Int} (hx : ev ρ x = some (.int k a)) : OpV P ρ (.unOp .neg t x) (.int k (k.wrap (0 - a))) :=
  fun r w d t p af g hr => by simp [execOp, hr x _ hx, Op.unary, Op.intArith]
theorem opv_conv {s t : TypeId} {x : Operand} {k k' : IntKind} {a : Int} {ds : TypeDesc} (hs : P.underlying s = some ds) (ht : P.underlying t = some (.int k')) (hx : ev ρ x = some (.int k a)) : OpV P ρ (.convert s t x) (.int k' (k'.wrap a)) :=
  fun r w d t p af g hr => by simp [execOp, hr x _ hx, convert, run_underlying hs, run_underlying ht, Conv.intToInt]
theorem opv_extract {x : Operand} {vs : Array Value} {i : Nat} {v : Value} (hx : ev ρ x = some (.tuple vs)) (hi : vs[i]? = some v) : OpV P ρ (.extract x i) v :=
  fun r w d t p af g hr => by simp [execOp, hr x _ hx, Instr.extract, hi]
theorem opv_iface {t : TypeId} {x : Operand} {v : Value} {dt : TypeDesc} (ht : P.underlying t = some dt) (hn : (match dt with | .interface _ => false | _ => true) = true) (hx : ev ρ x = some v) : OpV P ρ (.makeInterface t x) (.iface t v) :=
  fun r w d t p af g hr => by
    cases dt <;> first | (simp at hn; done) | simp [execOp, hr x _ hx, Instr.makeInterface, run_underlying ht]
theorem opv_nilCheck {x : Operand} {a : Addr} (hx : ev ρ x = some (.pointer (some a))) : OpV P ρ (.nilCheck x) (.pointer (some a)) :=
  fun r w d t p af g hr => by simp [execOp, hr x _ hx]
theorem opv_len {x : Operand} {tys : Array TypeId} {t e : TypeId} {a : Option Addr} {len cap : Nat} (ht0 : tys[0]? = some t) (ht : P.underlying t = some (.slice e)) (hx : ev ρ x = some (.slice a len cap)) :
    OpV P ρ (.call ⟨.builtin .len, #[x], tys⟩) (.int .i64 len) :=
  fun r w d t p af g hr => by simp [execOp, resolve, invoke, builtin, hr x _ hx, Builtin.len_, ht0, run_underlying ht, goInt]
theorem opv_min {x y : Operand} {tys : Array TypeId} {k : IntKind} {a b : Int} (hx : ev ρ x = some (.int k a)) (hy : ev ρ y = some (.int k b)) :
    OpV P ρ (.call ⟨.builtin .min, #[x, y], tys⟩) (.int k (if b < a then b else a)) :=
  fun r w d t p af g hr => by simp [execOp, resolve, invoke, builtin, hr x _ hx, hr y _ hy, Builtin.min_, Builtin.min2]
theorem opv_max {x y : Operand} {tys : Array TypeId} {k : IntKind} {a b : Int} (hx : ev ρ x = some (.int k a)) (hy : ev ρ y = some (.int k b)) :
    OpV P ρ (.call ⟨.builtin .max, #[x, y], tys⟩) (.int k (if a < b then b else a)) :=
  fun r w d t p af g hr => by simp [execOp, resolve, invoke, builtin, hr x _ hx, hr y _ hy, Builtin.max_, Builtin.max2]
/-- An error: none, or a number of the type T. -/
def errV (T : TypeId) : Option Int → Value
  | none => .nilIface
  | some c => .iface T (.int .i64 c)
theorem opv_eqlN {t t2 T : TypeId} {x : Operand} {e : Option Int} {ms : Array (String × TypeId)} (ht : P.underlying t = some (.interface ms)) (hx : ev ρ x = some (errV T e)) : OpV P ρ (.binOp .eql t x (.const .nilIface) t2) (.bool e.isNone) :=
  fun r w d t p af g hr => by
    have h0 : r (.const .nilIface) = .nilIface := hr _ _ rfl
    cases e <;> simp [execOp, hr x _ hx, h0, errV, eqGuard, binOp, eql_run w (fun d => eqIn_nn w (d + 1) ht), eql_run w (fun d => eqIn_in w (d + 1) ht)]
theorem opv_neqN {t t2 T : TypeId} {x : Operand} {e : Option Int} {ms : Array (String × TypeId)} (ht : P.underlying t = some (.interface ms)) (hx : ev ρ x = some (errV T e)) : OpV P ρ (.binOp .neq t x (.const .nilIface) t2) (.bool e.isSome) :=
  fun r w d t p af g hr => by
    have h0 : r (.const .nilIface) = .nilIface := hr _ _ rfl
    cases e <;> simp [execOp, hr x _ hx, h0, errV, eqGuard, binOp, eql_run w (fun d => eqIn_nn w (d + 1) ht), eql_run w (fun d => eqIn_in w (d + 1) ht)]
theorem opv_eqlE {t t2 T : TypeId} {x y : Operand} {e : Option Int} {c : Int} {ms : Array (String × TypeId)} {i : TypeInfo} (ht : P.underlying t = some (.interface ms)) (hT : P.underlying T = some (.int .i64)) (hi : P.info? T = some i) (hc : i.comparable = true)
    (hx : ev ρ x = some (errV T e)) (hy : ev ρ y = some (.iface T (.int .i64 c))) : OpV P ρ (.binOp .eql t x y t2) (.bool (e == some c)) :=
  fun r w d t p af g hr => by
    cases e <;> simp [execOp, hr x _ hx, hr y _ hy, errV, eqGuard, binOp, eql_run w (fun d => eqIn_ni w (d + 1) ht), eql_run w (fun d => eqIn_ii w d ht hT hi hc)]
theorem opv_neqE {t t2 T : TypeId} {x y : Operand} {e : Option Int} {c : Int} {ms : Array (String × TypeId)} {i : TypeInfo} (ht : P.underlying t = some (.interface ms)) (hT : P.underlying T = some (.int .i64)) (hi : P.info? T = some i) (hc : i.comparable = true)
    (hx : ev ρ x = some (errV T e)) (hy : ev ρ y = some (.iface T (.int .i64 c))) : OpV P ρ (.binOp .neq t x y t2) (.bool (e != some c)) :=
  fun r w d t p af g hr => by
    cases e <;> simp [execOp, hr x _ hx, hr y _ hy, errV, eqGuard, binOp, eql_run w (fun d => eqIn_ni w (d + 1) ht), eql_run w (fun d => eqIn_ii w d ht hT hi hc)] <;> simp [bne]
end
end Go.Sl
namespace Go.Sl
open Go.RowKit

/-- A pointer to a cell of a block. -/
def bp (b o : Nat) : Value := .pointer (some ⟨b, o, none⟩)
/-- A block of cells that is one's own. -/
def Box (b : Nat) (cs : List Value) : HProp := fun m => ∃ E, m b = some (.cells cs.toArray E (0, 0))
theorem Box.blk {w : World} {b : Nat} {cs : List Value} {m : PH} (h : Box b cs m) (hs : PH.Sub m (hp w)) : ∃ E, w.heap[b]? = some (.cells cs.toArray E (0, 0)) := by
  obtain ⟨E, e⟩ := h
  exact ⟨E, hs b _ e⟩
theorem lt_of_blk {w : World} {b : Nat} {o : Obj} (h : w.heap[b]? = some o) : b < w.heap.size := by
  rcases Nat.lt_or_ge b w.heap.size with hb | hb
  · exact hb
  · simp [Array.getElem?_eq_none hb] at h
theorem cell_of_blk {w : World} {b i : Nat} {c : Array Value} {E : TypeId} {fr : Nat × Nat} (h : w.heap[b]? = some (.cells c E fr)) : w.cell? ⟨b, i, none⟩ = c[i]? := by
  simp [World.cell?, h]
theorem frozen_of_blk {w : World} {b i : Nat} {c : Array Value} {E : TypeId} (h : w.heap[b]? = some (.cells c E (0, 0))) : w.frozen? ⟨b, i, none⟩ = false := by
  simp [World.frozen?, h]
theorem setCell_blk {w : World} {b i : Nat} {c : Array Value} {E : TypeId} {fr : Nat × Nat} (v : Value) (h : w.heap[b]? = some (.cells c E fr)) : (w.setCell ⟨b, i, none⟩ v).heap[b]? = some (.cells (c.setIfInBounds i v) E fr) := by
  simp [World.setCell, Array.getElem?_modify, h]
theorem setCell_other {w : World} {b i j : Nat} (v : Value) (h : j ≠ b) : (w.setCell ⟨b, i, none⟩ v).heap[j]? = w.heap[j]? := by
  simp only [World.setCell, Array.getElem?_modify]
  rw [if_neg (fun e => h e.symm)]
theorem Keep.setCell (w : World) (a : Addr) (v : Value) : Keep w (w.setCell a v) := ⟨rfl, rfl, rfl, by simp⟩
theorem Keep.alloc (w : World) (o : Obj) : Keep w (w.alloc o) := ⟨rfl, rfl, rfl, by simp⟩
theorem Keep.drew (w : World) : Keep w w.drew := ⟨rfl, rfl, rfl, Nat.le_refl _⟩
theorem Sat.drew {w : World} {l : List HProp} (h : Sat w l) : Sat w.drew l := h
theorem alloc_old {w : World} {o : Obj} {b : Nat} (h : b < w.heap.size) : (w.alloc o).heap[b]? = w.heap[b]? := by
  simp only [World.alloc, Array.getElem?_push]; rw [if_neg (by omega)]
theorem alloc_new (w : World) (o : Obj) : (w.alloc o).heap[w.heap.size]? = some o := by simp only [World.alloc, Array.getElem?_push]; simp

/-- A new block. -/
theorem Sat.alloc {w : World} {l : List HProp} (h : Sat w l) (o : Obj) (A : HProp) (hA : A (fun b => if b = w.heap.size then some o else none)) : Sat (w.alloc o) (A :: l) := by
  have h0 : Sat w ((fun _ => True) :: l) := ⟨fun _ => none, hp w, fun _ => .inl rfl, fun _ _ e => by simp at e, .refl _, trivial, h⟩
  refine h0.update fun m1 _ _ _ => ⟨_, hA, fun b x e => ?_, fun b _ hb => ?_, fun b hb _ => alloc_old hb⟩
  · have e' : (if b = w.heap.size then some o else none) = some x := e
    clear e
    split at e'
    · rename_i hb; subst hb; injection e' with e; subst e; exact alloc_new w o
    · cases e'
  · show (if b = w.heap.size then some o else none) = none
    rw [if_neg (by omega)]
/-- A store into a block of cells that is one's own. -/
theorem Sat.setCell {w : World} {A A' : HProp} {l : List HProp} {b i : Nat} {v : Value} (h : Sat w (A :: l))
    (hA : ∀ m, A m → PH.Sub m (hp w) → ∃ c E fr, m b = some (.cells c E fr) ∧ A' (fun j => if j = b then some (.cells (c.setIfInBounds i v) E fr) else m j)) : Sat (w.setCell ⟨b, i, none⟩ v) (A' :: l) := by
  refine h.update fun m1 ha hs hbig => ?_
  obtain ⟨c, E, fr, hb, hA'⟩ := hA m1 ha hs
  refine ⟨_, hA', fun j o e => ?_, fun j hj _ => ?_, fun j hj hn => ?_⟩
  · have e' : (if j = b then some (Obj.cells (c.setIfInBounds i v) E fr) else m1 j) = some o := e
    clear e
    split at e'
    · rename_i hj; subst hj; injection e' with e; subst e; exact setCell_blk v (hs _ _ hb)
    · rename_i hj; show (w.setCell ⟨b, i, none⟩ v).heap[j]? = some o; rw [setCell_other v hj]; exact hs j o e'
  · show (if j = b then some (Obj.cells (c.setIfInBounds i v) E fr) else m1 j) = none
    split
    · rename_i h2; subst h2; simp [hb] at hj
    · exact hj
  · exact setCell_other v (fun e => by subst e; simp [hb] at hn)

section
variable {P : Program} {f : FuncId} {n : Nat} {Z : Act → World → Prop} {R : Ending → World → Prop} {w0 : Beg} {k : List Item} {ρ ρ' : Env} {H H' rest : List HProp} {ops : Array Oper} {l : List Oper}

/-- One operation in its place, by hand. -/
theorem SO.raw {d t : Nat} {o : Op} {p : String} {af : Array Edge} (hd : Nat.blt d n = true)
    (ho : ∀ (r : Operand → Value) (w : World), (∀ x u, ev ρ x = some u → r x = u) → Sat w H → ∃ v w' ρ' H', (execOp r ⟨some d, o, t, p, af, none⟩).run P w = .ok (.value v) w' ∧ Sat w' H' ∧ Keep w w' ∧ SO P n Z w0 ops l ((d, v) :: ρ') H' ∧ (∀ tm, EnvOk tm ρ → EnvOk tm ρ')) :
    SO P n Z w0 ops (⟨some d, o, t, p, af, none⟩ :: l) ρ H := by
  intro a w h1 h2 h3 h4 h5
  obtain ⟨v, w', ρ', H', hr, hs, hk, h, he⟩ := ho a.eval w (fun x u => h2.ev) h4
  have hd' : d < n := by simpa using hd
  exact wpl_value rfl hr (h _ w' (by simpa [Act.put] using h1) ((he _ h2).put v (by omega)) h3 hs (h5.trans hk))
theorem SO.raw0 {t : Nat} {o : Op} {p : String} {af : Array Edge}
    (ho : ∀ (r : Operand → Value) (w : World), (∀ x u, ev ρ x = some u → r x = u) → Sat w H → ∃ w' H', (execOp r ⟨none, o, t, p, af, none⟩).run P w = .ok .skip w' ∧ Sat w' H' ∧ Keep w w' ∧ SO P n Z w0 ops l ρ H') :
    SO P n Z w0 ops (⟨none, o, t, p, af, none⟩ :: l) ρ H := by
  intro a w h1 h2 h3 h4 h5
  obtain ⟨w', H', hr, hs, hk, h⟩ := ho a.eval w (fun x u => h2.ev) h4
  exact wpl_skip rfl hr (h _ w' h1 h2 h3 hs (h5.trans hk))

theorem SO.bring {H' : List HProp} (p : H.Perm H') (h : SO P n Z w0 ops l ρ H') : SO P n Z w0 ops l ρ H := h.sat fun _ s => s.perm p
theorem S.bring {H' : List HProp} (p : H.Perm H') (h : S P f n R w0 k ρ H') : S P f n R w0 k ρ H := h.sat fun _ s => s.perm p

theorem SO.box {d E t : Nat} {x : Operand} {p : String} {af : Array Edge} {v : Value} {cs : List Value} (hd : Nat.blt d n = true) (hx : ev ρ x = some v) (hc : v.cells.toList = cs)
    (h : ∀ b, SO P n Z w0 ops l ((d, bp b 0) :: ρ) (Box b cs :: H)) : SO P n Z w0 ops (⟨some d, .box E x, t, p, af, none⟩ :: l) ρ H := by
  refine .raw hd fun r w hr hs => ⟨_, w.alloc (.cells v.cells E), ρ, Box w.heap.size cs :: H, ?_, ?_, ?_, h w.heap.size, fun _ h => h⟩
  · simp only [execOp, hr x v hx, Instr.box, newVar, newRow]
    simp [bp]
  · refine hs.alloc _ _ ⟨E, ?_⟩
    simp [← hc]
  · exact .alloc _ _
theorem SO.alloc {d E t : Nat} {p : String} {af : Array Edge} {v : Value} {cs : List Value} (hd : Nat.blt d n = true) (hz : ∀ w, (zeroValue E).run P w = .ok v w) (hc : v.cells.toList = cs)
    (h : ∀ b, SO P n Z w0 ops l ((d, bp b 0) :: ρ) (Box b cs :: H)) : SO P n Z w0 ops (⟨some d, .alloc E, t, p, af, none⟩ :: l) ρ H := by
  refine .raw hd fun r w hr hs => ⟨_, w.alloc (.cells v.cells E), ρ, Box w.heap.size cs :: H, ?_, ?_, ?_, h w.heap.size, fun _ h => h⟩
  · simp only [execOp, Instr.alloc]
    simp [hz, newVar, newRow, bp]
  · refine hs.alloc _ _ ⟨E, ?_⟩
    simp [← hc]
  · exact .alloc _ _
theorem SO.load1 {d t ty b o : Nat} {x : Operand} {p : String} {af : Array Edge} {v : Value} {cs : List Value} (hd : Nat.blt d n = true) (ha : ∀ w, (isAgg t).run P w = .ok false w) (hx : ev ρ x = some (bp b o)) (hv : cs[o]? = some v)
    (h : SO P n Z w0 ops l ((d, v) :: ρ) (Box b cs :: rest)) : SO P n Z w0 ops (⟨some d, .load t x, ty, p, af, none⟩ :: l) ρ (Box b cs :: rest) := by
  refine .raw hd fun r w hr hs => ⟨_, _, ρ, _, ?_, hs, .refl w, h, fun _ h => h⟩
  obtain ⟨m, hm, hb⟩ := hs.head
  obtain ⟨E, hb⟩ := hb.blk hm
  have hc : w.cell? ⟨b, o, none⟩ = some v := by rw [cell_of_blk hb]; simpa using hv
  simp [execOp, hr x _ hx, Instr.loadAt, bp, Instr.sureAddr, loadVar, ha, hc]
theorem loadCellsFrom_run {w : World} {b o : Nat} {vs : List Value} : ∀ (i m : Nat) (acc : Array Value), i + m ≤ vs.length → (∀ j, i ≤ j → j < i + m → w.cell? ⟨b, o + j, none⟩ = vs[j]?) →
    (loadCellsFrom ⟨b, o, none⟩ i m acc).run P w = .ok (acc ++ ((vs.drop i).take m).toArray) w
  | i, 0, acc, _, _ => by simp [loadCellsFrom]
  | i, m + 1, acc, hl, hc => by
    have h1 : w.cell? (Addr.add ⟨b, o, none⟩ i) = vs[i]? := by
      rw [← hc i (Nat.le_refl _) (by omega)]
      unfold Addr.add; split
      · rename_i h; subst h; rfl
      · rfl
    have hi : vs[i]? = some vs[i] := List.getElem?_eq_getElem (by omega)
    simp only [loadCellsFrom]
    rw [Sem.run_bind, run_load, h1, hi]
    simp only [Result.andThen_ok]
    rw [loadCellsFrom_run (vs := vs) (i + 1) m _ (by omega) (fun j h2 h3 => hc j (by omega) (by omega))]
    congr 1
    apply Array.ext'
    simp only [Array.toList_append, Array.toList_push, List.append_assoc]
    congr 1
    have hi' : i < vs.length := by omega
    rw [List.drop_eq_getElem_cons hi']; rfl
theorem loadCells_run {w : World} {b o m : Nat} {vs : List Value} (hl : vs.length = m) (hc : ∀ j, j < m → w.cell? ⟨b, o + j, none⟩ = vs[j]?) :
    (loadCells ⟨b, o, none⟩ m).run P w = .ok vs.toArray w := by
  unfold loadCells
  rw [loadCellsFrom_run (vs := vs) 0 m #[] (by omega) (fun j _ h => hc j (by omega))]
  simp [hl ▸ List.take_length]
theorem SO.loadN {d t ty b o sz : Nat} {x : Operand} {p : String} {af : Array Edge} {vs cs : List Value} (hd : Nat.blt d n = true) (ha : ∀ w, (isAgg t).run P w = .ok true w) (hz : ∀ w, (sizeOf t).run P w = .ok sz w) (hx : ev ρ x = some (bp b o))
    (hv : (cs.drop o).take sz = vs) (hl : vs.length = sz)
    (h : SO P n Z w0 ops l ((d, .agg vs.toArray) :: ρ) (Box b cs :: rest)) : SO P n Z w0 ops (⟨some d, .load t x, ty, p, af, none⟩ :: l) ρ (Box b cs :: rest) := by
  refine .raw hd fun r w hr hs => ⟨_, _, ρ, _, ?_, hs, .refl w, h, fun _ h => h⟩
  obtain ⟨m, hm, hb⟩ := hs.head
  obtain ⟨E, hb⟩ := hb.blk hm
  have hc : ∀ j, j < sz → w.cell? ⟨b, o + j, none⟩ = vs[j]? := fun j hj => by
    rw [cell_of_blk hb, ← hv, List.getElem?_take_of_lt hj, List.getElem?_drop]; simp
  simp [execOp, hr x _ hx, Instr.loadAt, bp, Instr.sureAddr, loadVar, ha, hz, loadCells_run hl hc]
theorem SO.store1 {t ty b o : Nat} {x y : Operand} {p : String} {af : Array Edge} {v u : Value} {cs : List Value} (hz : ∀ w, (sizeOf t).run P w = .ok 1 w) (hx : ev ρ x = some (bp b o)) (hy : ev ρ y = some v) (h1 : v.oneCell' = true) (hv : cs[o]? = some u)
    (h : SO P n Z w0 ops l ρ (Box b (cs.set o v) :: rest)) : SO P n Z w0 ops (⟨none, .store t x y, ty, p, af, none⟩ :: l) ρ (Box b cs :: rest) := by
  refine .raw0 fun r w hr hs => ⟨w.setCell ⟨b, o, none⟩ v, _, ?_, ?_, .setCell _ _ _, h⟩
  · obtain ⟨m, hm, hb⟩ := hs.head
    obtain ⟨E, hb⟩ := hb.blk hm
    have hc : w.cell? ⟨b, o, none⟩ = some u := by rw [cell_of_blk hb]; simpa using hv
    have hf : w.frozen? ⟨b, o, none⟩ = false := frozen_of_blk hb
    have hcs : v.cells = #[v] := by cases v <;> first | rfl | simp [Value.oneCell'] at h1
    simp only [execOp, hr x _ hx, hr y _ hy, Instr.storeAt, bp, Instr.sureAddr, storeVar]
    simp [hz, hcs, storeCells, Addr.add, run_store P w ⟨b, o, none⟩ v .plain h1, hc, hf]
  · refine hs.setCell fun m hA _ => ?_
    obtain ⟨E, e⟩ := hA
    refine ⟨_, _, _, e, E, ?_⟩
    simp
theorem storeCells_run {b o : Nat} : ∀ (vs : List Value) (i : Nat) (w : World) (c : Array Value) (E : TypeId), w.heap[b]? = some (.cells c E (0, 0)) → (∀ v ∈ vs, v.oneCell' = true) → o + i + vs.length ≤ c.size →
    ∃ w' c', (storeCells ⟨b, o, none⟩ vs i).run P w = .ok () w' ∧ w'.heap[b]? = some (.cells c' E (0, 0)) ∧ c'.size = c.size ∧ (∀ j, j < o + i ∨ o + i + vs.length ≤ j → c'[j]? = c[j]?) ∧ (∀ j, j < vs.length → c'[o + i + j]? = vs[j]?) ∧
      (∀ q, q ≠ b → w'.heap[q]? = w.heap[q]?) ∧ Keep w w'
  | [], i, w, c, E, hb, _, _ => ⟨w, c, by simp [storeCells], hb, rfl, fun _ _ => rfl, fun j hj => by simp at hj, fun _ _ => rfl, .refl w⟩
  | v :: vs, i, w, c, E, hb, h1, hl => by
    simp only [List.length_cons] at hl
    have e0 : Addr.add ⟨b, o, none⟩ i = ⟨b, o + i, none⟩ := by
      unfold Addr.add; split
      · rename_i h; subst h; rfl
      · rfl
    have hv1 := h1 v List.mem_cons_self
    have hcell : w.cell? ⟨b, o + i, none⟩ = some c[o + i] := by rw [cell_of_blk hb]; exact Array.getElem?_eq_getElem (by omega)
    have hf : w.frozen? ⟨b, o + i, none⟩ = false := frozen_of_blk hb
    obtain ⟨w', c', hr, hb', hs', ho, hn, hq, hk⟩ := storeCells_run (b := b) (o := o) vs (i + 1) (w.setCell ⟨b, o + i, none⟩ v) (c.setIfInBounds (o + i) v) E (setCell_blk v hb) (fun u hu => h1 u (List.mem_cons_of_mem _ hu)) (by rw [Array.size_setIfInBounds]; omega)
    refine ⟨w', c', ?_, hb', by simpa using hs', fun j hj => ?_, fun j hj => ?_, fun q hq' => (hq q hq').trans (setCell_other v hq'), (Keep.setCell _ _ _).trans hk⟩
    · simp only [storeCells, e0]
      rw [Sem.run_bind, run_store P w _ v .plain hv1, hcell, hf]
      simpa using hr
    · simp only [List.length_cons] at hj
      rw [ho j (by omega), Array.getElem?_setIfInBounds_ne (by omega)]
    · cases j with
      | zero => rw [ho (o + i + 0) (by omega)]; rw [Nat.add_zero, Array.getElem?_setIfInBounds_self_of_lt (by omega)]; rfl
      | succ j => have := hn j (by simpa using hj); simpa [Nat.add_assoc, Nat.add_comm 1 j] using this
/-- The cells from o on, put anew. -/
def splice (cs : List Value) (o : Nat) (vs : List Value) : List Value := cs.take o ++ (vs ++ cs.drop (o + vs.length))
theorem SO.storeN {t ty b o : Nat} {x y : Operand} {p : String} {af : Array Edge} {vs cs cs' : List Value} {sz : Nat} (hz : ∀ w, (sizeOf t).run P w = .ok sz w) (hx : ev ρ x = some (bp b o)) (hy : ev ρ y = some (.agg vs.toArray)) (h1 : (vs.all Value.oneCell') = true) (hsz : vs.length = sz) (hv : Nat.ble (o + vs.length) cs.length = true) (hcs : splice cs o vs = cs')
    (h : SO P n Z w0 ops l ρ (Box b cs' :: rest)) : SO P n Z w0 ops (⟨none, .store t x y, ty, p, af, none⟩ :: l) ρ (Box b cs :: rest) := by
  refine .raw0 fun r w hr hs => ?_
  have hle : o + vs.length ≤ cs.length := by simpa using hv
  obtain ⟨m, hm, hb⟩ := hs.head
  obtain ⟨E, hb⟩ := hb.blk hm
  obtain ⟨w', c', hrun, hb', hs', ho, hn, hq, hk⟩ := storeCells_run (P := P) (b := b) (o := o) vs 0 w cs.toArray E hb (fun v hv => by simpa using List.all_eq_true.1 h1 v hv) (by simpa using hle)
  have hcc : c' = cs'.toArray := by
    apply Array.ext'
    apply List.ext_getElem?
    intro j
    simp only [Array.getElem?_toList]
    rw [← hcs, splice]
    rcases Nat.lt_or_ge j o with hj | hj
    · rw [ho j (by omega), List.getElem?_append_left (by simp; omega), List.getElem?_take_of_lt hj]; simp
    · rcases Nat.lt_or_ge j (o + vs.length) with hj2 | hj2
      · have := hn (j - o) (by omega)
        rw [show o + 0 + (j - o) = j by omega] at this
        rw [this, List.getElem?_append_right (by simp; omega), List.getElem?_append_left (by simp; omega)]
        simp [Nat.min_eq_left (by omega : o ≤ cs.length)]
      · rw [ho j (by omega), List.getElem?_append_right (by simp; omega), List.getElem?_append_right (by simp; omega), List.getElem?_drop]
        simp only [List.getElem?_toArray, List.length_take]
        congr 1; omega
  subst hcc
  refine ⟨w', _, ?_, ?_, hk, h⟩
  · simp only [execOp, hr x _ hx, hr y _ hy, Instr.storeAt, bp, Instr.sureAddr, storeVar]
    simp only [Value.cells, Sem.run_bind, Sem.run_pure, Result.andThen_ok, hz]
    simp [hsz, hrun]
  · refine hs.update fun m1 ha hs1 _ => ?_
    obtain ⟨E1, e1⟩ := ha
    have : E1 = E := by have := hs1 b _ e1; simp only [hp, hb] at this; injection this with this; injection this with _ h2; exact h2.symm
    subst this
    refine ⟨fun j => if j = b then some (.cells cs'.toArray E1 (0, 0)) else m1 j, ⟨E1, by simp⟩, fun j o' e => ?_, fun j hj _ => ?_, fun j hj hn' => ?_⟩
    · have e' : (if j = b then some (Obj.cells cs'.toArray E1 (0, 0)) else m1 j) = some o' := e
      clear e
      split at e'
      · rename_i hj; subst hj; injection e' with e; subst e; exact hb'
      · rename_i hj; show w'.heap[j]? = some o'; rw [hq j hj]; exact hs1 j o' e'
    · show (if j = b then some (Obj.cells cs'.toArray E1 (0, 0)) else m1 j) = none
      split
      · rename_i h2; subst h2; simp [e1] at hj
      · exact hj
    · exact hq j (fun e => by subst e; simp [e1] at hn')
theorem opv_fieldAddr {s b o o' : Nat} {x : Operand} {fl : Nat} {fs : Array Field} {fd : Field} {sz : Nat} (hs : P.underlying s = some (.struct fs)) (hf : fs[fl]? = some fd) (hz : ∀ w, (sizeOf fd.type).run P w = .ok (sz + 1) w) (hx : ev ρ x = some (bp b o)) (ho : o + fd.offset = o') :
    OpV P ρ (.fieldAddr s x fl) (bp b o') := fun r w d t p af g hr => by
  subst ho
  simp only [execOp, hr x _ hx, Instr.fieldAt, bp]
  simp only [Sem.run_bind, run_underlying hs, Result.andThen_ok, hf, Instr.sureAddr, Sem.run_pure, fieldPlace, hz]
  rw [if_neg (by omega)]
  simp only [Sem.run_pure, Result.andThen_ok, Addr.add]
  split
  · rename_i h; simp [h]
  · rfl
end
end Go.Sl
namespace Go.Sl
open Go.RowKit

/-! ### What a call comes to -/
/-- Called with these values, over these resources, the function returns so. (rd: what may be read, of what stays.) -/
def Ct (P : Program) (g : FuncId) (vals : List Value) (rd : HProp → Prop) (pre : List HProp) (post : Value → List HProp → Prop) : Prop :=
  ∀ (w : World) (F : HProp), rd F → Sat w (pre ++ [F]) → Calls P g vals.toArray w (fun e w' => ∃ v H', e = .returned v ∧ post v H' ∧ Sat w' (H' ++ [F]) ∧ Keep w w')
def num : Nat → List Value → Env
  | _, [] => []
  | i, v :: l => (i, v) :: num (i + 1) l
theorem look_num : ∀ (i : Nat) (l : List Value) (t : Nat) (v : Value), look (num i l) t = some v → i ≤ t ∧ l[t - i]? = some v
  | _, [], _, _, h => by simp [num, look] at h
  | i, u :: l, t, v, h => by
    simp only [num, look] at h
    cases hb : Nat.beq i t with
    | true => have : i = t := Nat.eq_of_beq_eq_true hb; subst this; simp at h; subst h; simp
    | false =>
      simp [hb] at h
      have := look_num (i + 1) l t v h
      refine ⟨by omega, ?_⟩
      rw [show t - i = (t - (i + 1)) + 1 by omega]; simpa using this.2
theorem Ct.intro {P : Program} {g : FuncId} {fn : Func} {c : Code} {vals : List Value} {rd : HProp → Prop} {pre : List HProp} {post : Value → List HProp → Prop} {n : Nat}
    (hf : P.funcs[g]? = some fn) (hb : fn.body = some c) (hn : fn.ntmps = n) (hl : Nat.ble vals.length n = true)
    (h : ∀ R (w0 : World) F, rd F → (∀ w v H', post v H' → Sat w (H' ++ [F]) → Keep w0 w → R (.returned v) w) → S P g n R ⟨w0, [], none⟩ [.code c] (num 0 vals) (pre ++ [F])) : Ct P g vals rd pre post := by
  intro w F hF hs
  have hle : vals.length ≤ n := by simpa using hl
  refine Calls.of_goes hf hb (h _ w F hF (fun w' v H' hp hs' hk => ⟨v, H', rfl, hp, hs', hk⟩) _ w ?_ ?_ rfl hs (.refl w))
  · simp [hn]; omega
  · intro t v hv
    obtain ⟨_, h2⟩ := look_num 0 vals t v hv
    rw [Nat.sub_zero] at h2
    have ht : t < vals.length := by
      rcases Nat.lt_or_ge t vals.length with h | h
      · exact h
      · simp [List.getElem?_eq_none h] at h2
    rw [Array.getElem?_append_left (by simpa using ht)]; simpa using h2
theorem Ct.mono {P : Program} {g : FuncId} {vals : List Value} {rd rd' : HProp → Prop} {pre : List HProp} {post post' : Value → List HProp → Prop} (h : Ct P g vals rd pre post) (hr : ∀ F, rd' F → rd F) (hp : ∀ v H', post v H' → post' v H') : Ct P g vals rd' pre post' :=
  fun w F hF hs => (h w F (hr F hF) hs).mono fun _ _ ⟨v, H', h1, h2, h3⟩ => ⟨v, H', h1, hp _ _ h2, h3⟩

def evs (ρ : Env) : List Operand → Option (List Value)
  | [] => some []
  | x :: l => match ev ρ x with
    | some v => match evs ρ l with
      | some vs => some (v :: vs)
      | none => none
    | none => none
theorem evs_map {ρ : Env} {r : Operand → Value} (hr : ∀ x u, ev ρ x = some u → r x = u) : ∀ {l : List Operand} {vs : List Value}, evs ρ l = some vs → l.map r = vs
  | [], vs, h => by simp [evs] at h; simp [h]
  | x :: l, vs, h => by
    simp only [evs] at h
    split at h
    · rename_i v hv
      split at h
      · rename_i us hu; injection h with h; subst h; simp [hr x v hv, evs_map hr hu]
      · cases h
    · cases h

section
variable {P : Program} {f : FuncId} {n : Nat} {Z : Act → World → Prop} {R : Ending → World → Prop} {w0 : Beg} {k : List Item} {ρ ρ' : Env} {H H' pre rest : List HProp} {ops : Array Oper} {l : List Oper}

theorem SO.enter {d : Nat} {t : TypeId} {o : Op} {p : String} {af : Array Edge} {g : FuncId} {vals : List Value} {rd : HProp → Prop} {post : Value → List HProp → Prop} (hd : Nat.blt d n = true)
    (ho : ∀ (r : Operand → Value) (w : World), (∀ x u, ev ρ x = some u → r x = u) → (execOp r ⟨some d, o, t, p, af, none⟩).run P w = .ok (.enter g vals.toArray) w)
    (hct : Ct P g vals rd pre post) (hrd : rd (stars rest)) (h : ∀ v H', post v H' → SO P n Z w0 ops l ((d, v) :: ρ) (H' ++ rest)) :
    SO P n Z w0 ops (⟨some d, o, t, p, af, none⟩ :: l) ρ (pre ++ rest) := by
  intro a w h1 h2 h3 h4 h5
  have hd' : d < n := by simpa using hd
  refine wpl_enter rfl (ho a.eval w (fun x u => h2.ev)) ((hct w (stars rest) hrd h4.pack).mono ?_)
  rintro e w' ⟨v, H', rfl, hp, hs, hk⟩
  exact ⟨v, rfl, h v H' hp _ w' (by simpa [Act.put] using h1) (h2.put v (by omega)) h3 hs.unpack (h5.trans hk)⟩
theorem SO.enter0 {t : TypeId} {o : Op} {p : String} {af : Array Edge} {g : FuncId} {vals : List Value} {rd : HProp → Prop} {post : Value → List HProp → Prop}
    (ho : ∀ (r : Operand → Value) (w : World), (∀ x u, ev ρ x = some u → r x = u) → (execOp r ⟨none, o, t, p, af, none⟩).run P w = .ok (.enter g vals.toArray) w)
    (hct : Ct P g vals rd pre post) (hrd : rd (stars rest)) (h : ∀ v H', post v H' → SO P n Z w0 ops l ρ (H' ++ rest)) :
    SO P n Z w0 ops (⟨none, o, t, p, af, none⟩ :: l) ρ (pre ++ rest) := by
  intro a w h1 h2 h3 h4 h5
  refine wpl_enter rfl (ho a.eval w (fun x u => h2.ev)) ((hct w (stars rest) hrd h4.pack).mono ?_)
  rintro e w' ⟨v, H', rfl, hp, hs, hk⟩
  exact ⟨v, rfl, h v H' hp _ w' h1 h2 h3 hs.unpack (h5.trans hk)⟩
theorem call_run {g : FuncId} {x : Operand} {avs : Array Operand} {tys : Array TypeId} {first caps vs vals : List Value} {r : Operand → Value} {w : World} {d : Option Tmp} {t : TypeId} {p : String} {af : Array Edge}
    (hg : ∀ (avs : Array Value) (w : World), (callFunc g avs).run P w = .ok (.enter g avs) w) (hx : ev ρ x = some (.func (.func g) first.toArray caps.toArray)) (hv : evs ρ avs.toList = some vs) (hvals : first ++ (vs ++ caps) = vals) (hr : ∀ x u, ev ρ x = some u → r x = u) :
    (execOp r ⟨d, .call ⟨.value x, avs, tys⟩, t, p, af, none⟩).run P w = .ok (.enter g vals.toArray) w := by
  have : avs.map r = vs.toArray := by apply Array.ext'; simpa using evs_map hr hv
  simp [execOp, resolve, hr x _ hx, Deferred.ofValue, invoke, this, hg, ← hvals]
/-- A call. -/
theorem SO.call {d : Nat} {t : TypeId} {p : String} {af : Array Edge} {g : FuncId} {x : Operand} {avs : Array Operand} {tys : Array TypeId} {first caps vs vals : List Value} {rd : HProp → Prop} {post : Value → List HProp → Prop} (hd : Nat.blt d n = true)
    (hg : ∀ (avs : Array Value) (w : World), (callFunc g avs).run P w = .ok (.enter g avs) w) (hx : ev ρ x = some (.func (.func g) first.toArray caps.toArray)) (hv : evs ρ avs.toList = some vs) (hvals : first ++ (vs ++ caps) = vals)
    (hct : Ct P g vals rd pre post) (hrd : rd (stars rest)) (h : ∀ v H', post v H' → SO P n Z w0 ops l ((d, v) :: ρ) (H' ++ rest)) :
    SO P n Z w0 ops (⟨some d, .call ⟨.value x, avs, tys⟩, t, p, af, none⟩ :: l) ρ (pre ++ rest) :=
  .enter hd (fun _ _ hr => call_run hg hx hv hvals hr) hct hrd h
theorem SO.call0 {t : TypeId} {p : String} {af : Array Edge} {g : FuncId} {x : Operand} {avs : Array Operand} {tys : Array TypeId} {first caps vs vals : List Value} {rd : HProp → Prop} {post : Value → List HProp → Prop}
    (hg : ∀ (avs : Array Value) (w : World), (callFunc g avs).run P w = .ok (.enter g avs) w) (hx : ev ρ x = some (.func (.func g) first.toArray caps.toArray)) (hv : evs ρ avs.toList = some vs) (hvals : first ++ (vs ++ caps) = vals)
    (hct : Ct P g vals rd pre post) (hrd : rd (stars rest)) (h : ∀ v H', post v H' → SO P n Z w0 ops l ρ (H' ++ rest)) :
    SO P n Z w0 ops (⟨none, .call ⟨.value x, avs, tys⟩, t, p, af, none⟩ :: l) ρ (pre ++ rest) :=
  .enter0 (fun _ _ hr => call_run hg hx hv hvals hr) hct hrd h
theorem invoke_run {g : FuncId} {x : Operand} {avs : Array Operand} {tys : Array TypeId} {T : TypeId} {u rv : Value} {name : String} {vs vals : List Value} {r : Operand → Value} {w : World} {d : Option Tmp} {t : TypeId} {p : String} {af : Array Edge}
    (hg : ∀ (avs : Array Value) (w : World), (callFunc g avs).run P w = .ok (.enter g avs) w) (hx : ev ρ x = some (.iface T u)) (hm : ∀ w, (method (P.types.size + Made.depth) T u name).run P w = .ok (g, rv) w) (hv : evs ρ avs.toList = some vs) (hvals : rv :: vs = vals) (hr : ∀ x u, ev ρ x = some u → r x = u) :
    (execOp r ⟨d, .call ⟨.invoke x name, avs, tys⟩, t, p, af, none⟩).run P w = .ok (.enter g vals.toArray) w := by
  have : avs.map r = vs.toArray := by apply Array.ext'; simpa using evs_map hr hv
  simp [execOp, resolve, hr x _ hx, invoke, callMethod, this, hm, hg, ← hvals]
/-- A call of an interface's method. -/
theorem SO.invoke {d : Nat} {t : TypeId} {p : String} {af : Array Edge} {g : FuncId} {x : Operand} {avs : Array Operand} {tys : Array TypeId} {T : TypeId} {u rv : Value} {name : String} {vs vals : List Value} {rd : HProp → Prop} {post : Value → List HProp → Prop} (hd : Nat.blt d n = true)
    (hg : ∀ (avs : Array Value) (w : World), (callFunc g avs).run P w = .ok (.enter g avs) w) (hx : ev ρ x = some (.iface T u)) (hm : ∀ w, (method (P.types.size + Made.depth) T u name).run P w = .ok (g, rv) w) (hv : evs ρ avs.toList = some vs) (hvals : rv :: vs = vals)
    (hct : Ct P g vals rd pre post) (hrd : rd (stars rest)) (h : ∀ v H', post v H' → SO P n Z w0 ops l ((d, v) :: ρ) (H' ++ rest)) :
    SO P n Z w0 ops (⟨some d, .call ⟨.invoke x name, avs, tys⟩, t, p, af, none⟩ :: l) ρ (pre ++ rest) :=
  .enter hd (fun _ _ hr => invoke_run hg hx hm hv hvals hr) hct hrd h

/-! ### Conditions, groups, joins, loops -/
theorem S.condT {c : Operand} {x y : Code} {t : Bool} (hc : ev ρ c = some (.bool t)) (ht : t = true) (h : S P f n R w0 (.code x :: k) ρ H) : S P f n R w0 (.code (.cond c x y) :: k) ρ H := by subst ht; exact .cond hc h
theorem S.condF {c : Operand} {x y : Code} {t : Bool} (hc : ev ρ c = some (.bool t)) (ht : t = false) (h : S P f n R w0 (.code y :: k) ρ H) : S P f n R w0 (.code (.cond c x y) :: k) ρ H := by subst ht; exact .cond hc h
theorem SO.takeT {d : Option Tmp} {t : TypeId} {o : Op} {p : String} {af : Array Edge} {j : Nat} {b c : Bool} {oj : Oper} {dj : Tmp} (hj : ops[j]? = some oj) (hdj : oj.dst = some dj) (hv : look ρ dj = some (.bool c)) (hc : c = b)
    (h : SO P n Z w0 ops (⟨d, o, t, p, af, none⟩ :: l) ρ H) : SO P n Z w0 ops (⟨d, o, t, p, af, some (j, b)⟩ :: l) ρ H := by subst hc; exact .take hj hdj hv h
theorem SO.passF {d : Nat} {t : TypeId} {o : Op} {p : String} {af : Array Edge} {j : Nat} {b c e : Bool} {oj : Oper} {dj : Tmp} (hj : ops[j]? = some oj) (hdj : oj.dst = some dj) (hv : look ρ dj = some (.bool c)) (hc : c = e) (hbc : (e == b) = false) (hd : Nat.blt d n = true)
    (h : SO P n Z w0 ops l ((d, undef) :: ρ) H) : SO P n Z w0 ops (⟨some d, o, t, p, af, some (j, b)⟩ :: l) ρ H := by subst hc; exact .pass hj hdj hv hbc hd h
/-- The first m operations lead to one more slot (and other resources). -/
theorem SO.cut (m : Nat) (d : Nat) (v : Value) (H2 : List HProp) (h1 : ∀ l2, SO P n Z w0 ops l2 ((d, v) :: ρ) H2 → SO P n Z w0 ops (l.take m ++ l2) ρ H) (h2 : SO P n Z w0 ops (l.drop m) ((d, v) :: ρ) H2) : SO P n Z w0 ops l ρ H := by
  have := h1 _ h2
  rwa [List.take_append_drop] at this
theorem S.cut {x : Code} (ρ2 : Env) (H2 : List HProp) (h1 : S P f n R w0 k ρ2 H2 → S P f n R w0 (.code x :: k) ρ H) (h2 : S P f n R w0 k ρ2 H2) : S P f n R w0 (.code x :: k) ρ H := h1 h2
def fitl (ρ : Env) : Env → Prop
  | [] => True
  | (t, v) :: l => look ρ t = some v ∧ fitl ρ l
theorem Fit.of : ∀ {ρ' : Env}, fitl ρ ρ' → Fit ρ ρ'
  | [], _ => fun _ h => by cases h
  | (_, _) :: _, ⟨h1, h2⟩ => fun p hp => by
    cases hp with
    | head => exact h1
    | tail _ hp => exact Fit.of h2 p hp
theorem S.to (hf : fitl ρ ρ') (h : S P f n R w0 k ρ' H) : S P f n R w0 k ρ H := h.fit (.of hf)
theorem SO.to (hf : fitl ρ ρ') (h : SO P n Z w0 ops l ρ' H) : SO P n Z w0 ops l ρ H := h.fit (.of hf)
/-- A loop, told by a function of what is left of the rounds. -/
theorem S.forloop {X O : Type} (l0 : Nat → X → Option O) (ρx : X → Env) (Hx : X → List HProp) (K : (Env → List HProp → Prop) → O → Prop) {id : Nat} {c : Code} {k : List Item} (z : ∀ x, l0 0 x = none)
    (step : ∀ m x o, l0 (m + 1) x = some o → K (S P f n R w0 k) o → (∀ x', l0 m x' = some o → S P f n R w0 (.inLoop c :: .inBlock id :: k) (ρx x') (Hx x')) → S P f n R w0 (.code c :: .inLoop c :: .inBlock id :: k) (ρx x) (Hx x))
    {m : Nat} {x : X} {o : O} (hl : l0 m x = some o) (hK : K (S P f n R w0 k) o) : S P f n R w0 (.code (.block id (.loop c)) :: k) (ρx x) (Hx x) := by
  have key : ∀ m x, l0 m x = some o → S P f n R w0 (.code c :: .inLoop c :: .inBlock id :: k) (ρx x) (Hx x) := by
    intro m
    induction m with
    | zero => intro x h; rw [z] at h; cases h
    | succ m ih => intro x h; exact step m x o h hK fun x' h' => .again (ih x' h')
  exact .block (.loop (key m x hl))
end

/-! ### Rounds -/
theorem opt_bind {α β : Type} {x : Option α} {g : α → Option β} {r : β} (h : x.bind g = some r) : ∃ t, x = some t ∧ g t = some r := by
  cases x with
  | none => cases h
  | some t => exact ⟨t, rfl, h⟩
theorem cond_t {α : Type} {c : Bool} {a b r : α} (h : c = true) (e : (bif c then a else b) = r) : a = r := by subst h; exact e
theorem cond_f {α : Type} {c : Bool} {a b r : α} (h : c = false) (e : (bif c then a else b) = r) : b = r := by subst h; exact e
theorem bool_or (c : Bool) : c = true ∨ c = false := by cases c <;> simp
theorem and_t {c d : Bool} (h : c = true) : some (Value.bool d) = some (Value.bool (c && d)) := by subst h; rfl
theorem and_f {c d : Bool} (h : c = false) : some (Value.bool false) = some (Value.bool (c && d)) := by subst h; rfl
theorem or_t {c d : Bool} (h : c = true) : some (Value.bool true) = some (Value.bool (c || d)) := by subst h; rfl
theorem or_f {c d : Bool} (h : c = false) : some (Value.bool d) = some (Value.bool (c || d)) := by subst h; rfl
/-- What a loop leads to: an answer of the function's, or its end. -/
inductive Brk (α β : Type) where
  | ret (a : α)
  | nx (b : β)
end Go.Sl
namespace Go.Sl
open Go.RowKit

/-- How an element lies in cells. -/
structure EK (α : Type) where
  sz : Nat
  enc : α → List Value
  len : ∀ x, (enc x).length = sz
  one : ∀ x, ∀ v ∈ enc x, v.oneCell' = true
  pos : 0 < sz
def EK.flat {α : Type} (K : EK α) (xs : List α) : List Value := xs.flatMap K.enc
def ekI (k : IntKind) : EK Int := ⟨1, fun x => [.int k x], fun _ => rfl, fun _ v hv => by simp at hv; subst hv; rfl, by decide⟩
def ekB : EK Bool := ⟨1, fun x => [.bool x], fun _ => rfl, fun _ v hv => by simp at hv; subst hv; rfl, by decide⟩
section
variable {α : Type} (K : EK α)
theorem EK.length_flat (xs : List α) : (K.flat xs).length = xs.length * K.sz := by
  induction xs with
  | nil => simp [EK.flat]
  | cons x l ih => simp only [EK.flat, List.flatMap_cons, List.length_append, K.len, List.length_cons, Nat.add_mul, Nat.one_mul] at *; omega
theorem EK.flat_append (xs ys : List α) : K.flat (xs ++ ys) = K.flat xs ++ K.flat ys := by simp [EK.flat]
theorem EK.flat_one {xs : List α} : ∀ v ∈ K.flat xs, v.oneCell' = true := by
  intro v hv
  obtain ⟨x, _, h⟩ := List.mem_flatMap.1 hv
  exact K.one x v h
theorem EK.flat_get : ∀ (xs : List α) (i : Nat) (x : α) (j : Nat), xs[i]? = some x → j < K.sz → (K.flat xs)[i * K.sz + j]? = (K.enc x)[j]?
  | [], i, x, j, h, _ => by simp at h
  | y :: l, 0, x, j, h, hj => by
    simp at h; subst h
    simp only [EK.flat, List.flatMap_cons, Nat.zero_mul, Nat.zero_add]
    rw [List.getElem?_append_left (by rw [K.len]; exact hj)]
  | y :: l, i + 1, x, j, h, hj => by
    simp only [List.getElem?_cons_succ] at h
    have := EK.flat_get l i x j h hj
    simp only [EK.flat, List.flatMap_cons] at *
    rw [List.getElem?_append_right (by rw [K.len, Nat.add_mul]; omega), K.len, ← this]
    congr 1; rw [Nat.add_mul]; omega
theorem EK.flat_set1 : ∀ (xs : List α) (i : Nat) (x x' : α) (j : Nat) (u : Value), xs[i]? = some x → j < K.sz → K.enc x' = (K.enc x).set j u → K.flat (xs.set i x') = (K.flat xs).set (i * K.sz + j) u
  | [], i, x, x', j, u, h, _, _ => by simp at h
  | y :: l, 0, x, x', j, u, h, hj, he => by
    simp at h; subst h
    simp only [EK.flat, List.set_cons_zero, List.flatMap_cons, Nat.zero_mul, Nat.zero_add]
    rw [List.set_append_left _ _ (by rw [K.len]; exact hj), he]
  | y :: l, i + 1, x, x', j, u, h, hj, he => by
    simp only [List.getElem?_cons_succ] at h
    have := EK.flat_set1 l i x x' j u h hj he
    simp only [EK.flat, List.set_cons_succ, List.flatMap_cons] at *
    rw [List.set_append_right _ _ (by rw [K.len, Nat.add_mul]; omega), K.len, this]
    congr 2; rw [Nat.add_mul]; omega
end

/-- A slice of one's own: its elements, in a block of one's own, from its head on. -/
def Own {α : Type} (E : TypeId) (K : EK α) (v : Value) (xs : List α) : HProp := fun m =>
  (v = .slice none 0 0 ∧ xs = []) ∨
  ∃ g cap cur, v = .slice (some ⟨g, 0, none⟩) xs.length cap ∧ m g = some (.cells cur E (0, 0)) ∧ xs.length ≤ cap ∧ cap ≤ maxLen ∧ cur.size = cap * K.sz ∧ cur.toList.take (xs.length * K.sz) = K.flat xs
/-- A slice that may be read, by a resource. -/
def Rd {α : Type} (K : EK α) (v : Value) (xs : List α) (A : HProp) : Prop :=
  ∃ a cap, (v = .slice a xs.length cap ∧ xs.length ≤ cap) ∧ ∀ i x, xs[i]? = some x → ∃ b off, a = some ⟨b, off, none⟩ ∧ ∀ m, A m → ∃ all E fr, m b = some (.cells all E fr) ∧ ∀ j, j < K.sz → all[off + (i * K.sz + j)]? = (K.enc x)[j]?
theorem Rd.head {α : Type} {K : EK α} {v : Value} {xs : List α} {A : HProp} {l : List HProp} (h : Rd K v xs A) : Rd K v xs (stars (A :: l)) := by
  obtain ⟨a, cap, hv, h⟩ := h
  refine ⟨a, cap, hv, fun i x hx => ?_⟩
  obtain ⟨b, off, ha, h⟩ := h i x hx
  refine ⟨b, off, ha, fun m ⟨m1, m2, d, s1, s2, hA, hB⟩ => ?_⟩
  obtain ⟨all, E, fr, hm, hc⟩ := h m1 hA
  exact ⟨all, E, fr, s1 _ _ hm, hc⟩
theorem Rd.tail {α : Type} {K : EK α} {v : Value} {xs : List α} {A : HProp} {l : List HProp} (h : Rd K v xs (stars l)) : Rd K v xs (stars (A :: l)) := by
  obtain ⟨a, cap, hv, h⟩ := h
  refine ⟨a, cap, hv, fun i x hx => ?_⟩
  obtain ⟨b, off, ha, h⟩ := h i x hx
  refine ⟨b, off, ha, fun m hm => h m (stars_drop hm)⟩
theorem Own.rd {α : Type} {E : TypeId} {K : EK α} {v : Value} {xs : List α} {m0 : PH} (h : Own E K v xs m0) : Rd K v xs (Own E K v xs) := by
  rcases h with ⟨rfl, rfl⟩ | ⟨g, cap, cur, rfl, hg, hle, hcap, hsz, hcur⟩
  · exact ⟨none, 0, ⟨rfl, Nat.le_refl _⟩, fun i x hx => by simp at hx⟩
  · refine ⟨_, cap, ⟨rfl, hle⟩, fun i x hx => ⟨g, 0, rfl, fun m hm => ?_⟩⟩
    have hi : i < xs.length := by
      rcases Nat.lt_or_ge i xs.length with h | h
      · exact h
      · simp [List.getElem?_eq_none h] at hx
    rcases hm with ⟨hv, _⟩ | ⟨g', cap', cur', hv, hg', _, _, _, hcur'⟩
    · simp at hv
    · injection hv with h1 _ _; injection h1 with h1; injection h1 with h1 _ _; subst h1
      refine ⟨cur', E, _, hg', fun j hj => ?_⟩
      rw [← EK.flat_get K xs i x j hx hj, ← hcur']
      have hb : i * K.sz + j < xs.length * K.sz := by
        have : (i + 1) * K.sz ≤ xs.length * K.sz := Nat.mul_le_mul_right _ hi
        rw [Nat.add_mul] at this; omega
      rw [List.getElem?_take_of_lt hb]; simp
theorem Own.nil {α : Type} (E : TypeId) (K : EK α) (m : PH) : Own E K (.slice none 0 0) ([] : List α) m := .inl ⟨rfl, rfl⟩
theorem Own.of_row {α : Type} {E : TypeId} {K : EK α} {w : World} {v : Value} {xs : List α} {base : Nat} (h : w.ownsRow base E K.sz v xs.length (K.flat xs)) : Own E K v xs (fun b => if some b = v.ownBlock then w.heap[b]? else none) := by
  rcases h.2 with ⟨rfl, h0⟩ | ⟨g, cap, cur, rfl, _, hg, hle, hcap, hsz, hcur⟩
  · exact .inl ⟨rfl, List.eq_nil_of_length_eq_zero h0⟩
  · exact .inr ⟨g, cap, cur, rfl, by simp [Value.ownBlock, hg], hle, hcap, hsz, hcur⟩
theorem Own.row {α : Type} {E : TypeId} {K : EK α} {w : World} {v : Value} {xs : List α} {m : PH} (h : Own E K v xs m) (hs : PH.Sub m (hp w)) : w.ownsRow 0 E K.sz v xs.length (K.flat xs) := by
  refine ⟨K.length_flat xs, ?_⟩
  rcases h with ⟨rfl, rfl⟩ | ⟨g, cap, cur, rfl, hg, hle, hcap, hsz, hcur⟩
  · exact .inl ⟨rfl, rfl⟩
  · exact .inr ⟨g, cap, cur, rfl, Nat.zero_le _, hs _ _ hg, hle, hcap, hsz, hcur⟩

/-- The place of a cell of a slice's. -/
def idxp (v : Value) (n : Nat) : Value :=
  match v with
  | .slice (some a) _ _ => .pointer (some ⟨a.block, a.off + n, none⟩)
  | _ => undef
/-- An element: none outside. -/
def at_ {α : Type} (xs : List α) (i : Int) : Option α := bif decide (0 ≤ i) then xs[i.toNat]? else none
theorem at_spec {α : Type} {xs : List α} {i : Int} {x : α} (h : at_ xs i = some x) : 0 ≤ i ∧ i < (xs.length : Int) ∧ xs[i.toNat]? = some x := by
  unfold at_ at h
  cases hd : decide (0 ≤ i) with
  | false => simp [hd] at h
  | true =>
    simp only [hd, cond_true] at h
    have h0 : 0 ≤ i := by simpa using hd
    have : i.toNat < xs.length := by
      rcases Nat.lt_or_ge i.toNat xs.length with h' | h'
      · exact h'
      · simp [List.getElem?_eq_none h'] at h
    exact ⟨h0, by omega, h⟩
/-- An append, of lists that are not too long. -/
def app {α : Type} (xs ys : List α) : Option (List α) := bif decide (xs.length + ys.length ≤ 4294967296) then some (xs ++ ys) else none
theorem app_spec {α : Type} {xs ys zs : List α} (h : app xs ys = some zs) : xs.length + ys.length ≤ 4294967296 ∧ zs = xs ++ ys := by
  unfold app at h
  cases hd : decide (xs.length + ys.length ≤ 4294967296) with
  | false => simp [hd] at h
  | true => simp [hd] at h; exact ⟨by simpa using hd, h.symm⟩
/-- A list of one element, so often. -/
def mk_ {α : Type} (z : α) (n : Int) : Option (List α) := bif decide (0 ≤ n) && decide (n ≤ 4294967296) then some (List.replicate n.toNat z) else none
theorem mk_spec {α : Type} {z : α} {n : Int} {zs : List α} (h : mk_ z n = some zs) : 0 ≤ n ∧ n ≤ 4294967296 ∧ zs = List.replicate n.toNat z := by
  unfold mk_ at h
  cases hd : (decide (0 ≤ n) && decide (n ≤ 4294967296)) with
  | false => simp only [hd, cond_false] at h; cases h
  | true =>
    simp only [hd, cond_true] at h
    simp only [Bool.and_eq_true, decide_eq_true_eq] at hd
    injection h with h
    exact ⟨hd.1, hd.2, h.symm⟩

theorem append_block {P : Program} (w : World) (t ty e : TypeId) (i : TypeInfo) (z : Value) (size bytes : Nat) (ht : P.underlying t = some (.slice e)) (hi : P.info? e = some i) (hz : i.zero = some z)
    (hsize : i.size = size) (hby : i.bytes = bytes) (hzs : z.cells.size = size) (hsz : 0 < size)
    (v : Value) (n : Nat) (xs : List Value) (hown : w.ownsRow 0 e size v n xs)
    (a : Addr) (m c : Nat) (news : List Value) (hl : news.length = m * size) (hnews : ∀ j u, news[j]? = some u → w.cell? (a.add j) = some u) (h1 : ∀ u ∈ news, u.oneCell' = true)
    (h63 : n + m ≤ maxLen) (hbytes : (n + m) * bytes ≤ 140737488355328) :
    ∃ v' w', (Builtin.append_ #[t, t] ty #[v, .slice (some a) m c]).run P w = .ok v' w' ∧ w'.ownsRow 0 e size v' (n + m) (xs ++ news) ∧ w.grownBy w' v.ownBlock ∧
      ∀ g, v'.ownBlock = some g → v.ownBlock = some g ∨ w.heap.size ≤ g := by
  obtain ⟨v', w', hr, ho, hg, hn⟩ := run_append_own (P := P) w 0 t ty e i z size bytes ht hi hz hsize hby hzs hsz v n xs hown a m c news hl hnews h1 h63 hbytes (Nat.zero_le _)
  refine ⟨v', w', hr, ho, hg, ?_⟩
  subst hsize
  subst hby
  have h63' : n + m ≤ 9223372036854775807 := by simp only [maxLen] at h63; omega
  rcases hown.2 with ⟨rfl, rfl⟩ | ⟨g, cap, cur, rfl, hbg, hgg, hnc, hcm, hcs, htake⟩
  · obtain ⟨v2, w2, hr2, ho2, _, _⟩ := run_append_own (P := P) w w.heap.size t ty e i z i.size i.bytes ht hi hz rfl rfl hzs hsz _ 0 xs ⟨hown.1, .inl ⟨rfl, rfl⟩⟩ a m c news hl hnews h1 h63 hbytes (Nat.le_refl _)
    rw [hr] at hr2
    injection hr2 with e1 e2
    subst e1
    intro q hq
    rcases ho2.2 with ⟨h, _⟩ | ⟨g2, _, _, h, hb, _⟩
    · rw [h] at hq; simp [Value.ownBlock] at hq
    · rw [h] at hq; simp only [Value.ownBlock, Option.some.injEq] at hq; omega
  · by_cases hroom : n + m ≤ cap
    · have hfit : n * i.size + news.length ≤ cur.size := by rw [hl, hcs, ← Nat.add_mul]; exact Nat.mul_le_mul_right _ hroom
      have hr2 := run_append_room (P := P) w t ty e i ht hi g n cap cur hgg a m c news hl hnews h1 hroom hfit
      rw [hr] at hr2
      injection hr2 with e1 e2
      subst e1
      intro q hq
      exact .inl hq
    · have holds : ∀ j u, xs[j]? = some u → w.cell? ((⟨g, 0, none⟩ : Addr).add j) = some u := hown.cells (g := g) rfl
      have hr2 := run_append_grow (P := P) w t ty e i z ht hi hz ⟨g, 0, none⟩ n cap xs hown.1 holds a m c news hl hnews (by omega) (by omega) (growslice_fits (by omega) hbytes)
      rw [hr] at hr2
      injection hr2 with e1 e2
      subst e1
      intro q hq
      simp only [Value.ownBlock, Option.some.injEq] at hq
      exact .inr (by omega)

section
variable {P : Program} {f : FuncId} {n : Nat} {Z : Act → World → Prop} {R : Ending → World → Prop} {w0 : Beg} {k : List Item} {ρ ρ' : Env} {H H' pre rest : List HProp} {ops : Array Oper} {l : List Oper}
variable {α : Type} {K : EK α} {v : Value} {xs : List α}

theorem SO.rd {E : TypeId} (h : Rd K v xs (Own E K v xs) → SO P n Z w0 ops l ρ (Own E K v xs :: rest)) : SO P n Z w0 ops l ρ (Own E K v xs :: rest) := by
  intro a w h1 h2 h3 h4 h5
  obtain ⟨m, _, hm⟩ := h4.head
  exact h hm.rd a w h1 h2 h3 h4 h5
theorem S.rd {E : TypeId} (h : Rd K v xs (Own E K v xs) → S P f n R w0 k ρ (Own E K v xs :: rest)) : S P f n R w0 k ρ (Own E K v xs :: rest) := by
  intro a w h1 h2 h3 h4 h5
  obtain ⟨m, _, hm⟩ := h4.head
  exact h hm.rd a w h1 h2 h3 h4 h5
theorem SO.newOwn (E : TypeId) (K : EK α) (h : SO P n Z w0 ops l ρ (Own E K (.slice none 0 0) ([] : List α) :: H)) : SO P n Z w0 ops l ρ H :=
  h.sat fun w s => show stars (Own E K (.slice none 0 0) ([] : List α) :: H) (hp w) from ⟨fun _ => none, hp w, fun _ => .inl rfl, fun _ _ e => by simp at e, .refl _, Own.nil E K _, s⟩
theorem opv_lenR {A : HProp} {x : Operand} {tys : Array TypeId} {t e : TypeId} (ht0 : tys[0]? = some t) (ht : P.underlying t = some (.slice e)) (hR : Rd K v xs A) (hx : ev ρ x = some v) :
    OpV P ρ (.call ⟨.builtin .len, #[x], tys⟩) (.int .i64 xs.length) := by
  obtain ⟨a, cap, ⟨rfl, _⟩, _⟩ := hR
  exact opv_len ht0 ht hx
theorem opv_idx {A : HProp} {x y : Operand} {t e : TypeId} {ki : IntKind} {i : Int} {z : α} (ht : P.underlying t = some (.slice e)) (hz : ∀ w, (sizeOf e).run P w = .ok K.sz w) (hR : Rd K v xs A) (hx : ev ρ x = some v) (hy : ev ρ y = some (.int ki i)) (ha : at_ xs i = some z) :
    OpV P ρ (.indexAddr t x y) (idxp v (i.toNat * K.sz)) := by
  obtain ⟨a, cap, ⟨rfl, _⟩, hR⟩ := hR
  obtain ⟨h0, h1, h2⟩ := at_spec ha
  obtain ⟨b, off, rfl, _⟩ := hR _ _ h2
  intro r w d t' p af g hr
  simp only [execOp, hr x _ hx, hr y _ hy, Instr.indexAt]
  simp only [Sem.run_bind, asIntOf, Sem.run_pure, Result.andThen_ok, run_underlying ht]
  simp only [h0, h1, and_self, if_true, Sem.run_bind, hz, Result.andThen_ok, Sem.run_pure, idxp, Addr.add]
  split
  · rename_i h; simp [h]
  · rfl
theorem opv_fieldIdx {A : HProp} {s m m' : Nat} {x : Operand} {fl : Nat} {fs : Array Field} {fd : Field} {sz : Nat} {i : Int} {z : α} (hs : P.underlying s = some (.struct fs)) (hf : fs[fl]? = some fd) (hz : ∀ w, (sizeOf fd.type).run P w = .ok (sz + 1) w) (hR : Rd K v xs A) (ha : at_ xs i = some z) (hx : ev ρ x = some (idxp v m)) (ho : m + fd.offset = m') :
    OpV P ρ (.fieldAddr s x fl) (idxp v m') := by
  obtain ⟨a, cap, ⟨rfl, _⟩, hR⟩ := hR
  obtain ⟨b, off, rfl, _⟩ := hR _ _ (at_spec ha).2.2
  have := opv_fieldAddr (b := b) (o := off + m) (o' := off + m') hs hf hz hx (by omega)
  exact this
theorem SO.loadI1 {d t ty m j : Nat} {x : Operand} {p : String} {af : Array Edge} {u : Value} {i : Int} {z : α} (hd : Nat.blt d n = true) (ha : ∀ w, (isAgg t).run P w = .ok false w) (hR : Rd K v xs (stars H)) (hi : at_ xs i = some z) (hx : ev ρ x = some (idxp v m)) (hm : i.toNat * K.sz + j = m) (hj : Nat.blt j K.sz = true) (hu : (K.enc z)[j]? = some u)
    (h : SO P n Z w0 ops l ((d, u) :: ρ) H) : SO P n Z w0 ops (⟨some d, .load t x, ty, p, af, none⟩ :: l) ρ H := by
  refine .raw hd fun r w hr hs => ⟨_, _, ρ, _, ?_, hs, .refl w, h, fun _ h => h⟩
  obtain ⟨a, cap, ⟨rfl, _⟩, hR⟩ := hR
  obtain ⟨b, off, rfl, hR2⟩ := hR _ _ (at_spec hi).2.2
  obtain ⟨all, E, fr, hb, hc⟩ := hR2 _ hs
  have hc : w.cell? ⟨b, off + m, none⟩ = some u := by
    rw [cell_of_blk hb, ← hm, hc j (by simpa using hj), hu]
  simp [execOp, hr x _ hx, Instr.loadAt, idxp, Instr.sureAddr, loadVar, ha, hc]
theorem SO.loadIN {d t ty m : Nat} {x : Operand} {p : String} {af : Array Edge} {us : List Value} {i : Int} {z : α} (hd : Nat.blt d n = true) (ha : ∀ w, (isAgg t).run P w = .ok true w) (hz : ∀ w, (sizeOf t).run P w = .ok K.sz w) (hR : Rd K v xs (stars H)) (hi : at_ xs i = some z) (hx : ev ρ x = some (idxp v m)) (hm : i.toNat * K.sz = m) (hu : K.enc z = us)
    (h : SO P n Z w0 ops l ((d, .agg us.toArray) :: ρ) H) : SO P n Z w0 ops (⟨some d, .load t x, ty, p, af, none⟩ :: l) ρ H := by
  refine .raw hd fun r w hr hs => ⟨_, _, ρ, _, ?_, hs, .refl w, h, fun _ h => h⟩
  obtain ⟨a, cap, ⟨rfl, _⟩, hR⟩ := hR
  obtain ⟨b, off, rfl, hR2⟩ := hR _ _ (at_spec hi).2.2
  obtain ⟨all, E, fr, hb, hc⟩ := hR2 _ hs
  have hc : ∀ j, j < K.sz → w.cell? ⟨b, off + m + j, none⟩ = us[j]? := fun j hj => by
    rw [cell_of_blk hb, ← hu, ← hc j hj]; congr 1; omega
  have hl : us.length = K.sz := by rw [← hu, K.len]
  simp [execOp, hr x _ hx, Instr.loadAt, idxp, Instr.sureAddr, loadVar, ha, hz, loadCells_run hl hc]

theorem Own.put {E : TypeId} {w w' : World} {xs' : List α} (hs : Sat w (Own E K v xs :: rest)) (h : ∀ g cap cur, v = .slice (some ⟨g, 0, none⟩) xs.length cap → w.heap[g]? = some (.cells cur E (0, 0)) → xs.length ≤ cap → cur.size = cap * K.sz → cur.toList.take (xs.length * K.sz) = K.flat xs →
      ∃ cur', w'.heap[g]? = some (.cells cur' E (0, 0)) ∧ cur'.size = cur.size ∧ cur'.toList.take (xs.length * K.sz) = K.flat xs' ∧ ∀ q, q ≠ g → w'.heap[q]? = w.heap[q]?) (hl : xs'.length = xs.length) (hne : xs ≠ []) : Sat w' (Own E K v xs' :: rest) := by
  refine hs.update fun m hm hsub _ => ?_
  rcases hm with ⟨_, rfl⟩ | ⟨g, cap, cur, hv, hg, hle, hcap, hsz, hcur⟩
  · exact absurd rfl hne
  · obtain ⟨cur', hg', hs', ht', ho⟩ := h g cap cur hv (hsub _ _ hg) hle hsz hcur
    refine ⟨fun b => if b = g then some (.cells cur' E (0, 0)) else none, .inr ⟨g, cap, cur', by rw [hl]; exact hv, by simp, by rw [hl]; exact hle, hcap, by rw [hs', hsz], by rw [hl]; exact ht'⟩, fun b o e => ?_, fun b hb _ => ?_, fun b _ hb => ?_⟩
    · have e' : (if b = g then some (Obj.cells cur' E (0, 0)) else none) = some o := e
      clear e
      split at e'
      · rename_i h; subst h; injection e' with e; subst e; exact hg'
      · cases e'
    · show (if b = g then some (Obj.cells cur' E (0, 0)) else none) = none
      rw [if_neg (fun e => by subst e; simp [hg] at hb)]
    · exact ho b (fun e => by subst e; simp [hg] at hb)
theorem take_set_lt {β : Type} (L : List β) (m j : Nat) (u : β) (hj : j < m) : (L.set j u).take m = (L.take m).set j u := by
  apply List.ext_getElem?
  intro q
  rcases Nat.lt_or_ge q m with h | h
  · rw [List.getElem?_take_of_lt h]
    by_cases e : j = q
    · subst e
      rcases Nat.lt_or_ge j L.length with h2 | h2
      · rw [List.getElem?_set_self h2, List.getElem?_set_self (by simp; omega)]
      · rw [List.getElem?_eq_none (by simpa using h2), List.getElem?_eq_none (by simp; omega)]
    · rw [List.getElem?_set_ne e, List.getElem?_set_ne e, List.getElem?_take_of_lt h]
  · rw [List.getElem?_eq_none (by simp; omega), List.getElem?_eq_none (by simp; omega)]
theorem SO.storeI1 {E t ty m j : Nat} {x y : Operand} {p : String} {af : Array Edge} {u : Value} {i : Int} {z z' : α} (hz : ∀ w, (sizeOf t).run P w = .ok 1 w) (hi : at_ xs i = some z) (hx : ev ρ x = some (idxp v m)) (hy : ev ρ y = some u) (h1 : u.oneCell' = true) (hm : i.toNat * K.sz + j = m) (hj : Nat.blt j K.sz = true) (hu : K.enc z' = (K.enc z).set j u)
    (h : SO P n Z w0 ops l ρ (Own E K v (xs.set i.toNat z') :: rest)) : SO P n Z w0 ops (⟨none, .store t x y, ty, p, af, none⟩ :: l) ρ (Own E K v xs :: rest) := by
  have hj' : j < K.sz := by simpa using hj
  obtain ⟨h0, hlt, hget⟩ := at_spec hi
  have hne : xs ≠ [] := by intro e; subst e; simp at hget
  have hb : i.toNat * K.sz + j < xs.length * K.sz := by
    have : (i.toNat + 1) * K.sz ≤ xs.length * K.sz := Nat.mul_le_mul_right _ (by omega)
    rw [Nat.add_mul] at this; omega
  refine .raw0 fun r w hr hs => ?_
  obtain ⟨mm, hmm, hown⟩ := hs.head
  rcases hown with ⟨_, rfl⟩ | ⟨g, cap, cur, rfl, hg, hle, hcap, hsz, hcur⟩
  · exact absurd rfl hne
  have hg := hmm _ _ hg
  have hsz' : m < cur.size := by
    have : xs.length * K.sz ≤ cap * K.sz := Nat.mul_le_mul_right _ hle
    omega
  have hcell : w.cell? ⟨g, m, none⟩ = some cur[m] := by rw [cell_of_blk hg]; exact Array.getElem?_eq_getElem hsz'
  have hf : w.frozen? ⟨g, m, none⟩ = false := frozen_of_blk hg
  have hcs : u.cells = #[u] := by cases u <;> first | rfl | simp [Value.oneCell'] at h1
  refine ⟨w.setCell ⟨g, m, none⟩ u, _, ?_, ?_, .setCell _ _ _, h⟩
  · simp only [execOp, hr x _ hx, hr y _ hy, Instr.storeAt, idxp, Instr.sureAddr, storeVar, Nat.zero_add]
    simp [hz, hcs, storeCells, Addr.add, run_store P w ⟨g, m, none⟩ u .plain h1, hcell, hf]
  · refine Own.put hs (fun g2 cap2 cur2 hv2 hg2 _ hsz2 hcur2 => ?_) (by simp) hne
    injection hv2 with e1 _ _; injection e1 with e1; injection e1 with e1 _ _; subst e1
    have : cur2 = cur := by
      have h9 : some (Obj.cells cur2 E) = some (Obj.cells cur E) := hg2.symm.trans hg
      injection h9 with h9; injection h9
    subst this
    refine ⟨_, setCell_blk u hg, by simp, ?_, fun q hq => setCell_other u hq⟩
    rw [Array.toList_setIfInBounds, take_set_lt _ _ _ _ (by omega), hcur2, ← hm, EK.flat_set1 K xs _ z z' j u hget hj' hu]
theorem SO.storeIN {E t ty m : Nat} {x y : Operand} {p : String} {af : Array Edge} {us : List Value} {i : Int} {z z' : α} (hz : ∀ w, (sizeOf t).run P w = .ok K.sz w) (hi : at_ xs i = some z) (hx : ev ρ x = some (idxp v m)) (hy : ev ρ y = some (.agg us.toArray)) (hm : i.toNat * K.sz = m) (hu : K.enc z' = us)
    (h : SO P n Z w0 ops l ρ (Own E K v (xs.set i.toNat z') :: rest)) : SO P n Z w0 ops (⟨none, .store t x y, ty, p, af, none⟩ :: l) ρ (Own E K v xs :: rest) := by
  obtain ⟨h0, hlt, hget⟩ := at_spec hi
  have hne : xs ≠ [] := by intro e; subst e; simp at hget
  have hl : us.length = K.sz := by rw [← hu, K.len]
  have hb : m + K.sz ≤ xs.length * K.sz := by
    have : (i.toNat + 1) * K.sz ≤ xs.length * K.sz := Nat.mul_le_mul_right _ (by omega)
    rw [Nat.add_mul] at this; omega
  refine .raw0 fun r w hr hs => ?_
  obtain ⟨mm, hmm, hown⟩ := hs.head
  rcases hown with ⟨_, rfl⟩ | ⟨g, cap, cur, rfl, hg, hle, hcap, hsz, hcur⟩
  · exact absurd rfl hne
  have hg := hmm _ _ hg
  have hszl : xs.length * K.sz ≤ cap * K.sz := Nat.mul_le_mul_right _ hle
  obtain ⟨w', c', hrun, hb', hs', ho, hn, hq, hk⟩ := storeCells_run (P := P) (b := g) (o := m) us 0 w cur E hg (fun u hu' => K.one z' u (by rw [hu]; exact hu')) (by omega)
  refine ⟨w', _, ?_, ?_, hk, h⟩
  · simp only [execOp, hr x _ hx, hr y _ hy, Instr.storeAt, idxp, Instr.sureAddr, storeVar, Nat.zero_add]
    simp only [Value.cells, Sem.run_bind, Sem.run_pure, Result.andThen_ok, hz]
    simp [hl, hrun]
  · refine Own.put hs (fun g2 cap2 cur2 hv2 hg2 _ hsz2 hcur2 => ?_) (by simp) hne
    injection hv2 with e1 _ _; injection e1 with e1; injection e1 with e1 _ _; subst e1
    have : cur2 = cur := by
      have h9 : some (Obj.cells cur2 E) = some (Obj.cells cur E) := hg2.symm.trans hg
      injection h9 with h9; injection h9
    subst this
    refine ⟨c', hb', hs', ?_, hq⟩
    apply List.ext_getElem?
    intro q
    have hxl : (xs.set i.toNat z').length = xs.length := by simp
    rcases Nat.lt_or_ge q (xs.length * K.sz) with hq1 | hq1
    · rw [List.getElem?_take_of_lt hq1]
      have hdm : q = (q / K.sz) * K.sz + q % K.sz := by rw [Nat.mul_comm]; exact (Nat.div_add_mod q K.sz).symm
      have hmod : q % K.sz < K.sz := Nat.mod_lt _ K.pos
      have hdl : q / K.sz < xs.length := Nat.div_lt_of_lt_mul (by rw [Nat.mul_comm]; exact hq1)
      by_cases e : q / K.sz = i.toNat
      · have hx' : (xs.set i.toNat z')[q / K.sz]? = some z' := by rw [e, List.getElem?_set_self (by omega)]
        have e2 : (K.flat (xs.set i.toNat z'))[q]? = us[q % K.sz]? := by
          conv => lhs; rw [hdm]
          rw [EK.flat_get K _ _ z' _ hx' hmod, hu]
        have e3 : c'[m + 0 + q % K.sz]? = us[q % K.sz]? := hn _ (by omega)
        rw [e2, ← e3]; simp only [Array.getElem?_toList]; congr 1; rw [← hm, ← e]; omega
      · have hx' : (xs.set i.toNat z')[q / K.sz]? = some xs[q / K.sz] := by rw [List.getElem?_set_ne (Ne.symm e)]; exact List.getElem?_eq_getElem hdl
        have e2 : (K.flat (xs.set i.toNat z'))[q]? = (K.enc xs[q / K.sz])[q % K.sz]? := by
          conv => lhs; rw [hdm]
          rw [EK.flat_get K _ _ _ _ hx' hmod]
        have e4 : (K.flat xs)[q]? = (K.enc xs[q / K.sz])[q % K.sz]? := by
          conv => lhs; rw [hdm]
          rw [EK.flat_get K _ _ _ _ (List.getElem?_eq_getElem hdl) hmod]
        have hout : q < m + 0 ∨ m + 0 + us.length ≤ q := by
          rcases Nat.lt_or_gt_of_ne e with h | h
          · left
            have : (q / K.sz + 1) * K.sz ≤ i.toNat * K.sz := Nat.mul_le_mul_right _ h
            rw [Nat.add_mul] at this; omega
          · right
            have : (i.toNat + 1) * K.sz ≤ (q / K.sz) * K.sz := Nat.mul_le_mul_right _ h
            rw [Nat.add_mul] at this; omega
        rw [e2, ← e4, ← hcur2, List.getElem?_take_of_lt hq1]
        simp only [Array.getElem?_toList]
        exact ho q hout
    · rw [List.getElem?_eq_none (by simp; omega), List.getElem?_eq_none (by rw [EK.length_flat, hxl]; omega)]

theorem append_ty {P : Program} {t t2 e e2 ty : Nat} {a : Array Value} {w : World} {i : TypeInfo} (ht : P.underlying t = some (.slice e)) (ht2 : P.underlying t2 = some (.slice e2)) (hi : P.info? e = some i) : (Builtin.append_ #[t, t2] ty a).run P w = (Builtin.append_ #[t, t] ty a).run P w := by
  cases h1 : a[0]? with
  | none => simp [Builtin.append_, h1]
  | some s =>
    cases h2 : a[1]? with
    | none => simp [Builtin.append_, h1, h2]
    | some x => cases s <;> simp [Builtin.append_, h1, h2, run_underlying ht, run_underlying ht2, sizeOf, typeInfo, hi]
/-- An append to a slice of one's own, of another slice's elements. -/
theorem SO.append {ys : List α} {d t t2 e2 ty e : Nat} {x y : Operand} {p : String} {af : Array Edge} {i : TypeInfo} {z : Value} {bytes : Nat} {u : Value} {zs : List α} (hd : Nat.blt d n = true) (ht : P.underlying t = some (.slice e)) (ht2 : P.underlying t2 = some (.slice e2)) (hi : P.info? e = some i) (hz : i.zero = some z) (hsize : i.size = K.sz) (hby : i.bytes = bytes) (hbl : bytes ≤ 4096) (hzs : z.cells.size = K.sz)
    (hx : ev ρ x = some v) (hy : ev ρ y = some u) (hR : Rd K u ys (stars rest)) (ha : app xs ys = some zs)
    (h : ∀ v', SO P n Z w0 ops l ((d, v') :: ρ) (Own e K v' zs :: rest)) : SO P n Z w0 ops (⟨some d, .call ⟨.builtin .append, #[x, y], #[t, t2]⟩, ty, p, af, none⟩ :: l) ρ (Own e K v xs :: rest) := by
  obtain ⟨hlen, rfl⟩ := app_spec ha
  refine .raw hd fun r w hr hs => ?_
  obtain ⟨m, hm, hown⟩ := hs.head
  have hrow := hown.row hm
  obtain ⟨ua, ucap, ⟨rfl, _⟩, hR⟩ := hR
  have hrun : ∀ v' w', (Builtin.append_ #[t, t] ty #[v, .slice ua ys.length ucap]).run P w = .ok v' w' → (execOp r ⟨some d, .call ⟨.builtin .append, #[x, y], #[t, t2]⟩, ty, p, af, none⟩).run P w = .ok (.value v') w' := by
    intro v' w' h
    simp [execOp, resolve, Go.invoke, Go.builtin, hr x _ hx, hr y _ hy, append_ty ht ht2 hi, h]
  have key : ∃ v' w', (Builtin.append_ #[t, t] ty #[v, .slice ua ys.length ucap]).run P w = .ok v' w' ∧ w'.ownsRow 0 e K.sz v' (xs ++ ys).length (K.flat (xs ++ ys)) ∧ w.grownBy w' v.ownBlock ∧ ∀ g, v'.ownBlock = some g → v.ownBlock = some g ∨ w.heap.size ≤ g := by
    by_cases hy0 : ys = []
    · subst hy0
      cases ua with
      | none =>
        refine ⟨v, w, ?_, by simpa using hrow, ⟨rfl, rfl, rfl, Nat.le_refl _, fun _ _ _ => rfl⟩, fun _ h => .inl h⟩
        rcases hrow.2 with ⟨rfl, h0⟩ | ⟨g, cap, cur, rfl, _, _, hnc, _⟩
        · simp [Builtin.append_, run_underlying ht, sizeOf, typeInfo, hi, Builtin.lenOf, Builtin.firstCells, h0]
        · simp [Builtin.append_, run_underlying ht, sizeOf, typeInfo, hi, Builtin.lenOf, Builtin.firstCells, hnc, storeCells]
      | some a =>
        obtain ⟨v', w', h1, h2, h3, h4⟩ := append_block (P := P) w t ty e i z K.sz bytes ht hi hz hsize hby hzs K.pos v xs.length (K.flat xs) hrow a 0 ucap [] (by simp) (by simp) (by simp) (by simp only [maxLen]; simp at hlen; omega) (by
            have : (xs.length + 0) * bytes ≤ 4294967296 * 4096 := Nat.mul_le_mul (by simpa using hlen) hbl
            omega)
        exact ⟨v', w', h1, by simpa using h2, h3, h4⟩
    · obtain ⟨y0, hy1⟩ : ∃ y0, ys[0]? = some y0 := by cases ys with | nil => exact absurd rfl hy0 | cons a l => exact ⟨a, rfl⟩
      obtain ⟨b, off, rfl, _⟩ := hR 0 y0 hy1
      have hnews : ∀ j q, (K.flat ys)[j]? = some q → w.cell? ((⟨b, off, none⟩ : Addr).add j) = some q := by
        intro j q hj
        have hjl : j < ys.length * K.sz := by
          rcases Nat.lt_or_ge j (ys.length * K.sz) with h | h
          · exact h
          · rw [List.getElem?_eq_none (by rw [EK.length_flat]; exact h)] at hj; cases hj
        have hdm : j = (j / K.sz) * K.sz + j % K.sz := by rw [Nat.mul_comm]; exact (Nat.div_add_mod j K.sz).symm
        have hmod : j % K.sz < K.sz := Nat.mod_lt _ K.pos
        have hdl : j / K.sz < ys.length := Nat.div_lt_of_lt_mul (by rw [Nat.mul_comm]; exact hjl)
        obtain ⟨b', off', e1, hR1⟩ := hR (j / K.sz) ys[j / K.sz] (List.getElem?_eq_getElem hdl)
        injection e1 with e1; injection e1 with e1 e2 _; subst e1; subst e2
        obtain ⟨m1, m2, dj, s1, s2, _, hrest⟩ := hs
        obtain ⟨all, E, fr, hb, hc⟩ := hR1 _ hrest
        have hc1 := hc (j % K.sz) hmod
        rw [← EK.flat_get K ys _ _ _ (List.getElem?_eq_getElem hdl) hmod, ← hdm, hj] at hc1
        have hbw : w.heap[b]? = some (.cells all E fr) := s2 _ _ hb
        have : (⟨b, off, none⟩ : Addr).add j = ⟨b, off + j, none⟩ := by
          unfold Addr.add; split
          · rename_i h; simp [h]
          · rfl
        rw [this, cell_of_blk hbw, hc1]
      obtain ⟨v', w', h1, h2, h3, h4⟩ := append_block (P := P) w t ty e i z K.sz bytes ht hi hz hsize hby hzs K.pos v xs.length (K.flat xs) hrow ⟨b, off, none⟩ ys.length ucap (K.flat ys) (K.length_flat ys) hnews K.flat_one (by simp only [maxLen]; omega) (by
            have : (xs.length + ys.length) * bytes ≤ 4294967296 * 4096 := Nat.mul_le_mul hlen hbl
            omega)
      exact ⟨v', w', h1, by rw [K.flat_append, List.length_append]; exact h2, h3, h4⟩
  obtain ⟨v', w', hr1, hrow', hg, hblk⟩ := key
  refine ⟨v', w', ρ, Own e K v' (xs ++ ys) :: rest, hrun _ _ hr1, ?_, ⟨hg.os, hg.tape, hg.output, hg.size⟩, h v', fun _ h => h⟩
  refine hs.update fun m1 hm1 hsub hbig => ⟨_, Own.of_row hrow', fun b o e1 => ?_, fun b hb hlt => ?_, fun b hlt hb => ?_⟩
  · have e' : (if some b = v'.ownBlock then w'.heap[b]? else none) = some o := e1
    split at e'
    · exact e'
    · cases e'
  · show (if some b = v'.ownBlock then w'.heap[b]? else none) = none
    split
    · rename_i hb'
      exfalso
      rcases hblk b hb'.symm with h9 | h9
      · rcases hm1 with ⟨rfl, _⟩ | ⟨g, cap, cur, rfl, hgm, _⟩
        · simp [Value.ownBlock] at h9
        · simp only [Value.ownBlock, Option.some.injEq] at h9; subst h9; simp [hgm] at hb
      · omega
    · rfl
  · refine hg.block b hlt fun e1 => ?_
    rcases hm1 with ⟨rfl, _⟩ | ⟨g, cap, cur, rfl, hgm, _⟩
    · simp [Value.ownBlock] at e1
    · simp only [Value.ownBlock, Option.some.injEq] at e1; subst e1; simp [hgm] at hb
end
end Go.Sl
namespace Go.Sl
open Go.RowKit

/-! ### Structs as values -/
def eqI : List Int → List Int → Bool
  | a :: l, b :: m => (a == b) && eqI l m
  | _, _ => true
def encI : List IntKind → List Int → List Value
  | k :: ks, a :: l => .int k a :: encI ks l
  | _, _ => []
/-- Fields of whole numbers, one cell each, from place o on. -/
def FI (P : Program) : List Field → Nat → List IntKind → Prop
  | [], _, [] => True
  | f :: fs, o, k :: ks => f.name ≠ "_" ∧ P.underlying f.type = some (.int k) ∧ f.offset = o ∧ FI P fs (o + 1) ks
  | _, _, _ => False
theorem encI_get : ∀ (ks : List IntKind) (avs : List Int) (i : Nat) (k : IntKind) (a : Int), ks[i]? = some k → avs[i]? = some a → (encI ks avs)[i]? = some (.int k a)
  | [], _, _, _, _, h, _ => by simp at h
  | _ :: _, [], _, _, _, _, h => by simp at h
  | k :: ks, a :: avs, 0, _, _, h1, h2 => by simp at h1 h2; subst h1; subst h2; rfl
  | k :: ks, a :: avs, i + 1, k', a', h1, h2 => by simp at h1 h2; simpa [encI] using encI_get ks avs i k' a' h1 h2
theorem eqFields_int {P : Program} (w : World) (d : Nat) (xs ys : Array Value) : ∀ (fs : List Field) (o : Nat) (ks : List IntKind) (avs bs : List Int), FI P fs o ks → avs.length = ks.length → bs.length = ks.length →
    (∀ i k a, ks[i]? = some k → avs[i]? = some a → xs[o + i]? = some (.int k a)) → (∀ i k a, ks[i]? = some k → bs[i]? = some a → ys[o + i]? = some (.int k a)) → (Op.eqFields (d + 1) xs ys fs).run P w = .ok (eqI avs bs) w
  | [], o, [], avs, bs, _, ha, hb, _, _ => by
    obtain rfl : avs = [] := List.eq_nil_of_length_eq_zero ha
    simp [Op.eqFields, eqI]
  | [], _, _ :: _, _, _, h, _, _, _, _ => by simp [FI] at h
  | _ :: _, _, [], _, _, h, _, _, _, _ => by simp [FI] at h
  | f :: fs, o, k :: ks, [], _, _, ha, _, _, _ => by simp at ha
  | f :: fs, o, k :: ks, _ :: _, [], _, _, hb, _, _ => by simp at hb
  | f :: fs, o, k :: ks, a :: avs, b :: bs, ⟨h1, h2, h3, h4⟩, ha, hb, hx, hy => by
    have ih := eqFields_int w d xs ys fs (o + 1) ks avs bs h4 (by simpa using ha) (by simpa using hb)
      (fun i k' a' h5 h6 => by have := hx (i + 1) k' a' (by simpa using h5) (by simpa using h6); rwa [show o + (i + 1) = o + 1 + i by omega] at this)
      (fun i k' a' h5 h6 => by have := hy (i + 1) k' a' (by simpa using h5) (by simpa using h6); rwa [show o + (i + 1) = o + 1 + i by omega] at this)
    have x0 := hx 0 k a rfl rfl
    have y0 := hy 0 k b rfl rfl
    have hag : (isAgg f.type).run P w = .ok false w := by simp [isAgg, run_underlying h2]
    simp only [Nat.add_zero] at x0 y0
    have px : (part f.type xs f.offset).run P w = .ok (.int k a) w := by simp [part, hag, h3, x0]
    have py : (part f.type ys f.offset).run P w = .ok (.int k b) w := by simp [part, hag, h3, y0]
    simp only [Op.eqFields, if_pos h1]
    simp only [Sem.run_bind, px, py, Result.andThen_ok, run_equalIn_int w d f.type k k a b h2]
    cases hab : (a == b)
    · simp [eqI, hab]
    · simpa [eqI, hab] using ih
theorem eqStruct_run {P : Program} (w : World) {t : TypeId} {fs : Array Field} {ks : List IntKind} {avs bs : List Int} (ht : P.underlying t = some (.struct fs)) (hp : P.stoodInHeld t = false) (hf : FI P fs.toList 0 ks) (ha : avs.length = ks.length) (hb : bs.length = ks.length) :
    (Op.equalIn 10000 t (.agg (encI ks avs).toArray) (.agg (encI ks bs).toArray)).run P w = .ok (eqI avs bs) w := by
  have e1 : P.fieldsOf t = fs := by simp [Program.fieldsOf, ht]
  rw [run_equalIn_struct w 9999 t _ _ (by rw [e1]; exact ht) hp, e1]
  exact eqFields_int w 9998 _ _ fs.toList 0 ks avs bs hf ha hb (fun i k a h1 h2 => by simpa using encI_get ks avs i k a h1 h2) (fun i k a h1 h2 => by simpa using encI_get ks bs i k a h1 h2)
section
variable {P : Program} {ρ : Env}
theorem opv_eqlS {t t2 : TypeId} {x y : Operand} {fs : Array Field} {ks : List IntKind} {avs bs : List Int} {b : Bool} (ht : P.underlying t = some (.struct fs)) (hp : P.stoodInHeld t = false) (hg : P.eqGuardType P.depth t = false) (hf : FI P fs.toList 0 ks) (ha : avs.length = ks.length) (hb : bs.length = ks.length)
    (hx : ev ρ x = some (.agg (encI ks avs).toArray)) (hy : ev ρ y = some (.agg (encI ks bs).toArray)) (he : eqI avs bs = b) : OpV P ρ (.binOp .eql t x y t2) (.bool b) :=
  fun r w d t' p af g hr => by
    simp only [execOp, hr x _ hx, hr y _ hy]
    simp only [Sem.run_bind, run_eqGuard_agg w .eql t x y _ _ hg, Result.andThen_ok, run_eql_struct, eqStruct_run w ht hp hf ha hb, Sem.run_pure, he]
theorem opv_neqS {t t2 : TypeId} {x y : Operand} {fs : Array Field} {ks : List IntKind} {avs bs : List Int} {b : Bool} (ht : P.underlying t = some (.struct fs)) (hp : P.stoodInHeld t = false) (hg : P.eqGuardType P.depth t = false) (hf : FI P fs.toList 0 ks) (ha : avs.length = ks.length) (hb : bs.length = ks.length)
    (hx : ev ρ x = some (.agg (encI ks avs).toArray)) (hy : ev ρ y = some (.agg (encI ks bs).toArray)) (he : (!eqI avs bs) = b) : OpV P ρ (.binOp .neq t x y t2) (.bool b) :=
  fun r w d t' p af g hr => by
    simp only [execOp, hr x _ hx, hr y _ hy]
    simp only [Sem.run_bind, run_eqGuard_agg w .neq t x y _ _ hg, Result.andThen_ok, run_neq_struct, eqStruct_run w ht hp hf ha hb, Sem.run_pure, he]
def evp (ρ : Env) : List (Nat × Operand) → Option (List (Nat × Value))
  | [] => some []
  | (i, x) :: l => match ev ρ x with
    | some v => match evp ρ l with
      | some vs => some ((i, v) :: vs)
      | none => none
    | none => none
theorem evp_map {r : Operand → Value} (hr : ∀ x u, ev ρ x = some u → r x = u) : ∀ {l : List (Nat × Operand)} {vs : List (Nat × Value)}, evp ρ l = some vs → l.map (fun (i, x) => (i, r x)) = vs
  | [], vs, h => by simp [evp] at h; simp [h]
  | (i, x) :: l, vs, h => by
    simp only [evp] at h
    split at h
    · rename_i v hv
      split at h
      · rename_i us hu; injection h with h; subst h; simp [hr x v hv, evp_map hr hu]
      · cases h
    · cases h
theorem opv_build {t : TypeId} {parts : List (Nat × Operand)} {ps : List (Nat × Value)} {v : Value} (hp : evp ρ parts = some ps) (hb : ∀ w, (Instr.build t ps.toArray).run P w = .ok v w) : OpV P ρ (.build t parts.toArray) v :=
  fun r w d t' p af g hr => by
    have := evp_map hr hp
    simp only [execOp, List.map_toArray, this]
    simp [hb]
theorem opv_field {t : TypeId} {x : Operand} {fs : Array Field} {fd : Field} {fl : Nat} {cs : List Value} {u : Value} (ht : P.underlying t = some (.struct fs)) (hf : fs[fl]? = some fd) (ha : ∀ w, (isAgg fd.type).run P w = .ok false w) (hx : ev ρ x = some (.agg cs.toArray)) (hc : cs[fd.offset]? = some u) : OpV P ρ (.field t x fl) u :=
  fun r w d t' p af g hr => by
    have hc' : (cs.toArray)[fd.offset]? = some u := by simpa using hc
    simp only [execOp, hr x _ hx, Instr.field]
    simp [run_underlying ht, hf, asAgg, part, ha, hc]
theorem opv_makeFunc {fn : Fn} {first captured : List Operand} {vs us : List Value} (h1 : evs ρ first = some vs) (h2 : evs ρ captured = some us) : OpV P ρ (.makeFunc fn first.toArray captured.toArray) (.func fn vs.toArray us.toArray) :=
  fun r w d t' p af g hr => by
    simp [execOp, Instr.makeFunc, evs_map hr h1, evs_map hr h2]
end

section
variable {P : Program} {f : FuncId} {n : Nat} {Z : Act → World → Prop} {R : Ending → World → Prop} {w0 : Beg} {k : List Item} {ρ ρ' : Env} {H H' pre rest : List HProp} {ops : Array Oper} {l : List Oper}
variable {α : Type} {K : EK α} {v : Value} {xs : List α}

theorem Own.fresh {E : TypeId} {w : World} {cs : Array Value} {nn : Nat} {xs : List α} (hs : Sat w H) (hl : xs.length = nn) (hn : nn ≤ maxLen) (hsz : cs.size = nn * K.sz) (hc : K.flat xs = cs.toList) :
    Sat (w.alloc (.cells cs E)) (Own E K (.slice (some ⟨w.heap.size, 0, none⟩) nn nn) xs :: H) := by
  refine hs.alloc _ _ (.inr ⟨w.heap.size, nn, cs, by rw [hl], by simp, by omega, hn, hsz, ?_⟩)
  rw [hl, hc]
  exact List.take_of_length_le (by simp [hsz])
theorem SO.buildSlice {d t ty E nn : Nat} {parts : List (Nat × Operand)} {ps : List (Nat × Value)} {p : String} {af : Array Edge} {z : Value} {cs : List Value} (hd : Nat.blt d n = true) (ht : P.underlying t = some (.slice E)) (hs : ∀ w, (sizeOf E).run P w = .ok K.sz w) (hz : ∀ w, (zeroValue E).run P w = .ok z w)
    (hp : evp ρ parts = some ps) (hsmall : Nat.ble (nn * K.sz) 16777216 = true) (hpos : Nat.blt 0 nn = true) (hfill : Instr.fill (fun i => some (i * K.sz, K.sz)) ((Array.range (nn * K.sz)).map (z.cells[· % z.cells.size]!)) ps = some cs.toArray) (hcl : cs.length = nn * K.sz) (hcs : K.flat xs = cs) (hl : xs.length = nn)
    (h : ∀ v, Rd K v xs (Own E K v xs) → SO P n Z w0 ops l ((d, v) :: ρ) (Own E K v xs :: H)) : SO P n Z w0 ops (⟨some d, .buildSlice t nn parts.toArray, ty, p, af, none⟩ :: l) ρ H := by
  have hpos' : 0 < nn := by simpa using hpos
  have hsm : nn * K.sz ≤ 16777216 := by simpa using hsmall
  have hkp := K.pos
  have hne : nn * K.sz ≠ 0 := Nat.pos_iff_ne_zero.1 (Nat.mul_pos hpos' hkp)
  have hnn : nn ≤ 16777216 := Nat.le_trans (Nat.le_mul_of_pos_right nn hkp) hsm
  refine .raw hd fun r w hr hsat => ⟨.slice (some ⟨w.heap.size, 0, none⟩) nn nn, w.alloc (.cells cs.toArray E), ρ, _, ?_, Own.fresh (K := K) (xs := xs) (E := E) hsat hl (by simp only [maxLen]; omega) (by simpa using hcl) (by simpa using hcs), .alloc _ _, h _ ?_, fun _ h => h⟩
  · have hps := evp_map hr hp
    simp only [execOp, List.map_toArray, hps, Instr.buildSlice]
    have h24 : ¬ (nn * K.sz > 2 ^ 24) := by omega
    simp [run_underlying ht, hs, hz, hne, hfill, newRow, h24]
  · have hfr := Own.fresh (w := w) (K := K) (xs := xs) (E := E) (cs := cs.toArray) hsat hl (by simp only [maxLen]; omega) (by simpa using hcl) (by simpa using hcs)
    obtain ⟨m, _, hm⟩ := hfr.head
    exact hm.rd
theorem SO.buildSlice0 {d t ty E : Nat} (K : EK α) {p : String} {af : Array Edge} (hd : Nat.blt d n = true) (ht : P.underlying t = some (.slice E)) (hs : ∀ w, (sizeOf E).run P w = .ok K.sz w)
    (h : ∀ v, Rd K v [] (Own E K v []) → SO P n Z w0 ops l ((d, v) :: ρ) (Own E K v [] :: H)) : SO P n Z w0 ops (⟨some d, .buildSlice t 0 #[], ty, p, af, none⟩ :: l) ρ H := by
  have hfr : ∀ w, Sat w H → Sat (w.alloc (.cells #[] E)) (Own E K (.slice (some ⟨w.heap.size, 0, none⟩) 0 0) [] :: H) := fun w hsat => Own.fresh (K := K) (xs := []) (E := E) (cs := #[]) hsat rfl (by simp [maxLen]) (by simp) (by simp [EK.flat])
  refine .raw hd fun r w hr hsat => ⟨.slice (some ⟨w.heap.size, 0, none⟩) 0 0, w.alloc (.cells #[] E), ρ, _, ?_, hfr w hsat, .alloc _ _, h _ ?_, fun _ h => h⟩
  · simp [execOp, Instr.buildSlice, run_underlying ht, hs, Instr.fill, newRow]
    rw [show (Array.range 0) = (#[] : Array Nat) from by decide]
    simp
  · obtain ⟨m, _, hm⟩ := (hfr w hsat).head
    exact hm.rd
theorem flat_replicate (K : EK α) (x : α) : ∀ m, K.flat (List.replicate m x) = (List.replicate m (K.enc x)).flatten
  | 0 => rfl
  | m + 1 => by
    have ih := flat_replicate K x m
    simp only [List.replicate_succ, EK.flat, List.flatMap_cons, List.flatten_cons] at *
    rw [ih]
theorem made_flat (K : EK α) (x : α) (z : Value) (hz : z.cells = (K.enc x).toArray) (m : Nat) : (madeCells z.cells (m * K.sz)).toList = K.flat (List.replicate m x) := by
  apply List.ext_getElem?
  intro q
  rcases Nat.lt_or_ge q (m * K.sz) with h | h
  · have hdm : q = (q / K.sz) * K.sz + q % K.sz := by rw [Nat.mul_comm]; exact (Nat.div_add_mod q K.sz).symm
    have hmod : q % K.sz < K.sz := Nat.mod_lt _ K.pos
    have hdl : q / K.sz < m := Nat.div_lt_of_lt_mul (by rw [Nat.mul_comm]; exact h)
    have : (K.flat (List.replicate m x))[q]? = (K.enc x)[q % K.sz]? := by
      conv => lhs; rw [hdm]
      exact EK.flat_get K _ _ x _ (by simp [hdl]) hmod
    rw [this]
    have hs : z.cells.size = K.sz := by rw [hz]; simp [K.len]
    have hlt : q % K.sz < (K.enc x).length := by rw [K.len]; exact hmod
    simp only [madeCells, Array.getElem?_toList, Array.getElem?_map, hs]
    rw [Array.getElem?_eq_getElem (by simpa using h)]
    simp [hz, hlt]
  · rw [List.getElem?_eq_none (by simpa [size_madeCells] using h), List.getElem?_eq_none (by rw [EK.length_flat]; simpa using h)]
theorem SO.makeSlice {d t ty e : Nat} {x y : Operand} {p : String} {af : Array Edge} {i : TypeInfo} {z : Value} {bytes : Nat} {zx : α} {nn : Int} {kl kc : IntKind} (hd : Nat.blt d n = true) (ht : P.underlying t = some (.slice e)) (hi : P.info? e = some i) (hz : i.zero = some z) (hsize : i.size = K.sz) (hby : i.bytes = bytes) (hbl : bytes ≤ 4096) (hzx : z.cells = (K.enc zx).toArray)
    (hx : ev ρ x = some (.int kl nn)) (hy : ev ρ y = some (.int kc nn)) (ha : mk_ zx nn = some xs)
    (h : ∀ v, Rd K v xs (Own e K v xs) → SO P n Z w0 ops l ((d, v) :: ρ) (Own e K v xs :: H)) : SO P n Z w0 ops (⟨some d, .makeSlice t x y, ty, p, af, none⟩ :: l) ρ H := by
  obtain ⟨h0, h1, rfl⟩ := mk_spec ha
  have hfr : ∀ w, Sat w H → Sat (w.alloc (.cells (madeCells z.cells (nn.toNat * i.size)) e)) (Own e K (.slice (some ⟨w.heap.size, 0, none⟩) nn.toNat nn.toNat) (List.replicate nn.toNat zx) :: H) := fun w hsat => Own.fresh (K := K) (E := e) hsat (by simp) (by simp only [maxLen]; omega) (by rw [size_madeCells, hsize]) (by rw [hsize, made_flat K zx z hzx])
  refine .raw hd fun r w hr hsat => ⟨_, _, ρ, _, ?_, hfr w hsat, .alloc _ _, h _ ?_, fun _ h => h⟩
  · have hb' : (i.bytes : Int) * nn ≤ 281474976710656 := by
      have e1 : ((i.bytes : Int)) ≤ 4096 := by rw [hby]; omega
      have : (i.bytes : Int) * nn ≤ 4096 * 4294967296 := Int.le_trans (Int.mul_le_mul_of_nonneg_right e1 h0) (Int.mul_le_mul_of_nonneg_left h1 (by decide))
      omega
    have := run_make (P := P) w t e i z ht hi hz kl kc nn nn h0 (Int.le_refl _) hb' (by omega)
    simp [execOp, hr x _ hx, hr y _ hy, this]
  · obtain ⟨m, _, hm⟩ := (hfr w hsat).head
    exact hm.rd

/-! ### Results that lie in cells -/
theorem load_box {w : World} {b o sz : Nat} {t : TypeId} {vs cs : List Value} (hs : Sat w (Box b cs :: rest)) (ha : ∀ w, (isAgg t).run P w = .ok true w) (hz : ∀ w, (sizeOf t).run P w = .ok sz w) (hv : (cs.drop o).take sz = vs) (hl : vs.length = sz) : (loadVar t ⟨b, o, none⟩).run P w = .ok (.agg vs.toArray) w := by
  obtain ⟨m, hm, hb⟩ := hs.head
  obtain ⟨E, hb⟩ := hb.blk hm
  have hc : ∀ j, j < sz → w.cell? ⟨b, o + j, none⟩ = vs[j]? := fun j hj => by
    rw [cell_of_blk hb, ← hv, List.getElem?_take_of_lt hj, List.getElem?_drop]; simp
  simp [loadVar, ha, hz, loadCells_run hl hc]
theorem S.retC {fn : Func} {t : TypeId} {s b sz : Nat} {cs vs : List Value} (hf : P.funcs[f]? = some fn) (hr : fn.results = #[.cell s t]) (hs : look ρ s = some (bp b 0)) (ha : ∀ w, (isAgg t).run P w = .ok true w) (hz : ∀ w, (sizeOf t).run P w = .ok sz w) (hv : cs.take sz = vs) (hl : vs.length = sz)
    (hR : ∀ w, Sat w (Box b cs :: rest) → Keep w0.w w → R (.returned (.agg vs.toArray)) w) (hds : w0.ds = [] := by rfl) (hro : w0.ro = none := by rfl) : S P f n R w0 (.code .ret :: k) ρ (Box b cs :: rest) := by
  intro a w h1 h2 h3 h4 h5
  rw [hro]
  refine .ret hf (h3.trans hds) ?_ (hR w h4 h5)
  have := load_box (P := P) (o := 0) h4 ha hz (by simpa using hv) hl
  simp [results, hr, h2 s _ hs, bp, asAddr, this]
theorem S.retC1 {fn : Func} {t : TypeId} {s u b sz : Nat} {cs vs : List Value} {x : Value} (hf : P.funcs[f]? = some fn) (hr : fn.results = #[.cell s t, .tmp u]) (hs : look ρ s = some (bp b 0)) (hx : look ρ u = some x) (ha : ∀ w, (isAgg t).run P w = .ok true w) (hz : ∀ w, (sizeOf t).run P w = .ok sz w) (hv : cs.take sz = vs) (hl : vs.length = sz)
    (hR : ∀ w, Sat w (Box b cs :: rest) → Keep w0.w w → R (.returned (.tuple #[.agg vs.toArray, x])) w) (hds : w0.ds = [] := by rfl) (hro : w0.ro = none := by rfl) : S P f n R w0 (.code .ret :: k) ρ (Box b cs :: rest) := by
  intro a w h1 h2 h3 h4 h5
  rw [hro]
  refine .ret hf (h3.trans hds) ?_ (hR w h4 h5)
  have := load_box (P := P) (o := 0) h4 ha hz (by simpa using hv) hl
  simp [results, hr, h2 s _ hs, h2 u _ hx, bp, asAddr, this]
theorem S.retC2 {fn : Func} {t : TypeId} {s u q b sz : Nat} {cs vs : List Value} {x y : Value} (hf : P.funcs[f]? = some fn) (hr : fn.results = #[.cell s t, .tmp u, .tmp q]) (hs : look ρ s = some (bp b 0)) (hx : look ρ u = some x) (hy : look ρ q = some y) (ha : ∀ w, (isAgg t).run P w = .ok true w) (hz : ∀ w, (sizeOf t).run P w = .ok sz w) (hv : cs.take sz = vs) (hl : vs.length = sz)
    (hR : ∀ w, Sat w (Box b cs :: rest) → Keep w0.w w → R (.returned (.tuple #[.agg vs.toArray, x, y])) w) (hds : w0.ds = [] := by rfl) (hro : w0.ro = none := by rfl) : S P f n R w0 (.code .ret :: k) ρ (Box b cs :: rest) := by
  intro a w h1 h2 h3 h4 h5
  rw [hro]
  refine .ret hf (h3.trans hds) ?_ (hR w h4 h5)
  have := load_box (P := P) (o := 0) h4 ha hz (by simpa using hv) hl
  simp [results, hr, h2 s _ hs, h2 u _ hx, h2 q _ hy, bp, asAddr, this]
end
end Go.Sl
namespace Go.Sl
open Go.RowKit
/-! ### Functions of a view -/
/-- What is done with a view: words read, words written; an answer; or it dies. -/
inductive VM (α : Type) where
  | ret (a : α)
  | fail
  | rd (i : Int) (k : Int → VM α)
  | wr (i v : Int) (k : VM α)
namespace VM
variable {α β : Type}
def bind : VM α → (α → VM β) → VM β
  | .ret a, g => g a
  | .fail, _ => .fail
  | .rd i k, g => .rd i fun x => (k x).bind g
  | .wr i v k, g => .wr i v (k.bind g)
def opt : Option α → VM α
  | some a => .ret a
  | none => .fail
def read (i : Int) : VM Int := .rd i .ret
def write (i v : Int) : VM Unit := .wr i v (.ret ())
end VM
/-- A kind of view: its states, what a read tells, what a write leaves. -/
structure VI where
  S : Type
  rd : S → Int → Int × S
  wr : S → Int → Int → S
namespace VM
variable {α β : Type} (V : VI)
def run : VM α → V.S → Option (α × V.S)
  | .ret a, s => some (a, s)
  | .fail, _ => none
  | .rd i k, s => (k (V.rd s i).1).run (V.rd s i).2
  | .wr i v k, s => k.run (V.wr s i v)
theorem run_bind (x : VM α) (g : α → VM β) (s : V.S) : (x.bind g).run V s = (x.run V s).bind fun p => (g p.1).run V p.2 := by
  induction x generalizing s with
  | ret a => rfl
  | fail => rfl
  | rd i k ih => simp only [bind, run, ih]
  | wr i v k ih => simp only [bind, run, ih]
theorem bind_some {x : VM α} {g : α → VM β} {s : V.S} {r : β × V.S} (h : (x.bind g).run V s = some r) : ∃ t s1, x.run V s = some (t, s1) ∧ (g t).run V s1 = some r := by
  rw [run_bind] at h
  obtain ⟨⟨t, s1⟩, h1, h2⟩ := opt_bind h
  exact ⟨t, s1, h1, h2⟩
theorem opt_some {x : Option α} {g : α → VM β} {s : V.S} {r : β × V.S} (h : ((opt x).bind g).run V s = some r) : ∃ t, x = some t ∧ (g t).run V s = some r := by
  cases x with
  | none => cases h
  | some t => exact ⟨t, rfl, h⟩
theorem ret_some {a b : α} {s s' : V.S} (h : (VM.ret a).run V s = some (b, s')) : a = b ∧ s = s' := by
  injection h with h; injection h with h1 h2; exact ⟨h1, h2⟩
theorem optt_some {x : Option α} {s : V.S} {b : α} {s' : V.S} (h : (opt x).run V s = some (b, s')) : x = some b ∧ s = s' := by
  cases x with
  | none => cases h
  | some t => injection h with h; injection h with h1 h2; subst h1; exact ⟨rfl, h2⟩
theorem cond_t {c : Bool} {a b : VM α} {s : V.S} {r : Option (α × V.S)} (h : c = true) (e : (bif c then a else b).run V s = r) : a.run V s = r := by subst h; exact e
theorem cond_f {c : Bool} {a b : VM α} {s : V.S} {r : Option (α × V.S)} (h : c = false) (e : (bif c then a else b).run V s = r) : b.run V s = r := by subst h; exact e
end VM
/-- A view, as it lies in memory. -/
structure VW (P : Program) extends VI where
  t : TypeId
  v : Value
  rep : S → HProp
  rF : FuncId
  rV : Value
  wF : FuncId
  wV : Value
  rM : ∀ w, (method (P.types.size + Made.depth) t v "Read").run P w = .ok (rF, rV) w
  wM : ∀ w, (method (P.types.size + Made.depth) t v "Write").run P w = .ok (wF, wV) w
  rN : ∀ w, (nilAhead (P.types.size + Made.depth) t v "Read").run P w = .ok (some false) w
  wN : ∀ w, (nilAhead (P.types.size + Made.depth) t v "Write").run P w = .ok (some false) w
  rC : ∀ (avs : Array Value) (w : World), (callFunc rF avs).run P w = .ok (.enter rF avs) w
  wC : ∀ (avs : Array Value) (w : World), (callFunc wF avs).run P w = .ok (.enter wF avs) w
  rCt : ∀ (s : S) (i : Int), Ct P rF [rV, .int .i64 i] (fun _ => True) [rep s] (fun u H' => u = .int .u64 (rd s i).1 ∧ H' = [rep (rd s i).2])
  wCt : ∀ (s : S) (i x : Int), Ct P wF [wV, .int .i64 i, .int .u64 x] (fun _ => True) [rep s] (fun u H' => u = .tuple #[] ∧ H' = [rep (wr s i x)])
/-- The value of type interface. -/
def VW.val {P : Program} (V : VW P) : Value := .iface V.t V.v
section
variable {P : Program} {f : FuncId} {n : Nat} {Z : Act → World → Prop} {R : Ending → World → Prop} {w0 : Beg} {k : List Item} {ρ ρ' : Env} {rest : List HProp} {ops : Array Oper} {l : List Oper}
theorem opv_nilCheckR (V : VW P) {x : Operand} (hx : ev ρ x = some (.func (.method "Read") #[V.val] #[])) : OpV P ρ (.nilCheck x) (.func (.method "Read") #[V.val] #[]) :=
  fun r w d t p af g hr => by simp [execOp, hr x _ hx, VW.val, run_program, V.rN]
theorem opv_nilCheckW (V : VW P) {x : Operand} (hx : ev ρ x = some (.func (.method "Write") #[V.val] #[])) : OpV P ρ (.nilCheck x) (.func (.method "Write") #[V.val] #[]) :=
  fun r w d t p af g hr => by simp [execOp, hr x _ hx, VW.val, run_program, V.wN]
theorem SO.vread (V : VW P) {d : Nat} {t : TypeId} {p : String} {af : Array Edge} {x y : Operand} {tys : Array TypeId} {s : V.S} {i : Int} (hd : Nat.blt d n = true) (hx : ev ρ x = some V.val) (hy : ev ρ y = some (.int .i64 i))
    (h : SO P n Z w0 ops l ((d, .int .u64 (V.rd s i).1) :: ρ) (V.rep (V.rd s i).2 :: rest)) :
    SO P n Z w0 ops (⟨some d, .call ⟨.invoke x "Read", #[y], tys⟩, t, p, af, none⟩ :: l) ρ (V.rep s :: rest) :=
  SO.invoke (pre := [V.rep s]) (vs := [.int .i64 i]) hd V.rC hx V.rM (by simp [evs, hy]) rfl (V.rCt s i) trivial (by rintro v H' ⟨rfl, rfl⟩; exact h)
theorem SO.vwrite0 (V : VW P) {t : TypeId} {p : String} {af : Array Edge} {x y z : Operand} {tys : Array TypeId} {s : V.S} {i u : Int} (hx : ev ρ x = some V.val) (hy : ev ρ y = some (.int .i64 i)) (hz : ev ρ z = some (.int .u64 u))
    (h : SO P n Z w0 ops l ρ (V.rep (V.wr s i u) :: rest)) :
    SO P n Z w0 ops (⟨none, .call ⟨.invoke x "Write", #[y, z], tys⟩, t, p, af, none⟩ :: l) ρ (V.rep s :: rest) :=
  SO.enter0 (pre := [V.rep s]) (vals := [V.wV, .int .i64 i, .int .u64 u]) (fun _ _ hr => invoke_run (vs := [.int .i64 i, .int .u64 u]) V.wC hx V.wM (by simp [evs, hy, hz]) rfl hr) (V.wCt s i u) trivial (by rintro v H' ⟨rfl, rfl⟩; exact h)
theorem SO.vwrite (V : VW P) {d : Nat} {t : TypeId} {p : String} {af : Array Edge} {x y z : Operand} {tys : Array TypeId} {s : V.S} {i u : Int} (hd : Nat.blt d n = true) (hx : ev ρ x = some V.val) (hy : ev ρ y = some (.int .i64 i)) (hz : ev ρ z = some (.int .u64 u))
    (h : SO P n Z w0 ops l ((d, .tuple #[]) :: ρ) (V.rep (V.wr s i u) :: rest)) :
    SO P n Z w0 ops (⟨some d, .call ⟨.invoke x "Write", #[y, z], tys⟩, t, p, af, none⟩ :: l) ρ (V.rep s :: rest) :=
  SO.invoke (pre := [V.rep s]) (vs := [.int .i64 i, .int .u64 u]) hd V.wC hx V.wM (by simp [evs, hy, hz]) rfl (V.wCt s i u) trivial (by rintro v H' ⟨rfl, rfl⟩; exact h)
end
end Go.Sl
namespace Go.Sl
open Go.RowKit
abbrev w64 (x : Int) : Int := IntKind.wrap .i64 x
abbrev wu64 (x : Int) : Int := IntKind.wrap .u64 x
abbrev wu32 (x : Int) : Int := IntKind.wrap .u32 x
abbrev w32 (x : Int) : Int := IntKind.wrap .i32 x
abbrev wu8 (x : Int) : Int := IntKind.wrap .u8 x
def chk (c : Bool) : Option Unit := bif c then some () else none
theorem chk_some {c : Bool} {u : Unit} (h : chk c = some u) : c = true := by cases c with | false => cases h | true => rfl
section
variable {P : Program} {f : FuncId} {n : Nat} {Z : Act → World → Prop} {R : Ending → World → Prop} {w0 : Beg} {k : List Item} {ρ ρ' : Env} {H H' rest l : List HProp} {ops : Array Oper} {os : List Oper}
theorem SO.drop {A : HProp} (h : SO P n Z w0 ops os ρ rest) : SO P n Z w0 ops os ρ (A :: rest) := h.sat fun _ s => s.drop
theorem S.drop {A : HProp} (h : S P f n R w0 k ρ rest) : S P f n R w0 k ρ (A :: rest) := h.sat fun _ s => s.drop
theorem S.newOwn {α : Type} (E : TypeId) (K : EK α) (h : S P f n R w0 k ρ (Own E K (.slice none 0 0) ([] : List α) :: H)) : S P f n R w0 k ρ H :=
  h.sat fun w s => show stars (Own E K (.slice none 0 0) ([] : List α) :: H) (hp w) from ⟨fun _ => none, hp w, fun _ => .inl rfl, fun _ _ e => by simp at e, .refl _, Own.nil E K _, s⟩
theorem opv_pick_t' {c a b : Operand} {z : Bool} {v : Value} (hz : z = true) (hc : ev ρ c = some (.bool z)) (ha : ev ρ a = some v) : OpV P ρ (.pick c a b) v := by subst hz; exact opv_pick_tt hc ha
theorem opv_pick_f' {c a b : Operand} {z : Bool} {v : Value} (hz : z = false) (hc : ev ρ c = some (.bool z)) (hb : ev ρ b = some v) : OpV P ρ (.pick c a b) v := by subst hz; exact opv_pick_ff hc hb
/-- No slot of the one is among the other's. -/
def apart : Env → Env → Bool
  | [], _ => true
  | (t, _) :: l, m => (match look m t with | none => true | some _ => false) && apart l m
theorem look_append : ∀ (J m : Env) (t : Nat), look (J ++ m) t = match look J t with | some v => some v | none => look m t
  | [], _, _ => rfl
  | (a, u) :: J, m, t => by
    simp only [List.cons_append, look]
    cases Nat.beq a t with
    | true => rfl
    | false => exact look_append J m t
theorem apart_spec : ∀ {J m : Env} {t : Nat} {v : Value}, apart J m = true → look J t = some v → look m t = none
  | [], _, _, _, _, h => by simp [look] at h
  | (a, u) :: J, m, t, v, hd, h => by
    simp only [apart, Bool.and_eq_true] at hd
    simp only [look] at h
    cases hb : Nat.beq a t with
    | true =>
      have : a = t := Nat.eq_of_beq_eq_true hb
      subst this
      have h1 := hd.1
      cases hl : look m a with
      | none => rfl
      | some x => simp [hl] at h1
    | false => simp only [hb, cond_false] at h; exact apart_spec hd.2 h
theorem SO.fitc {d m : Nat} {v : Value} {ρ0 ρ1 : Env} (hk : SO P n Z w0 ops os ((d, v) :: ρ0) H) (hρ : ρ1.drop m = ρ0) (hv : look ρ1 d = some v) (ha : apart (ρ1.take m) ρ0 = true) : SO P n Z w0 ops os ρ1 H := by
  intro a w h1 h2 h3 h4 h5
  refine hk a w h1 (fun t u hu => ?_) h3 h4 h5
  simp only [look] at hu
  cases hb : Nat.beq d t with
  | true =>
    have : d = t := Nat.eq_of_beq_eq_true hb
    subst this
    simp only [hb, cond_true] at hu
    exact h2 d u (by rw [hv, hu])
  | false =>
    simp only [hb, cond_false] at hu
    refine h2 t u ?_
    rw [← List.take_append_drop m ρ1, look_append, hρ]
    cases hl : look (ρ1.take m) t with
    | none => exact hu
    | some x => rw [apart_spec ha hl] at hu; cases hu
theorem perm1 {A0 X : HProp} {l : List HProp} : (A0 :: X :: l).Perm (X :: A0 :: l) := List.perm_middle (l₁ := [A0])
theorem SO.b1 {A0 X : HProp} (h : SO P n Z w0 ops os ρ (X :: A0 :: l)) : SO P n Z w0 ops os ρ (A0 :: X :: l) := .bring perm1 h
theorem S.b1 {A0 X : HProp} (h : S P f n R w0 k ρ (X :: A0 :: l)) : S P f n R w0 k ρ (A0 :: X :: l) := .bring perm1 h
theorem perm2 {A0 A1 X : HProp} {l : List HProp} : (A0 :: A1 :: X :: l).Perm (X :: A0 :: A1 :: l) := List.perm_middle (l₁ := [A0, A1])
theorem SO.b2 {A0 A1 X : HProp} (h : SO P n Z w0 ops os ρ (X :: A0 :: A1 :: l)) : SO P n Z w0 ops os ρ (A0 :: A1 :: X :: l) := .bring perm2 h
theorem S.b2 {A0 A1 X : HProp} (h : S P f n R w0 k ρ (X :: A0 :: A1 :: l)) : S P f n R w0 k ρ (A0 :: A1 :: X :: l) := .bring perm2 h
theorem perm3 {A0 A1 A2 X : HProp} {l : List HProp} : (A0 :: A1 :: A2 :: X :: l).Perm (X :: A0 :: A1 :: A2 :: l) := List.perm_middle (l₁ := [A0, A1, A2])
theorem SO.b3 {A0 A1 A2 X : HProp} (h : SO P n Z w0 ops os ρ (X :: A0 :: A1 :: A2 :: l)) : SO P n Z w0 ops os ρ (A0 :: A1 :: A2 :: X :: l) := .bring perm3 h
theorem S.b3 {A0 A1 A2 X : HProp} (h : S P f n R w0 k ρ (X :: A0 :: A1 :: A2 :: l)) : S P f n R w0 k ρ (A0 :: A1 :: A2 :: X :: l) := .bring perm3 h
theorem perm4 {A0 A1 A2 A3 X : HProp} {l : List HProp} : (A0 :: A1 :: A2 :: A3 :: X :: l).Perm (X :: A0 :: A1 :: A2 :: A3 :: l) := List.perm_middle (l₁ := [A0, A1, A2, A3])
theorem SO.b4 {A0 A1 A2 A3 X : HProp} (h : SO P n Z w0 ops os ρ (X :: A0 :: A1 :: A2 :: A3 :: l)) : SO P n Z w0 ops os ρ (A0 :: A1 :: A2 :: A3 :: X :: l) := .bring perm4 h
theorem S.b4 {A0 A1 A2 A3 X : HProp} (h : S P f n R w0 k ρ (X :: A0 :: A1 :: A2 :: A3 :: l)) : S P f n R w0 k ρ (A0 :: A1 :: A2 :: A3 :: X :: l) := .bring perm4 h
theorem perm5 {A0 A1 A2 A3 A4 X : HProp} {l : List HProp} : (A0 :: A1 :: A2 :: A3 :: A4 :: X :: l).Perm (X :: A0 :: A1 :: A2 :: A3 :: A4 :: l) := List.perm_middle (l₁ := [A0, A1, A2, A3, A4])
theorem SO.b5 {A0 A1 A2 A3 A4 X : HProp} (h : SO P n Z w0 ops os ρ (X :: A0 :: A1 :: A2 :: A3 :: A4 :: l)) : SO P n Z w0 ops os ρ (A0 :: A1 :: A2 :: A3 :: A4 :: X :: l) := .bring perm5 h
theorem S.b5 {A0 A1 A2 A3 A4 X : HProp} (h : S P f n R w0 k ρ (X :: A0 :: A1 :: A2 :: A3 :: A4 :: l)) : S P f n R w0 k ρ (A0 :: A1 :: A2 :: A3 :: A4 :: X :: l) := .bring perm5 h
theorem perm6 {A0 A1 A2 A3 A4 A5 X : HProp} {l : List HProp} : (A0 :: A1 :: A2 :: A3 :: A4 :: A5 :: X :: l).Perm (X :: A0 :: A1 :: A2 :: A3 :: A4 :: A5 :: l) := List.perm_middle (l₁ := [A0, A1, A2, A3, A4, A5])
theorem SO.b6 {A0 A1 A2 A3 A4 A5 X : HProp} (h : SO P n Z w0 ops os ρ (X :: A0 :: A1 :: A2 :: A3 :: A4 :: A5 :: l)) : SO P n Z w0 ops os ρ (A0 :: A1 :: A2 :: A3 :: A4 :: A5 :: X :: l) := .bring perm6 h
theorem S.b6 {A0 A1 A2 A3 A4 A5 X : HProp} (h : S P f n R w0 k ρ (X :: A0 :: A1 :: A2 :: A3 :: A4 :: A5 :: l)) : S P f n R w0 k ρ (A0 :: A1 :: A2 :: A3 :: A4 :: A5 :: X :: l) := .bring perm6 h
theorem perm7 {A0 A1 A2 A3 A4 A5 A6 X : HProp} {l : List HProp} : (A0 :: A1 :: A2 :: A3 :: A4 :: A5 :: A6 :: X :: l).Perm (X :: A0 :: A1 :: A2 :: A3 :: A4 :: A5 :: A6 :: l) := List.perm_middle (l₁ := [A0, A1, A2, A3, A4, A5, A6])
theorem SO.b7 {A0 A1 A2 A3 A4 A5 A6 X : HProp} (h : SO P n Z w0 ops os ρ (X :: A0 :: A1 :: A2 :: A3 :: A4 :: A5 :: A6 :: l)) : SO P n Z w0 ops os ρ (A0 :: A1 :: A2 :: A3 :: A4 :: A5 :: A6 :: X :: l) := .bring perm7 h
theorem S.b7 {A0 A1 A2 A3 A4 A5 A6 X : HProp} (h : S P f n R w0 k ρ (X :: A0 :: A1 :: A2 :: A3 :: A4 :: A5 :: A6 :: l)) : S P f n R w0 k ρ (A0 :: A1 :: A2 :: A3 :: A4 :: A5 :: A6 :: X :: l) := .bring perm7 h
theorem perm8 {A0 A1 A2 A3 A4 A5 A6 A7 X : HProp} {l : List HProp} : (A0 :: A1 :: A2 :: A3 :: A4 :: A5 :: A6 :: A7 :: X :: l).Perm (X :: A0 :: A1 :: A2 :: A3 :: A4 :: A5 :: A6 :: A7 :: l) := List.perm_middle (l₁ := [A0, A1, A2, A3, A4, A5, A6, A7])
theorem SO.b8 {A0 A1 A2 A3 A4 A5 A6 A7 X : HProp} (h : SO P n Z w0 ops os ρ (X :: A0 :: A1 :: A2 :: A3 :: A4 :: A5 :: A6 :: A7 :: l)) : SO P n Z w0 ops os ρ (A0 :: A1 :: A2 :: A3 :: A4 :: A5 :: A6 :: A7 :: X :: l) := .bring perm8 h
theorem S.b8 {A0 A1 A2 A3 A4 A5 A6 A7 X : HProp} (h : S P f n R w0 k ρ (X :: A0 :: A1 :: A2 :: A3 :: A4 :: A5 :: A6 :: A7 :: l)) : S P f n R w0 k ρ (A0 :: A1 :: A2 :: A3 :: A4 :: A5 :: A6 :: A7 :: X :: l) := .bring perm8 h
theorem perm9 {A0 A1 A2 A3 A4 A5 A6 A7 A8 X : HProp} {l : List HProp} : (A0 :: A1 :: A2 :: A3 :: A4 :: A5 :: A6 :: A7 :: A8 :: X :: l).Perm (X :: A0 :: A1 :: A2 :: A3 :: A4 :: A5 :: A6 :: A7 :: A8 :: l) := List.perm_middle (l₁ := [A0, A1, A2, A3, A4, A5, A6, A7, A8])
theorem SO.b9 {A0 A1 A2 A3 A4 A5 A6 A7 A8 X : HProp} (h : SO P n Z w0 ops os ρ (X :: A0 :: A1 :: A2 :: A3 :: A4 :: A5 :: A6 :: A7 :: A8 :: l)) : SO P n Z w0 ops os ρ (A0 :: A1 :: A2 :: A3 :: A4 :: A5 :: A6 :: A7 :: A8 :: X :: l) := .bring perm9 h
theorem S.b9 {A0 A1 A2 A3 A4 A5 A6 A7 A8 X : HProp} (h : S P f n R w0 k ρ (X :: A0 :: A1 :: A2 :: A3 :: A4 :: A5 :: A6 :: A7 :: A8 :: l)) : S P f n R w0 k ρ (A0 :: A1 :: A2 :: A3 :: A4 :: A5 :: A6 :: A7 :: A8 :: X :: l) := .bring perm9 h
theorem perm10 {A0 A1 A2 A3 A4 A5 A6 A7 A8 A9 X : HProp} {l : List HProp} : (A0 :: A1 :: A2 :: A3 :: A4 :: A5 :: A6 :: A7 :: A8 :: A9 :: X :: l).Perm (X :: A0 :: A1 :: A2 :: A3 :: A4 :: A5 :: A6 :: A7 :: A8 :: A9 :: l) := List.perm_middle (l₁ := [A0, A1, A2, A3, A4, A5, A6, A7, A8, A9])
theorem SO.b10 {A0 A1 A2 A3 A4 A5 A6 A7 A8 A9 X : HProp} (h : SO P n Z w0 ops os ρ (X :: A0 :: A1 :: A2 :: A3 :: A4 :: A5 :: A6 :: A7 :: A8 :: A9 :: l)) : SO P n Z w0 ops os ρ (A0 :: A1 :: A2 :: A3 :: A4 :: A5 :: A6 :: A7 :: A8 :: A9 :: X :: l) := .bring perm10 h
theorem S.b10 {A0 A1 A2 A3 A4 A5 A6 A7 A8 A9 X : HProp} (h : S P f n R w0 k ρ (X :: A0 :: A1 :: A2 :: A3 :: A4 :: A5 :: A6 :: A7 :: A8 :: A9 :: l)) : S P f n R w0 k ρ (A0 :: A1 :: A2 :: A3 :: A4 :: A5 :: A6 :: A7 :: A8 :: A9 :: X :: l) := .bring perm10 h
theorem perm11 {A0 A1 A2 A3 A4 A5 A6 A7 A8 A9 A10 X : HProp} {l : List HProp} : (A0 :: A1 :: A2 :: A3 :: A4 :: A5 :: A6 :: A7 :: A8 :: A9 :: A10 :: X :: l).Perm (X :: A0 :: A1 :: A2 :: A3 :: A4 :: A5 :: A6 :: A7 :: A8 :: A9 :: A10 :: l) := List.perm_middle (l₁ := [A0, A1, A2, A3, A4, A5, A6, A7, A8, A9, A10])
theorem SO.b11 {A0 A1 A2 A3 A4 A5 A6 A7 A8 A9 A10 X : HProp} (h : SO P n Z w0 ops os ρ (X :: A0 :: A1 :: A2 :: A3 :: A4 :: A5 :: A6 :: A7 :: A8 :: A9 :: A10 :: l)) : SO P n Z w0 ops os ρ (A0 :: A1 :: A2 :: A3 :: A4 :: A5 :: A6 :: A7 :: A8 :: A9 :: A10 :: X :: l) := .bring perm11 h
theorem S.b11 {A0 A1 A2 A3 A4 A5 A6 A7 A8 A9 A10 X : HProp} (h : S P f n R w0 k ρ (X :: A0 :: A1 :: A2 :: A3 :: A4 :: A5 :: A6 :: A7 :: A8 :: A9 :: A10 :: l)) : S P f n R w0 k ρ (A0 :: A1 :: A2 :: A3 :: A4 :: A5 :: A6 :: A7 :: A8 :: A9 :: A10 :: X :: l) := .bring perm11 h
theorem perm12 {A0 A1 A2 A3 A4 A5 A6 A7 A8 A9 A10 A11 X : HProp} {l : List HProp} : (A0 :: A1 :: A2 :: A3 :: A4 :: A5 :: A6 :: A7 :: A8 :: A9 :: A10 :: A11 :: X :: l).Perm (X :: A0 :: A1 :: A2 :: A3 :: A4 :: A5 :: A6 :: A7 :: A8 :: A9 :: A10 :: A11 :: l) := List.perm_middle (l₁ := [A0, A1, A2, A3, A4, A5, A6, A7, A8, A9, A10, A11])
theorem SO.b12 {A0 A1 A2 A3 A4 A5 A6 A7 A8 A9 A10 A11 X : HProp} (h : SO P n Z w0 ops os ρ (X :: A0 :: A1 :: A2 :: A3 :: A4 :: A5 :: A6 :: A7 :: A8 :: A9 :: A10 :: A11 :: l)) : SO P n Z w0 ops os ρ (A0 :: A1 :: A2 :: A3 :: A4 :: A5 :: A6 :: A7 :: A8 :: A9 :: A10 :: A11 :: X :: l) := .bring perm12 h
theorem S.b12 {A0 A1 A2 A3 A4 A5 A6 A7 A8 A9 A10 A11 X : HProp} (h : S P f n R w0 k ρ (X :: A0 :: A1 :: A2 :: A3 :: A4 :: A5 :: A6 :: A7 :: A8 :: A9 :: A10 :: A11 :: l)) : S P f n R w0 k ρ (A0 :: A1 :: A2 :: A3 :: A4 :: A5 :: A6 :: A7 :: A8 :: A9 :: A10 :: A11 :: X :: l) := .bring perm12 h
theorem perm13 {A0 A1 A2 A3 A4 A5 A6 A7 A8 A9 A10 A11 A12 X : HProp} {l : List HProp} : (A0 :: A1 :: A2 :: A3 :: A4 :: A5 :: A6 :: A7 :: A8 :: A9 :: A10 :: A11 :: A12 :: X :: l).Perm (X :: A0 :: A1 :: A2 :: A3 :: A4 :: A5 :: A6 :: A7 :: A8 :: A9 :: A10 :: A11 :: A12 :: l) := List.perm_middle (l₁ := [A0, A1, A2, A3, A4, A5, A6, A7, A8, A9, A10, A11, A12])
theorem SO.b13 {A0 A1 A2 A3 A4 A5 A6 A7 A8 A9 A10 A11 A12 X : HProp} (h : SO P n Z w0 ops os ρ (X :: A0 :: A1 :: A2 :: A3 :: A4 :: A5 :: A6 :: A7 :: A8 :: A9 :: A10 :: A11 :: A12 :: l)) : SO P n Z w0 ops os ρ (A0 :: A1 :: A2 :: A3 :: A4 :: A5 :: A6 :: A7 :: A8 :: A9 :: A10 :: A11 :: A12 :: X :: l) := .bring perm13 h
theorem S.b13 {A0 A1 A2 A3 A4 A5 A6 A7 A8 A9 A10 A11 A12 X : HProp} (h : S P f n R w0 k ρ (X :: A0 :: A1 :: A2 :: A3 :: A4 :: A5 :: A6 :: A7 :: A8 :: A9 :: A10 :: A11 :: A12 :: l)) : S P f n R w0 k ρ (A0 :: A1 :: A2 :: A3 :: A4 :: A5 :: A6 :: A7 :: A8 :: A9 :: A10 :: A11 :: A12 :: X :: l) := .bring perm13 h
theorem perm14 {A0 A1 A2 A3 A4 A5 A6 A7 A8 A9 A10 A11 A12 A13 X : HProp} {l : List HProp} : (A0 :: A1 :: A2 :: A3 :: A4 :: A5 :: A6 :: A7 :: A8 :: A9 :: A10 :: A11 :: A12 :: A13 :: X :: l).Perm (X :: A0 :: A1 :: A2 :: A3 :: A4 :: A5 :: A6 :: A7 :: A8 :: A9 :: A10 :: A11 :: A12 :: A13 :: l) := List.perm_middle (l₁ := [A0, A1, A2, A3, A4, A5, A6, A7, A8, A9, A10, A11, A12, A13])
theorem SO.b14 {A0 A1 A2 A3 A4 A5 A6 A7 A8 A9 A10 A11 A12 A13 X : HProp} (h : SO P n Z w0 ops os ρ (X :: A0 :: A1 :: A2 :: A3 :: A4 :: A5 :: A6 :: A7 :: A8 :: A9 :: A10 :: A11 :: A12 :: A13 :: l)) : SO P n Z w0 ops os ρ (A0 :: A1 :: A2 :: A3 :: A4 :: A5 :: A6 :: A7 :: A8 :: A9 :: A10 :: A11 :: A12 :: A13 :: X :: l) := .bring perm14 h
theorem S.b14 {A0 A1 A2 A3 A4 A5 A6 A7 A8 A9 A10 A11 A12 A13 X : HProp} (h : S P f n R w0 k ρ (X :: A0 :: A1 :: A2 :: A3 :: A4 :: A5 :: A6 :: A7 :: A8 :: A9 :: A10 :: A11 :: A12 :: A13 :: l)) : S P f n R w0 k ρ (A0 :: A1 :: A2 :: A3 :: A4 :: A5 :: A6 :: A7 :: A8 :: A9 :: A10 :: A11 :: A12 :: A13 :: X :: l) := .bring perm14 h
theorem perm15 {A0 A1 A2 A3 A4 A5 A6 A7 A8 A9 A10 A11 A12 A13 A14 X : HProp} {l : List HProp} : (A0 :: A1 :: A2 :: A3 :: A4 :: A5 :: A6 :: A7 :: A8 :: A9 :: A10 :: A11 :: A12 :: A13 :: A14 :: X :: l).Perm (X :: A0 :: A1 :: A2 :: A3 :: A4 :: A5 :: A6 :: A7 :: A8 :: A9 :: A10 :: A11 :: A12 :: A13 :: A14 :: l) := List.perm_middle (l₁ := [A0, A1, A2, A3, A4, A5, A6, A7, A8, A9, A10, A11, A12, A13, A14])
theorem SO.b15 {A0 A1 A2 A3 A4 A5 A6 A7 A8 A9 A10 A11 A12 A13 A14 X : HProp} (h : SO P n Z w0 ops os ρ (X :: A0 :: A1 :: A2 :: A3 :: A4 :: A5 :: A6 :: A7 :: A8 :: A9 :: A10 :: A11 :: A12 :: A13 :: A14 :: l)) : SO P n Z w0 ops os ρ (A0 :: A1 :: A2 :: A3 :: A4 :: A5 :: A6 :: A7 :: A8 :: A9 :: A10 :: A11 :: A12 :: A13 :: A14 :: X :: l) := .bring perm15 h
theorem S.b15 {A0 A1 A2 A3 A4 A5 A6 A7 A8 A9 A10 A11 A12 A13 A14 X : HProp} (h : S P f n R w0 k ρ (X :: A0 :: A1 :: A2 :: A3 :: A4 :: A5 :: A6 :: A7 :: A8 :: A9 :: A10 :: A11 :: A12 :: A13 :: A14 :: l)) : S P f n R w0 k ρ (A0 :: A1 :: A2 :: A3 :: A4 :: A5 :: A6 :: A7 :: A8 :: A9 :: A10 :: A11 :: A12 :: A13 :: A14 :: X :: l) := .bring perm15 h
theorem perm16 {A0 A1 A2 A3 A4 A5 A6 A7 A8 A9 A10 A11 A12 A13 A14 A15 X : HProp} {l : List HProp} : (A0 :: A1 :: A2 :: A3 :: A4 :: A5 :: A6 :: A7 :: A8 :: A9 :: A10 :: A11 :: A12 :: A13 :: A14 :: A15 :: X :: l).Perm (X :: A0 :: A1 :: A2 :: A3 :: A4 :: A5 :: A6 :: A7 :: A8 :: A9 :: A10 :: A11 :: A12 :: A13 :: A14 :: A15 :: l) := List.perm_middle (l₁ := [A0, A1, A2, A3, A4, A5, A6, A7, A8, A9, A10, A11, A12, A13, A14, A15])
theorem SO.b16 {A0 A1 A2 A3 A4 A5 A6 A7 A8 A9 A10 A11 A12 A13 A14 A15 X : HProp} (h : SO P n Z w0 ops os ρ (X :: A0 :: A1 :: A2 :: A3 :: A4 :: A5 :: A6 :: A7 :: A8 :: A9 :: A10 :: A11 :: A12 :: A13 :: A14 :: A15 :: l)) : SO P n Z w0 ops os ρ (A0 :: A1 :: A2 :: A3 :: A4 :: A5 :: A6 :: A7 :: A8 :: A9 :: A10 :: A11 :: A12 :: A13 :: A14 :: A15 :: X :: l) := .bring perm16 h
theorem S.b16 {A0 A1 A2 A3 A4 A5 A6 A7 A8 A9 A10 A11 A12 A13 A14 A15 X : HProp} (h : S P f n R w0 k ρ (X :: A0 :: A1 :: A2 :: A3 :: A4 :: A5 :: A6 :: A7 :: A8 :: A9 :: A10 :: A11 :: A12 :: A13 :: A14 :: A15 :: l)) : S P f n R w0 k ρ (A0 :: A1 :: A2 :: A3 :: A4 :: A5 :: A6 :: A7 :: A8 :: A9 :: A10 :: A11 :: A12 :: A13 :: A14 :: A15 :: X :: l) := .bring perm16 h
theorem perm17 {A0 A1 A2 A3 A4 A5 A6 A7 A8 A9 A10 A11 A12 A13 A14 A15 A16 X : HProp} {l : List HProp} : (A0 :: A1 :: A2 :: A3 :: A4 :: A5 :: A6 :: A7 :: A8 :: A9 :: A10 :: A11 :: A12 :: A13 :: A14 :: A15 :: A16 :: X :: l).Perm (X :: A0 :: A1 :: A2 :: A3 :: A4 :: A5 :: A6 :: A7 :: A8 :: A9 :: A10 :: A11 :: A12 :: A13 :: A14 :: A15 :: A16 :: l) := List.perm_middle (l₁ := [A0, A1, A2, A3, A4, A5, A6, A7, A8, A9, A10, A11, A12, A13, A14, A15, A16])
theorem SO.b17 {A0 A1 A2 A3 A4 A5 A6 A7 A8 A9 A10 A11 A12 A13 A14 A15 A16 X : HProp} (h : SO P n Z w0 ops os ρ (X :: A0 :: A1 :: A2 :: A3 :: A4 :: A5 :: A6 :: A7 :: A8 :: A9 :: A10 :: A11 :: A12 :: A13 :: A14 :: A15 :: A16 :: l)) : SO P n Z w0 ops os ρ (A0 :: A1 :: A2 :: A3 :: A4 :: A5 :: A6 :: A7 :: A8 :: A9 :: A10 :: A11 :: A12 :: A13 :: A14 :: A15 :: A16 :: X :: l) := .bring perm17 h
theorem S.b17 {A0 A1 A2 A3 A4 A5 A6 A7 A8 A9 A10 A11 A12 A13 A14 A15 A16 X : HProp} (h : S P f n R w0 k ρ (X :: A0 :: A1 :: A2 :: A3 :: A4 :: A5 :: A6 :: A7 :: A8 :: A9 :: A10 :: A11 :: A12 :: A13 :: A14 :: A15 :: A16 :: l)) : S P f n R w0 k ρ (A0 :: A1 :: A2 :: A3 :: A4 :: A5 :: A6 :: A7 :: A8 :: A9 :: A10 :: A11 :: A12 :: A13 :: A14 :: A15 :: A16 :: X :: l) := .bring perm17 h
theorem perm18 {A0 A1 A2 A3 A4 A5 A6 A7 A8 A9 A10 A11 A12 A13 A14 A15 A16 A17 X : HProp} {l : List HProp} : (A0 :: A1 :: A2 :: A3 :: A4 :: A5 :: A6 :: A7 :: A8 :: A9 :: A10 :: A11 :: A12 :: A13 :: A14 :: A15 :: A16 :: A17 :: X :: l).Perm (X :: A0 :: A1 :: A2 :: A3 :: A4 :: A5 :: A6 :: A7 :: A8 :: A9 :: A10 :: A11 :: A12 :: A13 :: A14 :: A15 :: A16 :: A17 :: l) := List.perm_middle (l₁ := [A0, A1, A2, A3, A4, A5, A6, A7, A8, A9, A10, A11, A12, A13, A14, A15, A16, A17])
theorem SO.b18 {A0 A1 A2 A3 A4 A5 A6 A7 A8 A9 A10 A11 A12 A13 A14 A15 A16 A17 X : HProp} (h : SO P n Z w0 ops os ρ (X :: A0 :: A1 :: A2 :: A3 :: A4 :: A5 :: A6 :: A7 :: A8 :: A9 :: A10 :: A11 :: A12 :: A13 :: A14 :: A15 :: A16 :: A17 :: l)) : SO P n Z w0 ops os ρ (A0 :: A1 :: A2 :: A3 :: A4 :: A5 :: A6 :: A7 :: A8 :: A9 :: A10 :: A11 :: A12 :: A13 :: A14 :: A15 :: A16 :: A17 :: X :: l) := .bring perm18 h
theorem S.b18 {A0 A1 A2 A3 A4 A5 A6 A7 A8 A9 A10 A11 A12 A13 A14 A15 A16 A17 X : HProp} (h : S P f n R w0 k ρ (X :: A0 :: A1 :: A2 :: A3 :: A4 :: A5 :: A6 :: A7 :: A8 :: A9 :: A10 :: A11 :: A12 :: A13 :: A14 :: A15 :: A16 :: A17 :: l)) : S P f n R w0 k ρ (A0 :: A1 :: A2 :: A3 :: A4 :: A5 :: A6 :: A7 :: A8 :: A9 :: A10 :: A11 :: A12 :: A13 :: A14 :: A15 :: A16 :: A17 :: X :: l) := .bring perm18 h
theorem perm19 {A0 A1 A2 A3 A4 A5 A6 A7 A8 A9 A10 A11 A12 A13 A14 A15 A16 A17 A18 X : HProp} {l : List HProp} : (A0 :: A1 :: A2 :: A3 :: A4 :: A5 :: A6 :: A7 :: A8 :: A9 :: A10 :: A11 :: A12 :: A13 :: A14 :: A15 :: A16 :: A17 :: A18 :: X :: l).Perm (X :: A0 :: A1 :: A2 :: A3 :: A4 :: A5 :: A6 :: A7 :: A8 :: A9 :: A10 :: A11 :: A12 :: A13 :: A14 :: A15 :: A16 :: A17 :: A18 :: l) := List.perm_middle (l₁ := [A0, A1, A2, A3, A4, A5, A6, A7, A8, A9, A10, A11, A12, A13, A14, A15, A16, A17, A18])
theorem SO.b19 {A0 A1 A2 A3 A4 A5 A6 A7 A8 A9 A10 A11 A12 A13 A14 A15 A16 A17 A18 X : HProp} (h : SO P n Z w0 ops os ρ (X :: A0 :: A1 :: A2 :: A3 :: A4 :: A5 :: A6 :: A7 :: A8 :: A9 :: A10 :: A11 :: A12 :: A13 :: A14 :: A15 :: A16 :: A17 :: A18 :: l)) : SO P n Z w0 ops os ρ (A0 :: A1 :: A2 :: A3 :: A4 :: A5 :: A6 :: A7 :: A8 :: A9 :: A10 :: A11 :: A12 :: A13 :: A14 :: A15 :: A16 :: A17 :: A18 :: X :: l) := .bring perm19 h
theorem S.b19 {A0 A1 A2 A3 A4 A5 A6 A7 A8 A9 A10 A11 A12 A13 A14 A15 A16 A17 A18 X : HProp} (h : S P f n R w0 k ρ (X :: A0 :: A1 :: A2 :: A3 :: A4 :: A5 :: A6 :: A7 :: A8 :: A9 :: A10 :: A11 :: A12 :: A13 :: A14 :: A15 :: A16 :: A17 :: A18 :: l)) : S P f n R w0 k ρ (A0 :: A1 :: A2 :: A3 :: A4 :: A5 :: A6 :: A7 :: A8 :: A9 :: A10 :: A11 :: A12 :: A13 :: A14 :: A15 :: A16 :: A17 :: A18 :: X :: l) := .bring perm19 h
theorem perm20 {A0 A1 A2 A3 A4 A5 A6 A7 A8 A9 A10 A11 A12 A13 A14 A15 A16 A17 A18 A19 X : HProp} {l : List HProp} : (A0 :: A1 :: A2 :: A3 :: A4 :: A5 :: A6 :: A7 :: A8 :: A9 :: A10 :: A11 :: A12 :: A13 :: A14 :: A15 :: A16 :: A17 :: A18 :: A19 :: X :: l).Perm (X :: A0 :: A1 :: A2 :: A3 :: A4 :: A5 :: A6 :: A7 :: A8 :: A9 :: A10 :: A11 :: A12 :: A13 :: A14 :: A15 :: A16 :: A17 :: A18 :: A19 :: l) := List.perm_middle (l₁ := [A0, A1, A2, A3, A4, A5, A6, A7, A8, A9, A10, A11, A12, A13, A14, A15, A16, A17, A18, A19])
theorem SO.b20 {A0 A1 A2 A3 A4 A5 A6 A7 A8 A9 A10 A11 A12 A13 A14 A15 A16 A17 A18 A19 X : HProp} (h : SO P n Z w0 ops os ρ (X :: A0 :: A1 :: A2 :: A3 :: A4 :: A5 :: A6 :: A7 :: A8 :: A9 :: A10 :: A11 :: A12 :: A13 :: A14 :: A15 :: A16 :: A17 :: A18 :: A19 :: l)) : SO P n Z w0 ops os ρ (A0 :: A1 :: A2 :: A3 :: A4 :: A5 :: A6 :: A7 :: A8 :: A9 :: A10 :: A11 :: A12 :: A13 :: A14 :: A15 :: A16 :: A17 :: A18 :: A19 :: X :: l) := .bring perm20 h
theorem S.b20 {A0 A1 A2 A3 A4 A5 A6 A7 A8 A9 A10 A11 A12 A13 A14 A15 A16 A17 A18 A19 X : HProp} (h : S P f n R w0 k ρ (X :: A0 :: A1 :: A2 :: A3 :: A4 :: A5 :: A6 :: A7 :: A8 :: A9 :: A10 :: A11 :: A12 :: A13 :: A14 :: A15 :: A16 :: A17 :: A18 :: A19 :: l)) : S P f n R w0 k ρ (A0 :: A1 :: A2 :: A3 :: A4 :: A5 :: A6 :: A7 :: A8 :: A9 :: A10 :: A11 :: A12 :: A13 :: A14 :: A15 :: A16 :: A17 :: A18 :: A19 :: X :: l) := .bring perm20 h
theorem perm21 {A0 A1 A2 A3 A4 A5 A6 A7 A8 A9 A10 A11 A12 A13 A14 A15 A16 A17 A18 A19 A20 X : HProp} {l : List HProp} : (A0 :: A1 :: A2 :: A3 :: A4 :: A5 :: A6 :: A7 :: A8 :: A9 :: A10 :: A11 :: A12 :: A13 :: A14 :: A15 :: A16 :: A17 :: A18 :: A19 :: A20 :: X :: l).Perm (X :: A0 :: A1 :: A2 :: A3 :: A4 :: A5 :: A6 :: A7 :: A8 :: A9 :: A10 :: A11 :: A12 :: A13 :: A14 :: A15 :: A16 :: A17 :: A18 :: A19 :: A20 :: l) := List.perm_middle (l₁ := [A0, A1, A2, A3, A4, A5, A6, A7, A8, A9, A10, A11, A12, A13, A14, A15, A16, A17, A18, A19, A20])
theorem SO.b21 {A0 A1 A2 A3 A4 A5 A6 A7 A8 A9 A10 A11 A12 A13 A14 A15 A16 A17 A18 A19 A20 X : HProp} (h : SO P n Z w0 ops os ρ (X :: A0 :: A1 :: A2 :: A3 :: A4 :: A5 :: A6 :: A7 :: A8 :: A9 :: A10 :: A11 :: A12 :: A13 :: A14 :: A15 :: A16 :: A17 :: A18 :: A19 :: A20 :: l)) : SO P n Z w0 ops os ρ (A0 :: A1 :: A2 :: A3 :: A4 :: A5 :: A6 :: A7 :: A8 :: A9 :: A10 :: A11 :: A12 :: A13 :: A14 :: A15 :: A16 :: A17 :: A18 :: A19 :: A20 :: X :: l) := .bring perm21 h
theorem S.b21 {A0 A1 A2 A3 A4 A5 A6 A7 A8 A9 A10 A11 A12 A13 A14 A15 A16 A17 A18 A19 A20 X : HProp} (h : S P f n R w0 k ρ (X :: A0 :: A1 :: A2 :: A3 :: A4 :: A5 :: A6 :: A7 :: A8 :: A9 :: A10 :: A11 :: A12 :: A13 :: A14 :: A15 :: A16 :: A17 :: A18 :: A19 :: A20 :: l)) : S P f n R w0 k ρ (A0 :: A1 :: A2 :: A3 :: A4 :: A5 :: A6 :: A7 :: A8 :: A9 :: A10 :: A11 :: A12 :: A13 :: A14 :: A15 :: A16 :: A17 :: A18 :: A19 :: A20 :: X :: l) := .bring perm21 h
theorem perm22 {A0 A1 A2 A3 A4 A5 A6 A7 A8 A9 A10 A11 A12 A13 A14 A15 A16 A17 A18 A19 A20 A21 X : HProp} {l : List HProp} : (A0 :: A1 :: A2 :: A3 :: A4 :: A5 :: A6 :: A7 :: A8 :: A9 :: A10 :: A11 :: A12 :: A13 :: A14 :: A15 :: A16 :: A17 :: A18 :: A19 :: A20 :: A21 :: X :: l).Perm (X :: A0 :: A1 :: A2 :: A3 :: A4 :: A5 :: A6 :: A7 :: A8 :: A9 :: A10 :: A11 :: A12 :: A13 :: A14 :: A15 :: A16 :: A17 :: A18 :: A19 :: A20 :: A21 :: l) := List.perm_middle (l₁ := [A0, A1, A2, A3, A4, A5, A6, A7, A8, A9, A10, A11, A12, A13, A14, A15, A16, A17, A18, A19, A20, A21])
theorem SO.b22 {A0 A1 A2 A3 A4 A5 A6 A7 A8 A9 A10 A11 A12 A13 A14 A15 A16 A17 A18 A19 A20 A21 X : HProp} (h : SO P n Z w0 ops os ρ (X :: A0 :: A1 :: A2 :: A3 :: A4 :: A5 :: A6 :: A7 :: A8 :: A9 :: A10 :: A11 :: A12 :: A13 :: A14 :: A15 :: A16 :: A17 :: A18 :: A19 :: A20 :: A21 :: l)) : SO P n Z w0 ops os ρ (A0 :: A1 :: A2 :: A3 :: A4 :: A5 :: A6 :: A7 :: A8 :: A9 :: A10 :: A11 :: A12 :: A13 :: A14 :: A15 :: A16 :: A17 :: A18 :: A19 :: A20 :: A21 :: X :: l) := .bring perm22 h
theorem S.b22 {A0 A1 A2 A3 A4 A5 A6 A7 A8 A9 A10 A11 A12 A13 A14 A15 A16 A17 A18 A19 A20 A21 X : HProp} (h : S P f n R w0 k ρ (X :: A0 :: A1 :: A2 :: A3 :: A4 :: A5 :: A6 :: A7 :: A8 :: A9 :: A10 :: A11 :: A12 :: A13 :: A14 :: A15 :: A16 :: A17 :: A18 :: A19 :: A20 :: A21 :: l)) : S P f n R w0 k ρ (A0 :: A1 :: A2 :: A3 :: A4 :: A5 :: A6 :: A7 :: A8 :: A9 :: A10 :: A11 :: A12 :: A13 :: A14 :: A15 :: A16 :: A17 :: A18 :: A19 :: A20 :: A21 :: X :: l) := .bring perm22 h
theorem perm23 {A0 A1 A2 A3 A4 A5 A6 A7 A8 A9 A10 A11 A12 A13 A14 A15 A16 A17 A18 A19 A20 A21 A22 X : HProp} {l : List HProp} : (A0 :: A1 :: A2 :: A3 :: A4 :: A5 :: A6 :: A7 :: A8 :: A9 :: A10 :: A11 :: A12 :: A13 :: A14 :: A15 :: A16 :: A17 :: A18 :: A19 :: A20 :: A21 :: A22 :: X :: l).Perm (X :: A0 :: A1 :: A2 :: A3 :: A4 :: A5 :: A6 :: A7 :: A8 :: A9 :: A10 :: A11 :: A12 :: A13 :: A14 :: A15 :: A16 :: A17 :: A18 :: A19 :: A20 :: A21 :: A22 :: l) := List.perm_middle (l₁ := [A0, A1, A2, A3, A4, A5, A6, A7, A8, A9, A10, A11, A12, A13, A14, A15, A16, A17, A18, A19, A20, A21, A22])
theorem SO.b23 {A0 A1 A2 A3 A4 A5 A6 A7 A8 A9 A10 A11 A12 A13 A14 A15 A16 A17 A18 A19 A20 A21 A22 X : HProp} (h : SO P n Z w0 ops os ρ (X :: A0 :: A1 :: A2 :: A3 :: A4 :: A5 :: A6 :: A7 :: A8 :: A9 :: A10 :: A11 :: A12 :: A13 :: A14 :: A15 :: A16 :: A17 :: A18 :: A19 :: A20 :: A21 :: A22 :: l)) : SO P n Z w0 ops os ρ (A0 :: A1 :: A2 :: A3 :: A4 :: A5 :: A6 :: A7 :: A8 :: A9 :: A10 :: A11 :: A12 :: A13 :: A14 :: A15 :: A16 :: A17 :: A18 :: A19 :: A20 :: A21 :: A22 :: X :: l) := .bring perm23 h
theorem S.b23 {A0 A1 A2 A3 A4 A5 A6 A7 A8 A9 A10 A11 A12 A13 A14 A15 A16 A17 A18 A19 A20 A21 A22 X : HProp} (h : S P f n R w0 k ρ (X :: A0 :: A1 :: A2 :: A3 :: A4 :: A5 :: A6 :: A7 :: A8 :: A9 :: A10 :: A11 :: A12 :: A13 :: A14 :: A15 :: A16 :: A17 :: A18 :: A19 :: A20 :: A21 :: A22 :: l)) : S P f n R w0 k ρ (A0 :: A1 :: A2 :: A3 :: A4 :: A5 :: A6 :: A7 :: A8 :: A9 :: A10 :: A11 :: A12 :: A13 :: A14 :: A15 :: A16 :: A17 :: A18 :: A19 :: A20 :: A21 :: A22 :: X :: l) := .bring perm23 h
theorem perm24 {A0 A1 A2 A3 A4 A5 A6 A7 A8 A9 A10 A11 A12 A13 A14 A15 A16 A17 A18 A19 A20 A21 A22 A23 X : HProp} {l : List HProp} : (A0 :: A1 :: A2 :: A3 :: A4 :: A5 :: A6 :: A7 :: A8 :: A9 :: A10 :: A11 :: A12 :: A13 :: A14 :: A15 :: A16 :: A17 :: A18 :: A19 :: A20 :: A21 :: A22 :: A23 :: X :: l).Perm (X :: A0 :: A1 :: A2 :: A3 :: A4 :: A5 :: A6 :: A7 :: A8 :: A9 :: A10 :: A11 :: A12 :: A13 :: A14 :: A15 :: A16 :: A17 :: A18 :: A19 :: A20 :: A21 :: A22 :: A23 :: l) := List.perm_middle (l₁ := [A0, A1, A2, A3, A4, A5, A6, A7, A8, A9, A10, A11, A12, A13, A14, A15, A16, A17, A18, A19, A20, A21, A22, A23])
theorem SO.b24 {A0 A1 A2 A3 A4 A5 A6 A7 A8 A9 A10 A11 A12 A13 A14 A15 A16 A17 A18 A19 A20 A21 A22 A23 X : HProp} (h : SO P n Z w0 ops os ρ (X :: A0 :: A1 :: A2 :: A3 :: A4 :: A5 :: A6 :: A7 :: A8 :: A9 :: A10 :: A11 :: A12 :: A13 :: A14 :: A15 :: A16 :: A17 :: A18 :: A19 :: A20 :: A21 :: A22 :: A23 :: l)) : SO P n Z w0 ops os ρ (A0 :: A1 :: A2 :: A3 :: A4 :: A5 :: A6 :: A7 :: A8 :: A9 :: A10 :: A11 :: A12 :: A13 :: A14 :: A15 :: A16 :: A17 :: A18 :: A19 :: A20 :: A21 :: A22 :: A23 :: X :: l) := .bring perm24 h
theorem S.b24 {A0 A1 A2 A3 A4 A5 A6 A7 A8 A9 A10 A11 A12 A13 A14 A15 A16 A17 A18 A19 A20 A21 A22 A23 X : HProp} (h : S P f n R w0 k ρ (X :: A0 :: A1 :: A2 :: A3 :: A4 :: A5 :: A6 :: A7 :: A8 :: A9 :: A10 :: A11 :: A12 :: A13 :: A14 :: A15 :: A16 :: A17 :: A18 :: A19 :: A20 :: A21 :: A22 :: A23 :: l)) : S P f n R w0 k ρ (A0 :: A1 :: A2 :: A3 :: A4 :: A5 :: A6 :: A7 :: A8 :: A9 :: A10 :: A11 :: A12 :: A13 :: A14 :: A15 :: A16 :: A17 :: A18 :: A19 :: A20 :: A21 :: A22 :: A23 :: X :: l) := .bring perm24 h
end
section
variable {P : Program} {f : FuncId} {n : Nat} {R : Ending → World → Prop} {w0 : Beg} {k : List Item} {ρ : Env} {H : List HProp}
theorem S.cutP {x : Code} {G : Type} (Φ : G → Prop) (ρ2 : G → Env) (H2 : G → List HProp) (h1 : (∀ g, Φ g → S P f n R w0 k (ρ2 g) (H2 g)) → S P f n R w0 (.code x :: k) ρ H) (h2 : ∀ g, Φ g → S P f n R w0 k (ρ2 g) (H2 g)) : S P f n R w0 (.code x :: k) ρ H := h1 h2
end
def Brk.go {α β γ : Type} (o : Brk α β) (f : α → γ) (g : β → γ) : γ := match o with | .ret a => f a | .nx b => g b
theorem Brk.of_ret {α β γ : Type} {a : α} {f : α → γ} {g : β → γ} {r : γ} (h : (Brk.ret a).go f g = r) : f a = r := h
theorem Brk.of_nx {α β γ : Type} {b : β} {f : α → γ} {g : β → γ} {r : γ} (h : (Brk.nx b).go f g = r) : g b = r := h
theorem VM.of_ret {V : VI} {α β γ : Type} {a : α} {f : α → VM γ} {g : β → VM γ} {s : V.S} {r : Option (γ × V.S)} (h : VM.run V ((Brk.ret a).go f g) s = r) : VM.run V (f a) s = r := h
theorem VM.of_nx {V : VI} {α β γ : Type} {b : β} {f : α → VM γ} {g : β → VM γ} {s : V.S} {r : Option (γ × V.S)} (h : VM.run V ((Brk.nx b).go f g) s = r) : VM.run V (g b) s = r := h
namespace VM
variable {α β : Type} (V : VI)
theorem rd_some {i : Int} {k : Int → VM α} {s : V.S} {r : α × V.S} (h : (VM.rd i k).run V s = some r) : ∃ t s1, V.rd s i = (t, s1) ∧ (k t).run V s1 = some r := ⟨(V.rd s i).1, (V.rd s i).2, rfl, h⟩
theorem wr_some {i v : Int} {k : VM α} {s : V.S} {r : α × V.S} (h : (VM.wr i v k).run V s = some r) : ∃ s1, V.wr s i v = s1 ∧ k.run V s1 = some r := ⟨_, rfl, h⟩
end VM
section
variable {P : Program} {f : FuncId} {n : Nat} {Z : Act → World → Prop} {R : Ending → World → Prop} {w0 : Beg} {k : List Item} {ρ ρ' : Env} {rest : List HProp} {ops : Array Oper} {l : List Oper}
theorem SO.vread' (V : VW P) {d : Nat} {t : TypeId} {p : String} {af : Array Edge} {x y : Operand} {tys : Array TypeId} {s s1 : V.S} {i u : Int} (hd : Nat.blt d n = true) (hx : ev ρ x = some V.val) (hy : ev ρ y = some (.int .i64 i)) (hv : V.rd s i = (u, s1))
    (h : SO P n Z w0 ops l ((d, .int .u64 u) :: ρ) (V.rep s1 :: rest)) :
    SO P n Z w0 ops (⟨some d, .call ⟨.invoke x "Read", #[y], tys⟩, t, p, af, none⟩ :: l) ρ (V.rep s :: rest) := SO.vread V hd hx hy (by rw [hv]; exact h)
theorem SO.vwrite0' (V : VW P) {t : TypeId} {p : String} {af : Array Edge} {x y z : Operand} {tys : Array TypeId} {s s1 : V.S} {i u : Int} (hx : ev ρ x = some V.val) (hy : ev ρ y = some (.int .i64 i)) (hz : ev ρ z = some (.int .u64 u)) (hv : V.wr s i u = s1)
    (h : SO P n Z w0 ops l ρ (V.rep s1 :: rest)) :
    SO P n Z w0 ops (⟨none, .call ⟨.invoke x "Write", #[y, z], tys⟩, t, p, af, none⟩ :: l) ρ (V.rep s :: rest) := SO.vwrite0 V hx hy hz (by rw [hv]; exact h)
theorem SO.vwrite' (V : VW P) {d : Nat} {t : TypeId} {p : String} {af : Array Edge} {x y z : Operand} {tys : Array TypeId} {s s1 : V.S} {i u : Int} (hd : Nat.blt d n = true) (hx : ev ρ x = some V.val) (hy : ev ρ y = some (.int .i64 i)) (hz : ev ρ z = some (.int .u64 u)) (hv : V.wr s i u = s1)
    (h : SO P n Z w0 ops l ((d, .tuple #[]) :: ρ) (V.rep s1 :: rest)) :
    SO P n Z w0 ops (⟨some d, .call ⟨.invoke x "Write", #[y, z], tys⟩, t, p, af, none⟩ :: l) ρ (V.rep s :: rest) := SO.vwrite V hd hx hy hz (by rw [hv]; exact h)
end
end Go.Sl
