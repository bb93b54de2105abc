/- The resource logic, part SlCall. On no condition. -/
import Derived.Test.YtbhboofhcgkgfaaSlMem
set_option linter.all false
namespace Go.Sl
open Go.RowKit

/-! ### What a call comes to -/
/-- Called with these values, over these resources, the function returns so. (rd: what may be read, of what stays.) -/
def Ct (P : Program) (g : FuncId) (vals : List Value) (rd : HProp → Prop) (pre : List HProp) (post : Value → List HProp → Prop) : Prop :=
  ∀ (w : World) (F : HProp), rd F → Sat w (pre ++ [F]) → Calls P g vals.toArray w (fun e w' => ∃ v H', e = .returned v ∧ post v H' ∧ Sat w' (H' ++ [F]) ∧ Keep w w')
def num : Nat → List Value → Env
  | _, [] => []
  | i, v :: l => (i, v) :: num (i + 1) l
theorem look_num : ∀ (i : Nat) (l : List Value) (t : Nat) (v : Value), look (num i l) t = some v → i ≤ t ∧ l[t - i]? = some v
  | _, [], _, _, h => by simp [num, look] at h
  | i, u :: l, t, v, h => by
    simp only [num, look] at h
    cases hb : Nat.beq i t with
    | true => have : i = t := Nat.eq_of_beq_eq_true hb; subst this; simp at h; subst h; simp
    | false =>
      simp [hb] at h
      have := look_num (i + 1) l t v h
      refine ⟨by omega, ?_⟩
      rw [show t - i = (t - (i + 1)) + 1 by omega]; simpa using this.2
theorem Ct.intro {P : Program} {g : FuncId} {fn : Func} {c : Code} {vals : List Value} {rd : HProp → Prop} {pre : List HProp} {post : Value → List HProp → Prop} {n : Nat}
    (hf : P.funcs[g]? = some fn) (hb : fn.body = some c) (hn : fn.ntmps = n) (hl : Nat.ble vals.length n = true)
    (h : ∀ R w0 F, rd F → (∀ w v H', post v H' → Sat w (H' ++ [F]) → Keep w0 w → R (.returned v) w) → S P g n R w0 [.code c] (num 0 vals) (pre ++ [F])) : Ct P g vals rd pre post := by
  intro w F hF hs
  have hle : vals.length ≤ n := by simpa using hl
  refine Calls.of_goes hf hb (h _ w F hF (fun w' v H' hp hs' hk => ⟨v, H', rfl, hp, hs', hk⟩) _ w ?_ ?_ rfl hs (.refl w))
  · simp [hn]; omega
  · intro t v hv
    obtain ⟨_, h2⟩ := look_num 0 vals t v hv
    rw [Nat.sub_zero] at h2
    have ht : t < vals.length := by
      rcases Nat.lt_or_ge t vals.length with h | h
      · exact h
      · simp [List.getElem?_eq_none h] at h2
    rw [Array.getElem?_append_left (by simpa using ht)]; simpa using h2
theorem Ct.mono {P : Program} {g : FuncId} {vals : List Value} {rd rd' : HProp → Prop} {pre : List HProp} {post post' : Value → List HProp → Prop} (h : Ct P g vals rd pre post) (hr : ∀ F, rd' F → rd F) (hp : ∀ v H', post v H' → post' v H') : Ct P g vals rd' pre post' :=
  fun w F hF hs => (h w F (hr F hF) hs).mono fun _ _ ⟨v, H', h1, h2, h3⟩ => ⟨v, H', h1, hp _ _ h2, h3⟩

def evs (ρ : Env) : List Operand → Option (List Value)
  | [] => some []
  | x :: l => match ev ρ x with
    | some v => match evs ρ l with
      | some vs => some (v :: vs)
      | none => none
    | none => none
theorem evs_map {ρ : Env} {r : Operand → Value} (hr : ∀ x u, ev ρ x = some u → r x = u) : ∀ {l : List Operand} {vs : List Value}, evs ρ l = some vs → l.map r = vs
  | [], vs, h => by simp [evs] at h; simp [h]
  | x :: l, vs, h => by
    simp only [evs] at h
    split at h
    · rename_i v hv
      split at h
      · rename_i us hu; injection h with h; subst h; simp [hr x v hv, evs_map hr hu]
      · cases h
    · cases h

section
variable {P : Program} {f : FuncId} {n : Nat} {Z : Act → World → Prop} {R : Ending → World → Prop} {w0 : World} {k : List Item} {ρ ρ' : Env} {H H' pre rest : List HProp} {ops : Array Oper} {l : List Oper}

theorem SO.enter {d : Nat} {t : TypeId} {o : Op} {p : String} {af : Array Edge} {g : FuncId} {vals : List Value} {rd : HProp → Prop} {post : Value → List HProp → Prop} (hd : Nat.blt d n = true)
    (ho : ∀ (r : Operand → Value) (w : World), (∀ x u, ev ρ x = some u → r x = u) → (execOp r ⟨some d, o, t, p, af, none⟩).run P w = .ok (.enter g vals.toArray) w)
    (hct : Ct P g vals rd pre post) (hrd : rd (stars rest)) (h : ∀ v H', post v H' → SO P n Z w0 ops l ((d, v) :: ρ) (H' ++ rest)) :
    SO P n Z w0 ops (⟨some d, o, t, p, af, none⟩ :: l) ρ (pre ++ rest) := by
  intro a w h1 h2 h3 h4 h5
  refine wpList_plain rfl fun K hK => ?_
  unfold Oper.wp
  rw [ho a.eval w (fun x u => h2.ev)]
  have hd' : d < n := by simpa using hd
  refine (hct w (stars rest) hrd h4.pack).mono ?_
  rintro e w' ⟨v, H', rfl, hp, hs, hk⟩
  exact hK _ _ (h v H' hp _ w' (by simpa [Act.put] using h1) (h2.put v (by omega)) h3 hs.unpack (h5.trans hk))
theorem SO.enter0 {t : TypeId} {o : Op} {p : String} {af : Array Edge} {g : FuncId} {vals : List Value} {rd : HProp → Prop} {post : Value → List HProp → Prop}
    (ho : ∀ (r : Operand → Value) (w : World), (∀ x u, ev ρ x = some u → r x = u) → (execOp r ⟨none, o, t, p, af, none⟩).run P w = .ok (.enter g vals.toArray) w)
    (hct : Ct P g vals rd pre post) (hrd : rd (stars rest)) (h : ∀ v H', post v H' → SO P n Z w0 ops l ρ (H' ++ rest)) :
    SO P n Z w0 ops (⟨none, o, t, p, af, none⟩ :: l) ρ (pre ++ rest) := by
  intro a w h1 h2 h3 h4 h5
  refine wpList_plain rfl fun K hK => ?_
  unfold Oper.wp
  rw [ho a.eval w (fun x u => h2.ev)]
  refine (hct w (stars rest) hrd h4.pack).mono ?_
  rintro e w' ⟨v, H', rfl, hp, hs, hk⟩
  exact hK _ _ (h v H' hp _ w' h1 h2 h3 hs.unpack (h5.trans hk))
theorem call_run {g : FuncId} {x : Operand} {as : Array Operand} {tys : Array TypeId} {first caps vs vals : List Value} {r : Operand → Value} {w : World} {d : Option Tmp} {t : TypeId} {p : String} {af : Array Edge}
    (hg : ∀ (as : Array Value) (w : World), (callFunc g as).run P w = .ok (.enter g as) w) (hx : ev ρ x = some (.func (.func g) first.toArray caps.toArray)) (hv : evs ρ as.toList = some vs) (hvals : first ++ (vs ++ caps) = vals) (hr : ∀ x u, ev ρ x = some u → r x = u) :
    (execOp r ⟨d, .call ⟨.value x, as, tys⟩, t, p, af, none⟩).run P w = .ok (.enter g vals.toArray) w := by
  have : as.map r = vs.toArray := by apply Array.ext'; simpa using evs_map hr hv
  simp [execOp, resolve, hr x _ hx, Deferred.ofValue, invoke, this, hg, ← hvals]
/-- A call. -/
theorem SO.call {d : Nat} {t : TypeId} {p : String} {af : Array Edge} {g : FuncId} {x : Operand} {as : Array Operand} {tys : Array TypeId} {first caps vs vals : List Value} {rd : HProp → Prop} {post : Value → List HProp → Prop} (hd : Nat.blt d n = true)
    (hg : ∀ (as : Array Value) (w : World), (callFunc g as).run P w = .ok (.enter g as) w) (hx : ev ρ x = some (.func (.func g) first.toArray caps.toArray)) (hv : evs ρ as.toList = some vs) (hvals : first ++ (vs ++ caps) = vals)
    (hct : Ct P g vals rd pre post) (hrd : rd (stars rest)) (h : ∀ v H', post v H' → SO P n Z w0 ops l ((d, v) :: ρ) (H' ++ rest)) :
    SO P n Z w0 ops (⟨some d, .call ⟨.value x, as, tys⟩, t, p, af, none⟩ :: l) ρ (pre ++ rest) :=
  .enter hd (fun _ _ hr => call_run hg hx hv hvals hr) hct hrd h
theorem SO.call0 {t : TypeId} {p : String} {af : Array Edge} {g : FuncId} {x : Operand} {as : Array Operand} {tys : Array TypeId} {first caps vs vals : List Value} {rd : HProp → Prop} {post : Value → List HProp → Prop}
    (hg : ∀ (as : Array Value) (w : World), (callFunc g as).run P w = .ok (.enter g as) w) (hx : ev ρ x = some (.func (.func g) first.toArray caps.toArray)) (hv : evs ρ as.toList = some vs) (hvals : first ++ (vs ++ caps) = vals)
    (hct : Ct P g vals rd pre post) (hrd : rd (stars rest)) (h : ∀ v H', post v H' → SO P n Z w0 ops l ρ (H' ++ rest)) :
    SO P n Z w0 ops (⟨none, .call ⟨.value x, as, tys⟩, t, p, af, none⟩ :: l) ρ (pre ++ rest) :=
  .enter0 (fun _ _ hr => call_run hg hx hv hvals hr) hct hrd h
theorem invoke_run {g : FuncId} {x : Operand} {as : Array Operand} {tys : Array TypeId} {T : TypeId} {u rv : Value} {name : String} {vs vals : List Value} {r : Operand → Value} {w : World} {d : Option Tmp} {t : TypeId} {p : String} {af : Array Edge}
    (hg : ∀ (as : Array Value) (w : World), (callFunc g as).run P w = .ok (.enter g as) w) (hx : ev ρ x = some (.iface T u)) (hm : ∀ w, (method (P.types.size + Made.depth) T u name).run P w = .ok (g, rv) w) (hv : evs ρ as.toList = some vs) (hvals : rv :: vs = vals) (hr : ∀ x u, ev ρ x = some u → r x = u) :
    (execOp r ⟨d, .call ⟨.invoke x name, as, tys⟩, t, p, af, none⟩).run P w = .ok (.enter g vals.toArray) w := by
  have : as.map r = vs.toArray := by apply Array.ext'; simpa using evs_map hr hv
  simp [execOp, resolve, hr x _ hx, invoke, callMethod, this, hm, hg, ← hvals]
/-- A call of an interface's method. -/
theorem SO.invoke {d : Nat} {t : TypeId} {p : String} {af : Array Edge} {g : FuncId} {x : Operand} {as : Array Operand} {tys : Array TypeId} {T : TypeId} {u rv : Value} {name : String} {vs vals : List Value} {rd : HProp → Prop} {post : Value → List HProp → Prop} (hd : Nat.blt d n = true)
    (hg : ∀ (as : Array Value) (w : World), (callFunc g as).run P w = .ok (.enter g as) w) (hx : ev ρ x = some (.iface T u)) (hm : ∀ w, (method (P.types.size + Made.depth) T u name).run P w = .ok (g, rv) w) (hv : evs ρ as.toList = some vs) (hvals : rv :: vs = vals)
    (hct : Ct P g vals rd pre post) (hrd : rd (stars rest)) (h : ∀ v H', post v H' → SO P n Z w0 ops l ((d, v) :: ρ) (H' ++ rest)) :
    SO P n Z w0 ops (⟨some d, .call ⟨.invoke x name, as, tys⟩, t, p, af, none⟩ :: l) ρ (pre ++ rest) :=
  .enter hd (fun _ _ hr => invoke_run hg hx hm hv hvals hr) hct hrd h

/-! ### Conditions, groups, joins, loops -/
theorem S.condT {c : Operand} {x y : Code} {t : Bool} (hc : ev ρ c = some (.bool t)) (ht : t = true) (h : S P f n R w0 (.code x :: k) ρ H) : S P f n R w0 (.code (.cond c x y) :: k) ρ H := by subst ht; exact .cond hc h
theorem S.condF {c : Operand} {x y : Code} {t : Bool} (hc : ev ρ c = some (.bool t)) (ht : t = false) (h : S P f n R w0 (.code y :: k) ρ H) : S P f n R w0 (.code (.cond c x y) :: k) ρ H := by subst ht; exact .cond hc h
theorem SO.takeT {d : Option Tmp} {t : TypeId} {o : Op} {p : String} {af : Array Edge} {j : Nat} {b c : Bool} {oj : Oper} {dj : Tmp} (hj : ops[j]? = some oj) (hdj : oj.dst = some dj) (hv : look ρ dj = some (.bool c)) (hc : c = b)
    (h : SO P n Z w0 ops (⟨d, o, t, p, af, none⟩ :: l) ρ H) : SO P n Z w0 ops (⟨d, o, t, p, af, some (j, b)⟩ :: l) ρ H := by subst hc; exact .take hj hdj hv h
theorem SO.passF {d : Nat} {t : TypeId} {o : Op} {p : String} {af : Array Edge} {j : Nat} {b c e : Bool} {oj : Oper} {dj : Tmp} (hj : ops[j]? = some oj) (hdj : oj.dst = some dj) (hv : look ρ dj = some (.bool c)) (hc : c = e) (hbc : (e == b) = false) (hd : Nat.blt d n = true)
    (h : SO P n Z w0 ops l ((d, undef) :: ρ) H) : SO P n Z w0 ops (⟨some d, o, t, p, af, some (j, b)⟩ :: l) ρ H := by subst hc; exact .pass hj hdj hv hbc hd h
/-- The first m operations lead to one more slot (and other resources). -/
theorem SO.cut (m : Nat) (d : Nat) (v : Value) (H2 : List HProp) (h1 : ∀ l2, SO P n Z w0 ops l2 ((d, v) :: ρ) H2 → SO P n Z w0 ops (l.take m ++ l2) ρ H) (h2 : SO P n Z w0 ops (l.drop m) ((d, v) :: ρ) H2) : SO P n Z w0 ops l ρ H := by
  have := h1 _ h2
  rwa [List.take_append_drop] at this
theorem S.cut {x : Code} (ρ2 : Env) (H2 : List HProp) (h1 : S P f n R w0 k ρ2 H2 → S P f n R w0 (.code x :: k) ρ H) (h2 : S P f n R w0 k ρ2 H2) : S P f n R w0 (.code x :: k) ρ H := h1 h2
def fitl (ρ : Env) : Env → Prop
  | [] => True
  | (t, v) :: l => look ρ t = some v ∧ fitl ρ l
theorem Fit.of : ∀ {ρ' : Env}, fitl ρ ρ' → Fit ρ ρ'
  | [], _ => fun _ h => by cases h
  | (_, _) :: _, ⟨h1, h2⟩ => fun p hp => by
    cases hp with
    | head => exact h1
    | tail _ hp => exact Fit.of h2 p hp
theorem S.to (hf : fitl ρ ρ') (h : S P f n R w0 k ρ' H) : S P f n R w0 k ρ H := h.fit (.of hf)
theorem SO.to (hf : fitl ρ ρ') (h : SO P n Z w0 ops l ρ' H) : SO P n Z w0 ops l ρ H := h.fit (.of hf)
/-- A loop, told by a function of what is left of the rounds. -/
theorem S.forloop {X O : Type} (l0 : Nat → X → Option O) (ρx : X → Env) (Hx : X → List HProp) (K : (Env → List HProp → Prop) → O → Prop) {id : Nat} {c : Code} {k : List Item} (z : ∀ x, l0 0 x = none)
    (step : ∀ m x o, l0 (m + 1) x = some o → K (S P f n R w0 k) o → (∀ x', l0 m x' = some o → S P f n R w0 (.inLoop c :: .inBlock id :: k) (ρx x') (Hx x')) → S P f n R w0 (.code c :: .inLoop c :: .inBlock id :: k) (ρx x) (Hx x))
    {m : Nat} {x : X} {o : O} (hl : l0 m x = some o) (hK : K (S P f n R w0 k) o) : S P f n R w0 (.code (.block id (.loop c)) :: k) (ρx x) (Hx x) := by
  have key : ∀ m x, l0 m x = some o → S P f n R w0 (.code c :: .inLoop c :: .inBlock id :: k) (ρx x) (Hx x) := by
    intro m
    induction m with
    | zero => intro x h; rw [z] at h; cases h
    | succ m ih => intro x h; exact step m x o h hK fun x' h' => .again (ih x' h')
  exact .block (.loop (key m x hl))
end

/-! ### Rounds -/
theorem opt_bind {α β : Type} {x : Option α} {g : α → Option β} {r : β} (h : x.bind g = some r) : ∃ t, x = some t ∧ g t = some r := by
  cases x with
  | none => cases h
  | some t => exact ⟨t, rfl, h⟩
theorem cond_t {α : Type} {c : Bool} {a b r : α} (h : c = true) (e : (bif c then a else b) = r) : a = r := by subst h; exact e
theorem cond_f {α : Type} {c : Bool} {a b r : α} (h : c = false) (e : (bif c then a else b) = r) : b = r := by subst h; exact e
theorem bool_or (c : Bool) : c = true ∨ c = false := by cases c <;> simp
theorem and_t {c d : Bool} (h : c = true) : some (Value.bool d) = some (Value.bool (c && d)) := by subst h; rfl
theorem and_f {c d : Bool} (h : c = false) : some (Value.bool false) = some (Value.bool (c && d)) := by subst h; rfl
theorem or_t {c d : Bool} (h : c = true) : some (Value.bool true) = some (Value.bool (c || d)) := by subst h; rfl
theorem or_f {c d : Bool} (h : c = false) : some (Value.bool d) = some (Value.bool (c || d)) := by subst h; rfl
/-- What a loop leads to: an answer of the function's, or its end. -/
inductive Brk (α β : Type) where
  | ret (a : α)
  | nx (b : β)
end Go.Sl
