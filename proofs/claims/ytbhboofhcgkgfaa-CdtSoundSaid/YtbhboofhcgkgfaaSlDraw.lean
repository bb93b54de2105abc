/- The resource logic, part SlDraw. On no condition. -/
import Derived.Test.YtbhboofhcgkgfaaSlKit
set_option linter.all false
namespace Go.Sl
/-! ### Regions that draw their order: what each operation takes and leaves, token by token -/
/-- Some slots, and some resources, that go together: they stand for one g of G. -/
structure Tok where
  G : Type
  sl : List Nat
  env : G → Env
  H : G → List HProp
  ok : ∀ g, (env g).map (·.1) = sl
def EnvAll (x : Array Value) (ρ : Env) : Prop := ∀ p ∈ ρ, x[p.1]? = some p.2
def Tok.at (T : Tok) (x : Array Value) : HProp := fun m => ∃ g, EnvAll x (T.env g) ∧ stars (T.H g) m
theorem Tok.stable (T : Tok) {x y : Array Value} {m : PH} (h : ∀ t ∈ T.sl, y[t]? = x[t]?) (k : T.at x m) : T.at y m := by
  obtain ⟨g, h1, h2⟩ := k
  refine ⟨g, fun p hp => ?_, h2⟩
  rw [h p.1 (by rw [← T.ok g]; exact List.mem_map_of_mem hp)]
  exact h1 p hp
/-- One slot. -/
def tS (t : Nat) (v : Value) : Tok := ⟨Unit, [t], fun _ => [(t, v)], fun _ => [], fun _ => rfl⟩
/-- One resource. -/
def tR (A : HProp) : Tok := ⟨Unit, [], fun _ => [], fun _ => [A], fun _ => rfl⟩
/-- A slot and a resource that hang on one thing. -/
def tG (G : Type) (t : Nat) (v : G → Value) (A : G → HProp) : Tok := ⟨G, [t], fun g => [(t, v g)], fun g => [A g], fun _ => rfl⟩
/-- Slots that nobody touches. -/
def tE (ρ : Env) : Tok := ⟨Unit, ρ.map (·.1), fun _ => ρ, fun _ => [], fun _ => rfl⟩
structure Dat where
  rd : List Nat
  kl : List Nat
  mt : List Nat
def Dat.pre (d : Dat) : List Nat := d.rd ++ d.kl
def Dat.post (d : Dat) : List Nat := d.rd ++ d.mt
def tdum : Tok := tS 0 undef
def ddum : Dat := ⟨[], [], []⟩
def toks (T : List Tok) (L : List Nat) (x : Array Value) : List HProp := L.map fun i => (T.getD i tdum).at x
def preQ (T : List Tok) (body : Env → List HProp → Prop) : List Nat → Env → List HProp → Prop
  | [], ρ, H => body ρ H
  | i :: L, ρ, H => ∀ g, preQ T body L (ρ ++ (T.getD i tdum).env g) (H ++ (T.getD i tdum).H g)
def postQ (T : List Tok) (body : Env → List HProp → Prop) : List Nat → Env → List HProp → Prop
  | [], ρ, H => body ρ H
  | i :: L, ρ, H => ∃ g, postQ T body L (ρ ++ (T.getD i tdum).env g) (H ++ (T.getD i tdum).H g)
theorem postQ.cons {T : List Tok} {body : Env → List HProp → Prop} {i : Nat} {L : List Nat} {ρ : Env} {H : List HProp} (g : (T.getD i tdum).G) (h : postQ T body L (ρ ++ (T.getD i tdum).env g) (H ++ (T.getD i tdum).H g)) : postQ T body (i :: L) ρ H := ⟨g, h⟩
theorem postQ.nil {T : List Tok} {body : Env → List HProp → Prop} {ρ : Env} {H : List HProp} (h : body ρ H) : postQ T body [] ρ H := h
theorem EnvAll.append {x : Array Value} {a b : Env} (h : EnvAll x a) (k : EnvAll x b) : EnvAll x (a ++ b) := fun p hp => by
  rcases List.mem_append.1 hp with h1 | h1
  · exact h p h1
  · exact k p h1
theorem EnvAll.ok {x : Array Value} : ∀ {ρ : Env}, EnvAll x ρ → EnvOk x ρ := fun h t v e => h (t, v) (look_mem e)
theorem EnvAll.of {x : Array Value} {ρ ρ' : Env} (h : EnvOk x ρ) (f : fitl ρ ρ') : EnvAll x ρ' := fun p hp => h p.1 p.2 (Fit.of f p hp)
theorem toks_pre {T : List Tok} {body : Env → List HProp → Prop} {x : Array Value} {w : World} : ∀ (L : List Nat) (ρ : Env) (H Fr : List HProp), EnvAll x ρ → Sat w (H ++ (toks T L x ++ Fr)) → preQ T body L ρ H → ∃ ρ' H', EnvAll x ρ' ∧ Sat w (H' ++ Fr) ∧ body ρ' H'
  | [], ρ, H, Fr, he, hs, hb => ⟨ρ, H, he, hs, hb⟩
  | i :: L, ρ, H, Fr, he, hs, hb => by
    obtain ⟨m1, m2, d, s1, s2, hH, n1, n2, e, t1, t2, ⟨g, hg1, hg2⟩, hr⟩ := (stars_append H _ _).1 hs
    refine toks_pre L (ρ ++ (T.getD i tdum).env g) (H ++ (T.getD i tdum).H g) Fr (he.append hg1) ?_ (hb g)
    rw [List.append_assoc]
    exact (stars_append _ _ _).2 ⟨m1, m2, d, s1, s2, hH, (stars_append _ _ _).2 ⟨n1, n2, e, t1, t2, hg2, hr⟩⟩
theorem toks_post {T : List Tok} {x : Array Value} {w : World} : ∀ (L : List Nat) (ρ : Env) (H Fr : List HProp), postQ T (fun ρ H => EnvAll x ρ ∧ Sat w (H ++ Fr)) L ρ H → EnvAll x ρ ∧ Sat w (H ++ (toks T L x ++ Fr))
  | [], ρ, H, Fr, h => h
  | i :: L, ρ, H, Fr, ⟨g, h⟩ => by
    obtain ⟨h1, h2⟩ := toks_post L _ _ Fr h
    refine ⟨fun p hp => h1 p (List.mem_append_left _ hp), ?_⟩
    rw [List.append_assoc] at h2
    obtain ⟨m1, m2, d, s1, s2, hH, hr⟩ := (stars_append H _ _).1 h2
    obtain ⟨n1, n2, e, t1, t2, hg, hr⟩ := (stars_append _ _ _).1 hr
    exact (stars_append _ _ _).2 ⟨m1, m2, d, s1, s2, hH, n1, n2, e, t1, t2, ⟨g, fun p hp => h1 p (List.mem_append_right _ hp), hg⟩, hr⟩

/-- What an operation has to leave. -/
def PZ (T : List Tok) (d : Dat) (n : Nat) (w0 : World) (Fr : HProp) (a : Act) (w : World) : Prop :=
  a.tmps.size = n ∧ a.defers = [] ∧ Keep w0 w ∧ postQ T (fun ρ H => EnvAll a.tmps ρ ∧ Sat w (H ++ [Fr])) d.post [] []
theorem PZ.of {T : List Tok} {d : Dat} {n : Nat} {w0 : World} {Fr : HProp} {a : Act} {w : World} (h1 : a.tmps.size = n) (h3 : a.defers = []) (h5 : Keep w0 w) (h : postQ T (fun ρ H => EnvAll a.tmps ρ ∧ Sat w (H ++ [Fr])) d.post [] []) : PZ T d n w0 Fr a w := ⟨h1, h3, h5, h⟩
def OpSp (P : Program) (ops : Array Oper) (T : List Tok) (d : Dat) (n : Nat) (w0 : World) (o : Oper) : Prop :=
  ∀ Fr, preQ T (fun ρ H => SO P n (PZ T d n w0 Fr) w0 ops [o] ρ (H ++ [Fr])) d.pre [] []
def Specs (P : Program) (ops : Array Oper) (T : List Tok) (n : Nat) (w0 : World) : List Oper → List Dat → Prop
  | o :: l, d :: D => OpSp P ops T d n w0 o ∧ Specs P ops T n w0 l D
  | [], [] => True
  | _, _ => False
theorem Specs.get {P : Program} {ops : Array Oper} {T : List Tok} {n : Nat} {w0 : World} : ∀ {l : List Oper} {D : List Dat}, Specs P ops T n w0 l D → ∀ i o, l[i]? = some o → OpSp P ops T (D.getD i ddum) n w0 o
  | [], _, _, i, o, h => by simp at h
  | o :: l, [], hs, _, _, _ => by simp [Specs] at hs
  | o :: l, d :: D, ⟨h1, h2⟩, 0, o', h => by simp at h; subst h; exact h1
  | o :: l, d :: D, ⟨h1, h2⟩, i + 1, o', h => by simp only [List.getElem?_cons_succ] at h; simpa using Specs.get h2 i o' h

def has (l : List Nat) (x : Nat) : Bool := l.any (Nat.beq x)
theorem has_iff {l : List Nat} {x : Nat} : has l x = true ↔ x ∈ l := by
  unfold has
  rw [List.any_eq_true]
  constructor
  · rintro ⟨y, hy, he⟩; rw [Nat.eq_of_beq_eq_true he]; exact hy
  · intro h; exact ⟨x, h, by simp⟩
def allI (n : Nat) (f : Nat → Bool) : Bool := (List.range n).all f
theorem allI_spec {n : Nat} {f : Nat → Bool} (h : allI n f = true) {i : Nat} (hi : i < n) : f i = true := List.all_eq_true.1 h i (List.mem_range.2 hi)
/-- What Lean reckons of a region: the tokens are taken and left in an order that the edges keep. (bf: of each operation, those that surely went ahead.) -/
def deps (ops : List Oper) (i : Nat) : List Nat := match ops[i]? with | some o => (o.after.toList.filter (Region.binds .any)).map (·.on) | none => []
def dstOf (ops : List Oper) (i : Nat) : Option Nat := (ops[i]?).bind (·.dst)
def okD (ops : List Oper) (T : List Tok) (D : List Dat) (ini fin : List Nat) (bf : List (List Nat)) : Bool :=
  let N := ops.length
  let d := fun i => D.getD i ddum
  let b := fun i => bf.getD i []
  allI N (fun i => (deps ops i).all fun j => Nat.blt j i) &&
  allI N (fun i => (b i).all fun j => (deps ops i).any fun q => Nat.beq j q || has (b q) j) &&
  allI N (fun i => (d i).pre.all fun t => (has ini t || (b i).any fun m => has (d m).mt t) && allI N fun j => Nat.beq j i || !has (d j).kl t || has (b j) i) &&
  allI N (fun i => (d i).mt.all fun t => !has ini t && !has (d i).pre t && allI N fun j => Nat.beq j i || !has (d j).mt t) &&
  allI N (fun i => match dstOf ops i with | none => true | some s => allI T.length fun t => !has (T.getD t tdum).sl s || has (d i).mt t || has (d i).kl t || (!has ini t && allI N fun j => !has (d j).mt t || has (b j) i)) &&
  allI N (fun i => (d i).pre.Nodup && (d i).mt.Nodup && (d i).mt.all (fun t => Nat.blt t T.length) && (d i).pre.all (fun t => Nat.blt t T.length)) &&
  ini.Nodup && ini.all (fun t => Nat.blt t T.length) && fin.Nodup &&
  fin.all (fun t => (has ini t || (List.range N).any fun i => has (d i).mt t) && allI N fun i => !has (d i).kl t)

section
variable {P : Program} {ops : Array Oper}
/-- Ends other than the normal one. -/
theorem Oper.wp_monoX {o : Oper} {a : Act} {w : World} {K : Act → World → Prop} {Q Q' : Exit → Act → World → Prop} (hh : o.wp P a w K Q) (hq : ∀ e a w, e ≠ .normal → Q e a w → Q' e a w) : o.wp P a w K Q' := by
  unfold Oper.wp at *
  generalize (execOp a.eval o).run P w = r at *
  cases r with
  | ok nx w' =>
    cases nx <;> simp only [Oper.upon] at hh ⊢ <;>
      first
        | exact hh
        | exact Calls.mono hh (fun e w'' he => by cases e <;> first | exact he | exact hq _ _ _ (by simp) he | (obtain ⟨a0, w0, h0⟩ := he; exact ⟨a0, w0, hq _ _ _ (by simp) h0⟩))
  | halt x w' => cases x <;> simp only [Oper.upon] at hh ⊢ <;> first | exact hq _ _ _ (by simp) hh | exact hh
theorem Oper.wp_put {o : Oper} {a : Act} {w : World} {K : Act → World → Prop} {Q : Exit → Act → World → Prop} (hh : o.wp P a w K Q) : o.wp P a w (fun a' w' => K a' w' ∧ ∀ t, o.dst ≠ some t → a'.tmps[t]? = a.tmps[t]?) Q := by
  have hput : ∀ (b : Act) (v : Value) (t : Nat), b.tmps = a.tmps → o.dst ≠ some t → (b.put o.dst v).tmps[t]? = a.tmps[t]? := by
    intro b v t hb ht
    cases hd : o.dst with
    | none => simp [Act.put, hb]
    | some d =>
      have : d ≠ t := fun e => ht (by rw [hd, e])
      simp [Act.put, hb, Array.getElem?_setIfInBounds_ne this]
  unfold Oper.wp at *
  generalize (execOp a.eval o).run P w = r at *
  cases r with
  | ok nx w' =>
    cases nx <;> simp only [Oper.upon] at hh ⊢
    case value v => exact ⟨hh, fun t ht => hput a v t rfl ht⟩
    case skip => exact ⟨hh, fun t ht => hput a _ t rfl ht⟩
    case defer d => exact ⟨hh, fun t ht => hput _ _ t rfl ht⟩
    case enter f args => exact Calls.mono hh (fun e w'' he => by cases e <;> first | exact ⟨he, fun t ht => hput a _ t rfl ht⟩ | exact he)
    case row r as => exact Rows.mono hh (fun v w'' he => ⟨he, fun t ht => hput a v t rfl ht⟩)
  | halt x w' => cases x <;> simp only [Oper.upon] at hh ⊢ <;> exact hh

/-- What holds while some have been carried out. -/
def Alive (D : List Dat) (ini : List Nat) (ls : Array Bool) (t : Nat) : Prop :=
  (t ∈ ini ∨ ∃ i, ls[i]? = some true ∧ t ∈ (D.getD i ddum).mt) ∧ ∀ i, ls[i]? = some true → t ∉ (D.getD i ddum).kl
def Inv (ops : List Oper) (T : List Tok) (D : List Dat) (ini : List Nat) (n : Nat) (w0 : World) (ls : Array Bool) (a : Act) (w : World) : Prop :=
  ls.size = ops.length ∧ (∀ i, ls[i]? = some true → ∀ j ∈ deps ops i, ls[j]? = some true) ∧ a.tmps.size = n ∧ a.defers = [] ∧ Keep w0 w ∧
    ∃ L : List Nat, L.Nodup ∧ (∀ t, t ∈ L ↔ Alive D ini ls t) ∧ Sat w (toks T L a.tmps)
theorem toks_perm {T : List Tok} {L L' : List Nat} {x : Array Value} {w : World} (h : Sat w (toks T L x)) (p : L.Perm L') : Sat w (toks T L' x) := h.perm (p.map _)
theorem toks_append (T : List Tok) (L L' : List Nat) (x : Array Value) : toks T (L ++ L') x = toks T L x ++ toks T L' x := by simp [toks]
theorem toks_stable {T : List Tok} {x y : Array Value} {w : World} : ∀ (L : List Nat) (A : List HProp), (∀ i ∈ L, ∀ t ∈ (T.getD i tdum).sl, y[t]? = x[t]?) → Sat w (A ++ toks T L x) → Sat w (A ++ toks T L y)
  | [], _, _, h => h
  | i :: L, A, hx, h => by
    have h1 : Sat w ((A ++ [(T.getD i tdum).at x]) ++ toks T L x) := by rw [List.append_assoc]; exact h
    have h2 := toks_stable L _ (fun j hj => hx j (List.mem_cons_of_mem _ hj)) h1
    rw [List.append_assoc] at h2
    obtain ⟨m1, m2, d, s1, s2, hA, n1, n2, e, t1, t2, hi, hr⟩ := (stars_append A _ _).1 h2
    exact (stars_append A _ _).2 ⟨m1, m2, d, s1, s2, hA, n1, n2, e, t1, t2, Tok.stable _ (hx i List.mem_cons_self) hi, hr⟩
theorem nodup_split {L pre : List Nat} (hL : L.Nodup) (hp : pre.Nodup) (hs : ∀ t ∈ pre, t ∈ L) : L.Perm (pre ++ L.filter fun t => !has pre t) := by
  refine (List.perm_ext_iff_of_nodup hL ?_).2 fun t => ?_
  · refine List.nodup_append.2 ⟨hp, hL.filter _, fun a ha b hb e => ?_⟩
    subst e
    have := (List.mem_filter.1 hb).2
    simp [has_iff.2 ha] at this
  · rw [List.mem_append, List.mem_filter]
    constructor
    · intro h
      by_cases hh : t ∈ pre
      · exact .inl hh
      · refine .inr ⟨h, ?_⟩
        cases hb : has pre t with
        | true => exact absurd (has_iff.1 hb) hh
        | false => rfl
    · rintro (h | h)
      · exact hs t h
      · exact h.1
end
theorem Sat.left {w : World} {A B : List HProp} (h : Sat w (A ++ B)) : Sat w A := by
  obtain ⟨m1, m2, d, s1, s2, hA, _⟩ := (stars_append A B _).1 h
  exact stars_mono _ s1 hA
theorem countP_lt {p q : Nat → Bool} : ∀ {R : List Nat}, (∀ i, q i = true → p i = true) → ∀ i ∈ R, p i = true → q i = false → R.countP q < R.countP p
  | [], _, _, h, _, _ => by simp at h
  | j :: R, hpq, i, hi, hp, hq => by
    have hle : R.countP q ≤ R.countP p := List.countP_mono_left fun x _ hx => hpq x hx
    simp only [List.countP_cons]
    rcases List.mem_cons.1 hi with rfl | hi
    · rw [if_pos hp, if_neg (by simp [hq])]; omega
    · have := countP_lt hpq i hi hp hq
      by_cases h1 : q j = true
      · rw [if_pos h1, if_pos (hpq j h1)]; omega
      · rw [if_neg h1]; split <;> omega
theorem mem_deps {l : List Oper} {i j : Nat} : j ∈ deps l i ↔ ∃ o, l[i]? = some o ∧ ∃ e ∈ o.after.toList, Region.binds .any e = true ∧ e.on = j := by
  unfold deps
  cases h : l[i]? with
  | none => simp
  | some o => simp [List.mem_map, List.mem_filter, and_assoc]
section
variable {P : Program} {f : FuncId} {n : Nat} {R : Ending → World → Prop} {w0 : World} {k : List Item} {ρ : Env} {H : List HProp} {l : List Oper} {T : List Tok} {D : List Dat} {ini fin : List Nat} {bf : List (List Nat)}
theorem ready_iff {ls : Array Bool} (_hs : ls.size = l.length) {i : Nat} : i ∈ Region.ready .any l.toArray ls ↔ i < l.length ∧ ls[i]? = some false ∧ ∀ j ∈ deps l i, ls[j]? = some true := by
  have hget : ∀ j (b : Bool), ls.getD j b = true ↔ (ls[j]? = some true ∨ (ls[j]? = none ∧ b = true)) := by
    intro j b
    rw [Array.getD_eq_getD_getElem?]
    cases h : ls[j]? <;> simp
  unfold Region.ready
  rw [List.mem_filter, List.mem_range]
  simp only [List.size_toArray]
  constructor
  · rintro ⟨hi, h⟩
    have ho : l[i]? = some l[i] := List.getElem?_eq_getElem hi
    simp only [List.getElem?_toArray, ho, Option.map_some, Option.getD_some, Bool.and_eq_true, Bool.not_eq_true'] at h
    obtain ⟨h1, h2⟩ := h
    refine ⟨hi, ?_, fun j hj => ?_⟩
    · rw [Array.getD_eq_getD_getElem?] at h1
      cases hl : ls[i]? with
      | none => simp [hl] at h1
      | some b => simp [hl] at h1; rw [h1]
    · obtain ⟨o, ho', e, he, hb, rfl⟩ := mem_deps.1 hj
      rw [ho] at ho'; injection ho' with ho'; subst ho'
      have := Array.all_eq_true'.1 h2 e (Array.mem_toList_iff.1 he)
      simp only [hb, Bool.not_true, Bool.false_or] at this
      rcases (hget _ _).1 this with h | h
      · exact h
      · cases h.2
  · rintro ⟨hi, h1, h2⟩
    have ho : l[i]? = some l[i] := List.getElem?_eq_getElem hi
    refine ⟨hi, ?_⟩
    simp only [List.getElem?_toArray, ho, Option.map_some, Option.getD_some, Bool.and_eq_true, Bool.not_eq_true']
    refine ⟨by rw [Array.getD_eq_getD_getElem?, h1]; rfl, Array.all_eq_true'.2 fun e he => ?_⟩
    cases hb : Region.binds .any e with
    | false => rfl
    | true =>
      have := h2 e.on (mem_deps.2 ⟨_, ho, e, Array.mem_toList_iff.2 he, hb, rfl⟩)
      simp only [Bool.not_true, Bool.false_or]
      exact (hget _ _).2 (.inl this)
theorem S.draw {rid : Nat} (hm : P.follows .mixedOrders = true) (hok : okD l T D ini fin bf = true) (hini : ∀ x w, EnvOk x ρ → Sat w H → postQ T (fun ρ' H' => EnvAll x ρ' ∧ Sat w (H' ++ [])) ini [] [])
    (hsp : Specs P l.toArray T n w0 l D) (hfin : preQ T (fun ρ' H' => S P f n R w0 k ρ' H') fin [] []) : S P f n R w0 (.code (.region rid l.toArray true) :: k) ρ H := by
  simp only [okD, Bool.and_eq_true] at hok
  obtain ⟨⟨⟨⟨⟨⟨⟨⟨⟨c1, c2⟩, c3⟩, c4⟩, c5⟩, c6⟩, c7⟩, c8⟩, c9⟩, c10⟩ := hok
  have e1 : ∀ i, ∀ j ∈ deps l i, j < i := fun i j hj => by
    have hi : i < l.length := by
      obtain ⟨o, ho, _⟩ := mem_deps.1 hj
      rcases Nat.lt_or_ge i l.length with h | h
      · exact h
      · simp [List.getElem?_eq_none h] at ho
    simpa using List.all_eq_true.1 (allI_spec c1 hi) j hj
  -- what surely went ahead
  have e2 : ∀ (ls : Array Bool), (∀ i, ls[i]? = some true → ∀ j ∈ deps l i, ls[j]? = some true) → ∀ i, i < l.length → (∀ j ∈ deps l i, ls[j]? = some true) → ∀ j ∈ bf.getD i [], ls[j]? = some true := by
    intro ls hd i
    induction i using Nat.strongRecOn with
    | _ i ih =>
      intro hi hdi j hj
      obtain ⟨q, hq, hb⟩ := List.any_eq_true.1 (List.all_eq_true.1 (allI_spec c2 hi) j hj)
      have hql := e1 i q hq
      rcases Bool.or_eq_true _ _ ▸ hb with h | h
      · have : j = q := Nat.eq_of_beq_eq_true h
        rw [this]; exact hdi q hq
      · exact ih q hql (by omega) (hd q (hdi q hq)) j (has_iff.1 h)
  have e3 : ∀ i, i < l.length → ∀ t ∈ (D.getD i ddum).pre, (t ∈ ini ∨ ∃ m ∈ bf.getD i [], t ∈ (D.getD m ddum).mt) ∧ ∀ j, j < l.length → j ≠ i → t ∈ (D.getD j ddum).kl → i ∈ bf.getD j [] := by
    intro i hi t ht
    have := List.all_eq_true.1 (allI_spec c3 hi) t ht
    simp only [Bool.and_eq_true, Bool.or_eq_true] at this
    obtain ⟨h1, h2⟩ := this
    refine ⟨h1.imp has_iff.1 fun h => ?_, fun j hj hne hk => ?_⟩
    · obtain ⟨m, hm, h⟩ := List.any_eq_true.1 h
      exact ⟨m, hm, has_iff.1 h⟩
    · have := allI_spec h2 hj
      simp only [Bool.or_eq_true, Bool.not_eq_true'] at this
      rcases this with (h | h) | h
      · exact absurd (Nat.eq_of_beq_eq_true h) hne
      · rw [has_iff.2 hk] at h; cases h
      · exact has_iff.1 h
  have e4 : ∀ i, i < l.length → ∀ t ∈ (D.getD i ddum).mt, t ∉ ini ∧ t ∉ (D.getD i ddum).pre ∧ ∀ j, j < l.length → j ≠ i → t ∉ (D.getD j ddum).mt := by
    intro i hi t ht
    have := List.all_eq_true.1 (allI_spec c4 hi) t ht
    simp only [Bool.and_eq_true, Bool.not_eq_true'] at this
    obtain ⟨⟨h1, h2⟩, h3⟩ := this
    refine ⟨fun h => (by rw [has_iff.2 h] at h1; cases h1), fun h => (by rw [has_iff.2 h] at h2; cases h2), fun j hj hne h => ?_⟩
    have := allI_spec h3 hj
    simp only [Bool.or_eq_true, Bool.not_eq_true'] at this
    rcases this with h4 | h4
    · exact hne (Nat.eq_of_beq_eq_true h4)
    · rw [has_iff.2 h] at h4; cases h4
  have e5 : ∀ i, i < l.length → ∀ s, dstOf l i = some s → ∀ t, t < T.length → s ∈ (T.getD t tdum).sl → t ∈ (D.getD i ddum).mt ∨ t ∈ (D.getD i ddum).kl ∨ (t ∉ ini ∧ ∀ j, j < l.length → t ∈ (D.getD j ddum).mt → i ∈ bf.getD j []) := by
    intro i hi s hs t ht hst
    have := allI_spec c5 hi
    simp only [hs] at this
    have := allI_spec this ht
    simp only [Bool.or_eq_true, Bool.not_eq_true', Bool.and_eq_true] at this
    rcases this with ((h | h) | h) | ⟨h, h'⟩
    · rw [has_iff.2 hst] at h; cases h
    · exact .inl (has_iff.1 h)
    · exact .inr (.inl (has_iff.1 h))
    · refine .inr (.inr ⟨fun h9 => (by rw [has_iff.2 h9] at h; cases h), fun j hj hm => ?_⟩)
      have := allI_spec h' hj
      simp only [Bool.or_eq_true, Bool.not_eq_true'] at this
      rcases this with h | h
      · rw [has_iff.2 hm] at h; cases h
      · exact has_iff.1 h
  have e6 : ∀ i, i < l.length → (D.getD i ddum).pre.Nodup ∧ (D.getD i ddum).mt.Nodup ∧ ∀ t ∈ (D.getD i ddum).mt, t < T.length := by
    intro i hi
    have := allI_spec c6 hi
    simp only [Bool.and_eq_true, decide_eq_true_eq] at this
    exact ⟨this.1.1.1, this.1.1.2, fun t ht => by simpa using List.all_eq_true.1 this.1.2 t ht⟩
  have e7 : ini.Nodup := by simpa using c7
  have e8 : ∀ t ∈ ini, t < T.length := fun t ht => by simpa using List.all_eq_true.1 c8 t ht
  have e9 : fin.Nodup := by simpa using c9
  intro a w h1 h2 h3 h4 h5
  refine .of_wp (wp_region_any hm ?_)
  have dlt : ∀ (ls : Array Bool), ls.size = l.length → ∀ i, ls[i]? = some true → i < l.length := fun ls hs i hi => by
    rcases Nat.lt_or_ge i ls.size with h | h
    · omega
    · simp [Array.getElem?_eq_none h] at hi
  have key : ∀ (fuel : Nat) (ls : Array Bool) (a : Act) (w : World), Inv l T D ini n w0 ls a w → (List.range l.length).countP (fun i => ls[i]? == some false) ≤ fuel →
      wpAny P .any l.toArray (fun e a w => e = .normal ∧ Goes P f R k a w) fuel ls a w := by
    have done : ∀ (ls : Array Bool) (a : Act) (w : World), Inv l T D ini n w0 ls a w → (∀ i, i < l.length → ls[i]? = some true) → Goes P f R k a w := by
      rintro ls a w ⟨hs, _, g1, g2, g3, L, hL, hmem, hsat⟩ hall
      have hsub : ∀ t ∈ fin, t ∈ L := fun t ht => by
        rw [hmem]
        have := List.all_eq_true.1 c10 t ht
        simp only [Bool.and_eq_true, Bool.or_eq_true] at this
        refine ⟨this.1.imp has_iff.1 fun h => ?_, fun i hi hk => ?_⟩
        · obtain ⟨i, hi, h⟩ := List.any_eq_true.1 h
          exact ⟨i, hall i (List.mem_range.1 hi), has_iff.1 h⟩
        · have := allI_spec this.2 (dlt ls hs i hi)
          rw [has_iff.2 hk] at this; cases this
      have := toks_perm hsat (nodup_split hL e9 hsub)
      rw [toks_append] at this
      obtain ⟨ρ', H', he, hs', hS⟩ := toks_pre fin [] [] [] (fun p hp => by simp at hp) (by simpa using this.left) hfin
      exact hS a w g1 he.ok g2 (by simpa using hs') g3
    have allrdy : ∀ (ls : Array Bool), ls.size = l.length → Region.ready .any l.toArray ls = [] → ∀ i, i < l.length → ls[i]? = some true := by
      intro ls hs hr i
      induction i using Nat.strongRecOn with
      | _ i ih =>
        intro hi
        have hget : ls[i]? = some ls[i] := Array.getElem?_eq_getElem (by omega)
        cases hb : ls[i] with
        | true => rw [hget, hb]
        | false =>
          have : i ∈ Region.ready .any l.toArray ls := (ready_iff hs).2 ⟨hi, by rw [hget, hb], fun j hj => ih j (e1 i j hj) (by have := e1 i j hj; omega)⟩
          rw [hr] at this; cases this
    intro fuel
    induction fuel with
    | zero =>
      intro ls a w hI hc
      have hs := hI.1
      have hall : ∀ i, i < l.length → ls[i]? = some true := fun i hi => by
        have h0 := List.countP_eq_zero.1 (Nat.le_zero.1 hc) i (List.mem_range.2 hi)
        have hget : ls[i]? = some ls[i] := Array.getElem?_eq_getElem (by omega)
        cases hb : ls[i] with
        | true => rw [hget, hb]
        | false => rw [hget, hb] at h0; simp at h0
      refine ⟨?_, rfl, done ls a w hI hall⟩
      rw [List.eq_nil_iff_forall_not_mem]
      intro i hi
      obtain ⟨hlt, hf, _⟩ := (ready_iff hs).1 hi
      rw [hall i hlt] at hf; cases hf
    | succ fuel ih =>
      intro ls a w hI hc
      refine ⟨fun hr => ⟨rfl, done ls a w hI (allrdy ls hI.1 hr)⟩, fun i hi => ?_⟩
      obtain ⟨hs, hdown, g1, g2, g3, L, hL, hmem, hsat⟩ := hI
      obtain ⟨hlt, hf, hdep⟩ := (ready_iff hs).1 hi
      have hbf := e2 ls hdown i hlt hdep
      have ho : l[i]? = some l[i] := List.getElem?_eq_getElem hlt
      -- what it takes lies there
      have hpre : ∀ t ∈ (D.getD i ddum).pre, t ∈ L := fun t ht => by
        obtain ⟨p1, p2⟩ := e3 i hlt t ht
        rw [hmem]
        refine ⟨p1.imp id fun ⟨m, hm, h⟩ => ⟨m, hbf m hm, h⟩, fun j hj hk => ?_⟩
        have hjl := dlt ls hs j hj
        have hne : j ≠ i := fun e => by subst e; rw [hf] at hj; cases hj
        have := e2 ls hdown j hjl (hdown j hj) i (p2 j hjl hne hk)
        rw [hf] at this; cases this
      have hperm := nodup_split hL (e6 i hlt).1 hpre
      have hsat2 := toks_perm hsat hperm
      rw [toks_append] at hsat2
      obtain ⟨ρ', H', he, hs', hSO⟩ := toks_pre (D.getD i ddum).pre [] [] [stars (toks T (L.filter fun t => !has (D.getD i ddum).pre t) a.tmps)] (fun p hp => by simp at hp)
        (by simpa using hsat2.pack) (Specs.get hsp i _ ho (stars (toks T (L.filter fun t => !has (D.getD i ddum).pre t) a.tmps)))
      have hw := hSO a w g1 he.ok g2 hs' g3
      have hoa : (l.toArray)[i]? = some l[i] := by simpa using ho
      unfold wpOp
      simp only [hoa]
      -- the next state
      have next : ∀ (a' : Act) (w' : World), PZ T (D.getD i ddum) n w0 (stars (toks T (L.filter fun t => !has (D.getD i ddum).pre t) a.tmps)) a' w' → (∀ t, l[i].dst ≠ some t → a'.tmps[t]? = a.tmps[t]?) →
          wpAny P .any l.toArray (fun e a w => e = .normal ∧ Goes P f R k a w) fuel (ls.setIfInBounds i true) a' w' := by
        rintro a' w' ⟨q1, q2, q3, q4⟩ hput
        have hset : ∀ j, (ls.setIfInBounds i true)[j]? = if j = i then some true else ls[j]? := fun j => by
          by_cases e : j = i
          · subst e; rw [if_pos rfl, Array.getElem?_setIfInBounds_self_of_lt (by omega)]
          · rw [if_neg e, Array.getElem?_setIfInBounds_ne (Ne.symm e)]
        refine ih _ a' w' ⟨by simpa using hs, fun j hj q hq => ?_, q1, q2, q3, (D.getD i ddum).post ++ L.filter (fun t => !has (D.getD i ddum).pre t), ?_, fun t => ?_, ?_⟩ ?_
        · rw [hset]
          split
          · rfl
          · rw [hset] at hj
            split at hj
            · rename_i e; subst e; exact hdep q hq
            · exact hdown j hj q hq
        · have n6 := e6 i hlt
          have hrd : (D.getD i ddum).rd.Nodup := (List.nodup_append.1 n6.1).1
          refine List.nodup_append.2 ⟨List.nodup_append.2 ⟨hrd, n6.2.1, fun x hx y hy e => ?_⟩, hL.filter _, fun x hx y hy e => ?_⟩
          · subst e; exact (e4 i hlt x hy).2.1 (List.mem_append_left _ hx)
          · subst e
            obtain ⟨hy1, hy2⟩ := List.mem_filter.1 hy
            rcases List.mem_append.1 hx with hx | hx
            · rw [has_iff.2 (show x ∈ (D.getD i ddum).pre from List.mem_append_left _ hx)] at hy2; cases hy2
            · have p4 := e4 i hlt x hx
              rcases ((hmem x).1 hy1).1 with h | ⟨j, hj, h⟩
              · exact p4.1 h
              · exact p4.2.2 j (dlt ls hs j hj) (fun e => by subst e; rw [hf] at hj; cases hj) h
        · constructor
          · intro ht
            rcases List.mem_append.1 ht with ht | ht
            · rcases List.mem_append.1 ht with ht | ht
              · have hA := (hmem t).1 (hpre t (List.mem_append_left _ ht))
                refine ⟨hA.1.imp id fun ⟨j, hj, h⟩ => ⟨j, by rw [hset]; split; rfl; exact hj, h⟩, fun j hj hk => ?_⟩
                rw [hset] at hj
                split at hj
                · rename_i e; subst e
                  exact (List.nodup_append.1 (e6 j hlt).1).2.2 t ht t hk rfl
                · exact hA.2 j hj hk
              · have p4 := e4 i hlt t ht
                refine ⟨.inr ⟨i, by rw [hset, if_pos rfl], ht⟩, fun j hj hk => ?_⟩
                rw [hset] at hj
                split at hj
                · rename_i e; subst e; exact p4.2.1 (List.mem_append_right _ hk)
                · have hjl := dlt ls hs j hj
                  obtain ⟨p1, _⟩ := e3 j hjl t (List.mem_append_right _ hk)
                  rcases p1 with h | ⟨m, hm, h⟩
                  · exact p4.1 h
                  · have hml := e2 ls hdown j hjl (hdown j hj) m hm
                    exact p4.2.2 m (dlt ls hs m hml) (fun e => by subst e; rw [hf] at hml; cases hml) h
            · obtain ⟨ht1, ht2⟩ := List.mem_filter.1 ht
              have hA := (hmem t).1 ht1
              refine ⟨hA.1.imp id fun ⟨j, hj, h⟩ => ⟨j, by rw [hset]; split; rfl; exact hj, h⟩, fun j hj hk => ?_⟩
              rw [hset] at hj
              split at hj
              · rename_i e; rw [e] at hk; rw [has_iff.2 (show t ∈ (D.getD i ddum).pre from List.mem_append_right _ hk)] at ht2; cases ht2
              · exact hA.2 j hj hk
          · rintro ⟨ha, hk⟩
            have hki := hk i (by rw [hset, if_pos rfl])
            by_cases hmt : t ∈ (D.getD i ddum).mt
            · exact List.mem_append_left _ (List.mem_append_right _ hmt)
            · have hal : t ∈ L := by
                rw [hmem]
                refine ⟨ha.imp id fun ⟨j, hj, h⟩ => ⟨j, ?_, h⟩, fun j hj => hk j (by rw [hset]; split; rfl; exact hj)⟩
                rw [hset] at hj
                split at hj
                · rename_i e; subst e; exact absurd h hmt
                · exact hj
              by_cases hrd : t ∈ (D.getD i ddum).rd
              · exact List.mem_append_left _ (List.mem_append_left _ hrd)
              · refine List.mem_append_right _ (List.mem_filter.2 ⟨hal, ?_⟩)
                cases hb : has (D.getD i ddum).pre t with
                | false => rfl
                | true =>
                  rcases List.mem_append.1 (has_iff.1 hb) with h | h
                  · exact absurd h hrd
                  · exact absurd h hki
        · have := (toks_post (D.getD i ddum).post [] [] [stars (toks T (L.filter fun t => !has (D.getD i ddum).pre t) a.tmps)] q4).2
          rw [toks_append]
          refine toks_stable _ _ (fun t ht s hst => hput s fun hd => ?_) (by simpa using this.unpack)
          obtain ⟨ht1, ht2⟩ := List.mem_filter.1 ht
          have hdst : dstOf l i = some s := by simp [dstOf, ho, hd]
          have htl : t < T.length := by
            rcases ((hmem t).1 ht1).1 with h | ⟨j, hj, h⟩
            · exact e8 t h
            · exact (e6 j (dlt ls hs j hj)).2.2 t h
          rcases e5 i hlt s hdst t htl hst with h | h | ⟨h, h'⟩
          · have p4 := e4 i hlt t h
            rcases ((hmem t).1 ht1).1 with h' | ⟨j, hj, h'⟩
            · exact p4.1 h'
            · exact p4.2.2 j (dlt ls hs j hj) (fun e => by subst e; rw [hf] at hj; cases hj) h'
          · rw [has_iff.2 (show t ∈ (D.getD i ddum).pre from List.mem_append_right _ h)] at ht2; cases ht2
          · rcases ((hmem t).1 ht1).1 with h9 | ⟨j, hj, h9⟩
            · exact h h9
            · have hjl := dlt ls hs j hj
              have := e2 ls hdown j hjl (hdown j hj) i (h' j hjl h9)
              rw [hf] at this; cases this
        · have hlt2 : (List.range l.length).countP (fun j => (ls.setIfInBounds i true)[j]? == some false) < (List.range l.length).countP (fun j => ls[j]? == some false) := by
            refine countP_lt (fun j hj => ?_) i (List.mem_range.2 hlt) (by simp [hf]) (by rw [hset, if_pos rfl]; rfl)
            rw [hset] at hj
            split at hj
            · cases hj
            · exact hj
          omega
      unfold wpList at hw
      split
      · rename_i hwant
        rw [if_pos hwant] at hw
        rcases hw with hw | ⟨hasks, _, _, hbad, _⟩
        · refine .inl ?_
          refine Oper.wp_monoX (Oper.wp_mono (fun a' w' h => next a' w' h.1.2 h.2) (Oper.wp_put hw)) fun e a w he h => absurd h.1 he
        · cases hbad
      · rename_i hwant
        rw [if_neg hwant] at hw
        refine next _ _ hw.2 fun t ht => ?_
        cases hd : l[i].dst with
        | none => simp [Act.put]
        | some d =>
          have : d ≠ t := fun e => ht (by rw [hd, e])
          simp [Act.put, Array.getElem?_setIfInBounds_ne this]
  have hrep : ∀ (i : Nat), (Array.replicate l.toArray.size false)[i]? ≠ some true := fun i h => by
    rw [Array.getElem?_replicate] at h
    split at h <;> simp at h
  refine key _ _ a _ ⟨by simp, fun i hi => absurd hi (hrep i), h1, h3, ⟨h5.os, h5.tape, h5.output, h5.size⟩, ini, e7, fun t => ?_, ?_⟩ ?_
  · constructor
    · intro ht
      exact ⟨.inl ht, fun i hi => absurd hi (hrep i)⟩
    · rintro ⟨h | ⟨i, hi, _⟩, _⟩
      · exact h
      · exact absurd hi (hrep i)
  · have := (toks_post ini [] [] [] (hini a.tmps w h2 h4)).2
    have h9 : Sat w (toks T ini a.tmps) := by simpa using this
    exact h9
  · exact Nat.le_trans List.countP_le_length (by simp)
/-- The same, the end told at length. -/
theorem S.draw' {Z : (Env → List HProp → Prop) → Prop} {rid : Nat} (hm : P.follows .mixedOrders = true) (hok : okD l T D ini fin bf = true) (hini : ∀ x w, EnvOk x ρ → Sat w H → postQ T (fun ρ' H' => EnvAll x ρ' ∧ Sat w (H' ++ [])) ini [] [])
    (hE : ∀ Q, preQ T Q fin [] [] = Z Q) (hsp : Specs P l.toArray T n w0 l D) (hfin : Z (fun ρ' H' => S P f n R w0 k ρ' H')) : S P f n R w0 (.code (.region rid l.toArray true) :: k) ρ H :=
  S.draw hm hok hini hsp (by rw [hE]; exact hfin)

end
theorem EnvAll.nil (x : Array Value) : EnvAll x [] := fun p hp => by cases hp
end Go.Sl
