/- The resource logic, parts SlDraw, SlRich, SlDel, SlNil, SlMap, SlRange, SlKeys, SlMapO. On no condition. -/
import Derived.Test.YtmhopcicgnnbeaaGreatDoorFr0
import Derived.MapKept
import Derived.Carry
import Derived.Shelf.SlIterI.Sorted
set_option linter.all false
namespace Go.Sl
/-! ### Regions that draw their order: what each operation takes and leaves, token by token -/
/-- Some slots, and some resources, that go together: they stand for one g of G. -/
structure Tok where
  G : Type
  sl : List Nat
  env : G → Env
  H : G → List HProp
  ok : ∀ g, (env g).map (·.1) = sl
def EnvAll (x : Array Value) (ρ : Env) : Prop := ∀ p ∈ ρ, x[p.1]? = some p.2
def Tok.at (T : Tok) (x : Array Value) : HProp := fun m => ∃ g, EnvAll x (T.env g) ∧ stars (T.H g) m
theorem Tok.stable (T : Tok) {x y : Array Value} {m : PH} (h : ∀ t ∈ T.sl, y[t]? = x[t]?) (k : T.at x m) : T.at y m := by
  obtain ⟨g, h1, h2⟩ := k
  refine ⟨g, fun p hp => ?_, h2⟩
  rw [h p.1 (by rw [← T.ok g]; exact List.mem_map_of_mem hp)]
  exact h1 p hp
/-- One slot. -/
def tS (t : Nat) (v : Value) : Tok := ⟨Unit, [t], fun _ => [(t, v)], fun _ => [], fun _ => rfl⟩
/-- One resource. -/
def tR (A : HProp) : Tok := ⟨Unit, [], fun _ => [], fun _ => [A], fun _ => rfl⟩
/-- A slot and a resource that hang on one thing. -/
def tG (G : Type) (t : Nat) (v : G → Value) (A : G → HProp) : Tok := ⟨G, [t], fun g => [(t, v g)], fun g => [A g], fun _ => rfl⟩
/-- Slots that nobody touches. -/
def tE (ρ : Env) : Tok := ⟨Unit, ρ.map (·.1), fun _ => ρ, fun _ => [], fun _ => rfl⟩
structure Dat where
  rd : List Nat
  kl : List Nat
  mt : List Nat
def Dat.pre (d : Dat) : List Nat := d.rd ++ d.kl
def Dat.post (d : Dat) : List Nat := d.rd ++ d.mt
def tdum : Tok := tS 0 undef
def ddum : Dat := ⟨[], [], []⟩
def toks (T : List Tok) (L : List Nat) (x : Array Value) : List HProp := L.map fun i => (T.getD i tdum).at x
def preQ (T : List Tok) (body : Env → List HProp → Prop) : List Nat → Env → List HProp → Prop
  | [], ρ, H => body ρ H
  | i :: L, ρ, H => ∀ g, preQ T body L (ρ ++ (T.getD i tdum).env g) (H ++ (T.getD i tdum).H g)
def postQ (T : List Tok) (body : Env → List HProp → Prop) : List Nat → Env → List HProp → Prop
  | [], ρ, H => body ρ H
  | i :: L, ρ, H => ∃ g, postQ T body L (ρ ++ (T.getD i tdum).env g) (H ++ (T.getD i tdum).H g)
theorem postQ.cons {T : List Tok} {body : Env → List HProp → Prop} {i : Nat} {L : List Nat} {ρ : Env} {H : List HProp} (g : (T.getD i tdum).G) (h : postQ T body L (ρ ++ (T.getD i tdum).env g) (H ++ (T.getD i tdum).H g)) : postQ T body (i :: L) ρ H := ⟨g, h⟩
theorem postQ.nil {T : List Tok} {body : Env → List HProp → Prop} {ρ : Env} {H : List HProp} (h : body ρ H) : postQ T body [] ρ H := h
theorem EnvAll.append {x : Array Value} {a b : Env} (h : EnvAll x a) (k : EnvAll x b) : EnvAll x (a ++ b) := fun p hp => by
  rcases List.mem_append.1 hp with h1 | h1
  · exact h p h1
  · exact k p h1
theorem EnvAll.ok {x : Array Value} : ∀ {ρ : Env}, EnvAll x ρ → EnvOk x ρ := fun h t v e => h (t, v) (look_mem e)
theorem EnvAll.of {x : Array Value} {ρ ρ' : Env} (h : EnvOk x ρ) (f : fitl ρ ρ') : EnvAll x ρ' := fun p hp => h p.1 p.2 (Fit.of f p hp)
theorem toks_pre {T : List Tok} {body : Env → List HProp → Prop} {x : Array Value} {w : World} : ∀ (L : List Nat) (ρ : Env) (H Fr : List HProp), EnvAll x ρ → Sat w (H ++ (toks T L x ++ Fr)) → preQ T body L ρ H → ∃ ρ' H', EnvAll x ρ' ∧ Sat w (H' ++ Fr) ∧ body ρ' H'
  | [], ρ, H, Fr, he, hs, hb => ⟨ρ, H, he, hs, hb⟩
  | i :: L, ρ, H, Fr, he, hs, hb => by
    obtain ⟨m1, m2, d, s1, s2, hH, n1, n2, e, t1, t2, ⟨g, hg1, hg2⟩, hr⟩ := (stars_append H _ _).1 hs
    refine toks_pre L (ρ ++ (T.getD i tdum).env g) (H ++ (T.getD i tdum).H g) Fr (he.append hg1) ?_ (hb g)
    rw [List.append_assoc]
    exact (stars_append _ _ _).2 ⟨m1, m2, d, s1, s2, hH, (stars_append _ _ _).2 ⟨n1, n2, e, t1, t2, hg2, hr⟩⟩
theorem toks_post {T : List Tok} {x : Array Value} {w : World} : ∀ (L : List Nat) (ρ : Env) (H Fr : List HProp), postQ T (fun ρ H => EnvAll x ρ ∧ Sat w (H ++ Fr)) L ρ H → EnvAll x ρ ∧ Sat w (H ++ (toks T L x ++ Fr))
  | [], ρ, H, Fr, h => h
  | i :: L, ρ, H, Fr, ⟨g, h⟩ => by
    obtain ⟨h1, h2⟩ := toks_post L _ _ Fr h
    refine ⟨fun p hp => h1 p (List.mem_append_left _ hp), ?_⟩
    rw [List.append_assoc] at h2
    obtain ⟨m1, m2, d, s1, s2, hH, hr⟩ := (stars_append H _ _).1 h2
    obtain ⟨n1, n2, e, t1, t2, hg, hr⟩ := (stars_append _ _ _).1 hr
    exact (stars_append _ _ _).2 ⟨m1, m2, d, s1, s2, hH, n1, n2, e, t1, t2, ⟨g, fun p hp => h1 p (List.mem_append_right _ hp), hg⟩, hr⟩

/-- What an operation has to leave. -/
def PZ (T : List Tok) (d : Dat) (n : Nat) (w0 : Beg) (Fr : HProp) (a : Act) (w : World) : Prop :=
  a.tmps.size = n ∧ a.defers = w0.ds ∧ Keep w0.w w ∧ postQ T (fun ρ H => EnvAll a.tmps ρ ∧ Sat w (H ++ [Fr])) d.post [] []
theorem PZ.of {T : List Tok} {d : Dat} {n : Nat} {w0 : Beg} {Fr : HProp} {a : Act} {w : World} (h1 : a.tmps.size = n) (h3 : a.defers = w0.ds) (h5 : Keep w0.w w) (h : postQ T (fun ρ H => EnvAll a.tmps ρ ∧ Sat w (H ++ [Fr])) d.post [] []) : PZ T d n w0 Fr a w := ⟨h1, h3, h5, h⟩
def OpSp (P : Program) (ops : Array Oper) (T : List Tok) (d : Dat) (n : Nat) (w0 : Beg) (o : Oper) : Prop :=
  ∀ Fr, preQ T (fun ρ H => SO P n (PZ T d n w0 Fr) w0 ops [o] ρ (H ++ [Fr])) d.pre [] []
def Specs (P : Program) (ops : Array Oper) (T : List Tok) (n : Nat) (w0 : Beg) : List Oper → List Dat → Prop
  | o :: l, d :: D => OpSp P ops T d n w0 o ∧ Specs P ops T n w0 l D
  | [], [] => True
  | _, _ => False
theorem Specs.get {P : Program} {ops : Array Oper} {T : List Tok} {n : Nat} {w0 : Beg} : ∀ {l : List Oper} {D : List Dat}, Specs P ops T n w0 l D → ∀ i o, l[i]? = some o → OpSp P ops T (D.getD i ddum) n w0 o
  | [], _, _, i, o, h => by simp at h
  | o :: l, [], hs, _, _, _ => by simp [Specs] at hs
  | o :: l, d :: D, ⟨h1, h2⟩, 0, o', h => by simp at h; subst h; exact h1
  | o :: l, d :: D, ⟨h1, h2⟩, i + 1, o', h => by simp only [List.getElem?_cons_succ] at h; simpa using Specs.get h2 i o' h

def has (l : List Nat) (x : Nat) : Bool := l.any (Nat.beq x)
theorem has_iff {l : List Nat} {x : Nat} : has l x = true ↔ x ∈ l := by
  unfold has
  rw [List.any_eq_true]
  constructor
  · rintro ⟨y, hy, he⟩; rw [Nat.eq_of_beq_eq_true he]; exact hy
  · intro h; exact ⟨x, h, by simp⟩
def allI (n : Nat) (f : Nat → Bool) : Bool := (List.range n).all f
theorem allI_spec {n : Nat} {f : Nat → Bool} (h : allI n f = true) {i : Nat} (hi : i < n) : f i = true := List.all_eq_true.1 h i (List.mem_range.2 hi)
/-- What Lean reckons of a region: the tokens are taken and left in an order that the edges keep. (bf: of each operation, those that surely went ahead.) -/
def deps (ops : List Oper) (i : Nat) : List Nat := match ops[i]? with | some o => (o.after.toList.filter (Region.binds .any)).map (·.on) | none => []
def dstOf (ops : List Oper) (i : Nat) : Option Nat := (ops[i]?).bind (·.dst)
def okD (ops : List Oper) (T : List Tok) (D : List Dat) (ini fin : List Nat) (bf : List (List Nat)) : Bool :=
  let N := ops.length
  let d := fun i => D.getD i ddum
  let b := fun i => bf.getD i []
  allI N (fun i => (deps ops i).all fun j => Nat.blt j i) &&
  allI N (fun i => (b i).all fun j => (deps ops i).any fun q => Nat.beq j q || has (b q) j) &&
  allI N (fun i => (d i).pre.all fun t => (has ini t || (b i).any fun m => has (d m).mt t) && allI N fun j => Nat.beq j i || !has (d j).kl t || has (b j) i) &&
  allI N (fun i => (d i).mt.all fun t => !has ini t && !has (d i).pre t && allI N fun j => Nat.beq j i || !has (d j).mt t) &&
  allI N (fun i => match dstOf ops i with | none => true | some s => allI T.length fun t => !has (T.getD t tdum).sl s || has (d i).mt t || has (d i).kl t || (!has ini t && allI N fun j => !has (d j).mt t || has (b j) i)) &&
  allI N (fun i => (d i).pre.Nodup && (d i).mt.Nodup && (d i).mt.all (fun t => Nat.blt t T.length) && (d i).pre.all (fun t => Nat.blt t T.length)) &&
  ini.Nodup && ini.all (fun t => Nat.blt t T.length) && fin.Nodup &&
  fin.all (fun t => (has ini t || (List.range N).any fun i => has (d i).mt t) && allI N fun i => !has (d i).kl t)

section
variable {P : Program} {ops : Array Oper}
/-- Ends other than the normal one. -/
theorem Oper.wp_monoX {o : Oper} {a : Act} {w : World} {K : Act → World → Prop} {Q Q' : Exit → Act → World → Prop} (hh : o.wp P a w K Q) (hq : ∀ e a w, e ≠ .normal → Q e a w → Q' e a w) : o.wp P a w K Q' := by
  unfold Oper.wp at *
  generalize (execOp a.eval o).run P w = r at *
  cases r with
  | ok nx w' =>
    cases nx <;> simp only [Oper.upon] at hh ⊢ <;>
      first
        | exact hh
        | exact Calls.mono hh (fun e w'' he => by cases e <;> first | exact he | exact hq _ _ _ (by simp) he | (obtain ⟨a0, w0, h0⟩ := he; exact ⟨a0, w0, hq _ _ _ (by simp) h0⟩))
  | halt x w' => cases x <;> simp only [Oper.upon] at hh ⊢ <;> first | exact hq _ _ _ (by simp) hh | exact hh
theorem Oper.wp_put {o : Oper} {a : Act} {w : World} {K : Act → World → Prop} {Q : Exit → Act → World → Prop} (hh : o.wp P a w K Q) : o.wp P a w (fun a' w' => K a' w' ∧ ∀ t, o.dst ≠ some t → a'.tmps[t]? = a.tmps[t]?) Q := by
  have hput : ∀ (b : Act) (v : Value) (t : Nat), b.tmps = a.tmps → o.dst ≠ some t → (b.put o.dst v).tmps[t]? = a.tmps[t]? := by
    intro b v t hb ht
    cases hd : o.dst with
    | none => simp [Act.put, hb]
    | some d =>
      have : d ≠ t := fun e => ht (by rw [hd, e])
      simp [Act.put, hb, Array.getElem?_setIfInBounds_ne this]
  unfold Oper.wp at *
  generalize (execOp a.eval o).run P w = r at *
  cases r with
  | ok nx w' =>
    cases nx <;> simp only [Oper.upon] at hh ⊢
    case value v => exact ⟨hh, fun t ht => hput a v t rfl ht⟩
    case skip => exact ⟨hh, fun t ht => hput a _ t rfl ht⟩
    case defer d => exact ⟨hh, fun t ht => hput _ _ t rfl ht⟩
    case enter f args => exact Calls.mono hh (fun e w'' he => by cases e <;> first | exact ⟨he, fun t ht => hput a _ t rfl ht⟩ | exact he)
    case row r avs => exact Rows.mono hh (fun v w'' he => ⟨he, fun t ht => hput a v t rfl ht⟩)
  | halt x w' => cases x <;> simp only [Oper.upon] at hh ⊢ <;> exact hh

/-- What holds while some have been carried out. -/
def Alive (D : List Dat) (ini : List Nat) (ls : Array Bool) (t : Nat) : Prop :=
  (t ∈ ini ∨ ∃ i, ls[i]? = some true ∧ t ∈ (D.getD i ddum).mt) ∧ ∀ i, ls[i]? = some true → t ∉ (D.getD i ddum).kl
def Inv (ops : List Oper) (T : List Tok) (D : List Dat) (ini : List Nat) (n : Nat) (w0 : Beg) (ls : Array Bool) (a : Act) (w : World) : Prop :=
  ls.size = ops.length ∧ (∀ i, ls[i]? = some true → ∀ j ∈ deps ops i, ls[j]? = some true) ∧ a.tmps.size = n ∧ a.defers = w0.ds ∧ Keep w0.w w ∧
    ∃ L : List Nat, L.Nodup ∧ (∀ t, t ∈ L ↔ Alive D ini ls t) ∧ Sat w (toks T L a.tmps)
theorem toks_perm {T : List Tok} {L L' : List Nat} {x : Array Value} {w : World} (h : Sat w (toks T L x)) (p : L.Perm L') : Sat w (toks T L' x) := h.perm (p.map _)
theorem toks_append (T : List Tok) (L L' : List Nat) (x : Array Value) : toks T (L ++ L') x = toks T L x ++ toks T L' x := by simp [toks]
theorem toks_stable {T : List Tok} {x y : Array Value} {w : World} : ∀ (L : List Nat) (A : List HProp), (∀ i ∈ L, ∀ t ∈ (T.getD i tdum).sl, y[t]? = x[t]?) → Sat w (A ++ toks T L x) → Sat w (A ++ toks T L y)
  | [], _, _, h => h
  | i :: L, A, hx, h => by
    have h1 : Sat w ((A ++ [(T.getD i tdum).at x]) ++ toks T L x) := by rw [List.append_assoc]; exact h
    have h2 := toks_stable L _ (fun j hj => hx j (List.mem_cons_of_mem _ hj)) h1
    rw [List.append_assoc] at h2
    obtain ⟨m1, m2, d, s1, s2, hA, n1, n2, e, t1, t2, hi, hr⟩ := (stars_append A _ _).1 h2
    exact (stars_append A _ _).2 ⟨m1, m2, d, s1, s2, hA, n1, n2, e, t1, t2, Tok.stable _ (hx i List.mem_cons_self) hi, hr⟩
theorem nodup_split {L pre : List Nat} (hL : L.Nodup) (hp : pre.Nodup) (hs : ∀ t ∈ pre, t ∈ L) : L.Perm (pre ++ L.filter fun t => !has pre t) := by
  refine (List.perm_ext_iff_of_nodup hL ?_).2 fun t => ?_
  · refine List.nodup_append.2 ⟨hp, hL.filter _, fun a ha b hb e => ?_⟩
    subst e
    have := (List.mem_filter.1 hb).2
    simp [has_iff.2 ha] at this
  · rw [List.mem_append, List.mem_filter]
    constructor
    · intro h
      by_cases hh : t ∈ pre
      · exact .inl hh
      · refine .inr ⟨h, ?_⟩
        cases hb : has pre t with
        | true => exact absurd (has_iff.1 hb) hh
        | false => rfl
    · rintro (h | h)
      · exact hs t h
      · exact h.1
end
theorem Sat.left {w : World} {A B : List HProp} (h : Sat w (A ++ B)) : Sat w A := by
  obtain ⟨m1, m2, d, s1, s2, hA, _⟩ := (stars_append A B _).1 h
  exact stars_mono _ s1 hA
theorem countP_lt {p q : Nat → Bool} : ∀ {R : List Nat}, (∀ i, q i = true → p i = true) → ∀ i ∈ R, p i = true → q i = false → R.countP q < R.countP p
  | [], _, _, h, _, _ => by simp at h
  | j :: R, hpq, i, hi, hp, hq => by
    have hle : R.countP q ≤ R.countP p := List.countP_mono_left fun x _ hx => hpq x hx
    simp only [List.countP_cons]
    rcases List.mem_cons.1 hi with rfl | hi
    · rw [if_pos hp, if_neg (by simp [hq])]; omega
    · have := countP_lt hpq i hi hp hq
      by_cases h1 : q j = true
      · rw [if_pos h1, if_pos (hpq j h1)]; omega
      · rw [if_neg h1]; split <;> omega
theorem mem_deps {l : List Oper} {i j : Nat} : j ∈ deps l i ↔ ∃ o, l[i]? = some o ∧ ∃ e ∈ o.after.toList, Region.binds .any e = true ∧ e.on = j := by
  unfold deps
  cases h : l[i]? with
  | none => simp
  | some o => simp [List.mem_map, List.mem_filter, and_assoc]
section
variable {P : Program} {f : FuncId} {n : Nat} {R : Ending → World → Prop} {w0 : Beg} {k : List Item} {ρ : Env} {H : List HProp} {l : List Oper} {T : List Tok} {D : List Dat} {ini fin : List Nat} {bf : List (List Nat)}
theorem ready_iff {ls : Array Bool} (_hs : ls.size = l.length) {i : Nat} : i ∈ Region.ready .any l.toArray ls ↔ i < l.length ∧ ls[i]? = some false ∧ ∀ j ∈ deps l i, ls[j]? = some true := by
  have hget : ∀ j (b : Bool), ls.getD j b = true ↔ (ls[j]? = some true ∨ (ls[j]? = none ∧ b = true)) := by
    intro j b
    rw [Array.getD_eq_getD_getElem?]
    cases h : ls[j]? <;> simp
  unfold Region.ready
  rw [List.mem_filter, List.mem_range]
  simp only [List.size_toArray]
  constructor
  · rintro ⟨hi, h⟩
    have ho : l[i]? = some l[i] := List.getElem?_eq_getElem hi
    simp only [List.getElem?_toArray, ho, Option.map_some, Option.getD_some, Bool.and_eq_true, Bool.not_eq_true'] at h
    obtain ⟨h1, h2⟩ := h
    refine ⟨hi, ?_, fun j hj => ?_⟩
    · rw [Array.getD_eq_getD_getElem?] at h1
      cases hl : ls[i]? with
      | none => simp [hl] at h1
      | some b => simp [hl] at h1; rw [h1]
    · obtain ⟨o, ho', e, he, hb, rfl⟩ := mem_deps.1 hj
      rw [ho] at ho'; injection ho' with ho'; subst ho'
      have := Array.all_eq_true'.1 h2 e (Array.mem_toList_iff.1 he)
      simp only [hb, Bool.not_true, Bool.false_or] at this
      rcases (hget _ _).1 this with h | h
      · exact h
      · cases h.2
  · rintro ⟨hi, h1, h2⟩
    have ho : l[i]? = some l[i] := List.getElem?_eq_getElem hi
    refine ⟨hi, ?_⟩
    simp only [List.getElem?_toArray, ho, Option.map_some, Option.getD_some, Bool.and_eq_true, Bool.not_eq_true']
    refine ⟨by rw [Array.getD_eq_getD_getElem?, h1]; rfl, Array.all_eq_true'.2 fun e he => ?_⟩
    cases hb : Region.binds .any e with
    | false => rfl
    | true =>
      have := h2 e.on (mem_deps.2 ⟨_, ho, e, Array.mem_toList_iff.2 he, hb, rfl⟩)
      simp only [Bool.not_true, Bool.false_or]
      exact (hget _ _).2 (.inl this)
theorem S.draw {rid : Nat} (hm : P.follows .mixedOrders = true) (hok : okD l T D ini fin bf = true) (hini : ∀ x w, EnvOk x ρ → Sat w H → postQ T (fun ρ' H' => EnvAll x ρ' ∧ Sat w (H' ++ [])) ini [] [])
    (hsp : Specs P l.toArray T n w0 l D) (hfin : preQ T (fun ρ' H' => S P f n R w0 k ρ' H') fin [] []) (hu : w0.rd = none := by rfl) : S P f n R w0 (.code (.region rid l.toArray true) :: k) ρ H := by
  have hro : w0.ro = none := by unfold Beg.ro; rw [hu]; rfl
  simp only [okD, Bool.and_eq_true] at hok
  obtain ⟨⟨⟨⟨⟨⟨⟨⟨⟨c1, c2⟩, c3⟩, c4⟩, c5⟩, c6⟩, c7⟩, c8⟩, c9⟩, c10⟩ := hok
  have e1 : ∀ i, ∀ j ∈ deps l i, j < i := fun i j hj => by
    have hi : i < l.length := by
      obtain ⟨o, ho, _⟩ := mem_deps.1 hj
      rcases Nat.lt_or_ge i l.length with h | h
      · exact h
      · simp [List.getElem?_eq_none h] at ho
    simpa using List.all_eq_true.1 (allI_spec c1 hi) j hj
  -- what surely went ahead
  have e2 : ∀ (ls : Array Bool), (∀ i, ls[i]? = some true → ∀ j ∈ deps l i, ls[j]? = some true) → ∀ i, i < l.length → (∀ j ∈ deps l i, ls[j]? = some true) → ∀ j ∈ bf.getD i [], ls[j]? = some true := by
    intro ls hd i
    induction i using Nat.strongRecOn with
    | _ i ih =>
      intro hi hdi j hj
      obtain ⟨q, hq, hb⟩ := List.any_eq_true.1 (List.all_eq_true.1 (allI_spec c2 hi) j hj)
      have hql := e1 i q hq
      rcases Bool.or_eq_true _ _ ▸ hb with h | h
      · have : j = q := Nat.eq_of_beq_eq_true h
        rw [this]; exact hdi q hq
      · exact ih q hql (by omega) (hd q (hdi q hq)) j (has_iff.1 h)
  have e3 : ∀ i, i < l.length → ∀ t ∈ (D.getD i ddum).pre, (t ∈ ini ∨ ∃ m ∈ bf.getD i [], t ∈ (D.getD m ddum).mt) ∧ ∀ j, j < l.length → j ≠ i → t ∈ (D.getD j ddum).kl → i ∈ bf.getD j [] := by
    intro i hi t ht
    have := List.all_eq_true.1 (allI_spec c3 hi) t ht
    simp only [Bool.and_eq_true, Bool.or_eq_true] at this
    obtain ⟨h1, h2⟩ := this
    refine ⟨h1.imp has_iff.1 fun h => ?_, fun j hj hne hk => ?_⟩
    · obtain ⟨m, hm, h⟩ := List.any_eq_true.1 h
      exact ⟨m, hm, has_iff.1 h⟩
    · have := allI_spec h2 hj
      simp only [Bool.or_eq_true, Bool.not_eq_true'] at this
      rcases this with (h | h) | h
      · exact absurd (Nat.eq_of_beq_eq_true h) hne
      · rw [has_iff.2 hk] at h; cases h
      · exact has_iff.1 h
  have e4 : ∀ i, i < l.length → ∀ t ∈ (D.getD i ddum).mt, t ∉ ini ∧ t ∉ (D.getD i ddum).pre ∧ ∀ j, j < l.length → j ≠ i → t ∉ (D.getD j ddum).mt := by
    intro i hi t ht
    have := List.all_eq_true.1 (allI_spec c4 hi) t ht
    simp only [Bool.and_eq_true, Bool.not_eq_true'] at this
    obtain ⟨⟨h1, h2⟩, h3⟩ := this
    refine ⟨fun h => (by rw [has_iff.2 h] at h1; cases h1), fun h => (by rw [has_iff.2 h] at h2; cases h2), fun j hj hne h => ?_⟩
    have := allI_spec h3 hj
    simp only [Bool.or_eq_true, Bool.not_eq_true'] at this
    rcases this with h4 | h4
    · exact hne (Nat.eq_of_beq_eq_true h4)
    · rw [has_iff.2 h] at h4; cases h4
  have e5 : ∀ i, i < l.length → ∀ s, dstOf l i = some s → ∀ t, t < T.length → s ∈ (T.getD t tdum).sl → t ∈ (D.getD i ddum).mt ∨ t ∈ (D.getD i ddum).kl ∨ (t ∉ ini ∧ ∀ j, j < l.length → t ∈ (D.getD j ddum).mt → i ∈ bf.getD j []) := by
    intro i hi s hs t ht hst
    have := allI_spec c5 hi
    simp only [hs] at this
    have := allI_spec this ht
    simp only [Bool.or_eq_true, Bool.not_eq_true', Bool.and_eq_true] at this
    rcases this with ((h | h) | h) | ⟨h, h'⟩
    · rw [has_iff.2 hst] at h; cases h
    · exact .inl (has_iff.1 h)
    · exact .inr (.inl (has_iff.1 h))
    · refine .inr (.inr ⟨fun h9 => (by rw [has_iff.2 h9] at h; cases h), fun j hj hm => ?_⟩)
      have := allI_spec h' hj
      simp only [Bool.or_eq_true, Bool.not_eq_true'] at this
      rcases this with h | h
      · rw [has_iff.2 hm] at h; cases h
      · exact has_iff.1 h
  have e6 : ∀ i, i < l.length → (D.getD i ddum).pre.Nodup ∧ (D.getD i ddum).mt.Nodup ∧ ∀ t ∈ (D.getD i ddum).mt, t < T.length := by
    intro i hi
    have := allI_spec c6 hi
    simp only [Bool.and_eq_true, decide_eq_true_eq] at this
    exact ⟨this.1.1.1, this.1.1.2, fun t ht => by simpa using List.all_eq_true.1 this.1.2 t ht⟩
  have e7 : ini.Nodup := by simpa using c7
  have e8 : ∀ t ∈ ini, t < T.length := fun t ht => by simpa using List.all_eq_true.1 c8 t ht
  have e9 : fin.Nodup := by simpa using c9
  intro a w h1 h2 h3 h4 h5
  rw [hro]
  refine .of_wp (wp_region_any hm ?_)
  have dlt : ∀ (ls : Array Bool), ls.size = l.length → ∀ i, ls[i]? = some true → i < l.length := fun ls hs i hi => by
    rcases Nat.lt_or_ge i ls.size with h | h
    · omega
    · simp [Array.getElem?_eq_none h] at hi
  have key : ∀ (fuel : Nat) (ls : Array Bool) (a : Act) (w : World), Inv l T D ini n w0 ls a w → (List.range l.length).countP (fun i => ls[i]? == some false) ≤ fuel →
      wpAny P .any l.toArray (fun e a w => e = .normal ∧ Goes P f none R k a w) fuel ls a w := by
    have done : ∀ (ls : Array Bool) (a : Act) (w : World), Inv l T D ini n w0 ls a w → (∀ i, i < l.length → ls[i]? = some true) → Goes P f none R k a w := by
      rintro ls a w ⟨hs, _, g1, g2, g3, L, hL, hmem, hsat⟩ hall
      have hsub : ∀ t ∈ fin, t ∈ L := fun t ht => by
        rw [hmem]
        have := List.all_eq_true.1 c10 t ht
        simp only [Bool.and_eq_true, Bool.or_eq_true] at this
        refine ⟨this.1.imp has_iff.1 fun h => ?_, fun i hi hk => ?_⟩
        · obtain ⟨i, hi, h⟩ := List.any_eq_true.1 h
          exact ⟨i, hall i (List.mem_range.1 hi), has_iff.1 h⟩
        · have := allI_spec this.2 (dlt ls hs i hi)
          rw [has_iff.2 hk] at this; cases this
      have := toks_perm hsat (nodup_split hL e9 hsub)
      rw [toks_append] at this
      obtain ⟨ρ', H', he, hs', hS⟩ := toks_pre fin [] [] [] (fun p hp => by simp at hp) (by simpa using this.left) hfin
      have hS2 := hS a w g1 he.ok g2 (by simpa using hs') g3
      rwa [hro] at hS2
    have allrdy : ∀ (ls : Array Bool), ls.size = l.length → Region.ready .any l.toArray ls = [] → ∀ i, i < l.length → ls[i]? = some true := by
      intro ls hs hr i
      induction i using Nat.strongRecOn with
      | _ i ih =>
        intro hi
        have hget : ls[i]? = some ls[i] := Array.getElem?_eq_getElem (by omega)
        cases hb : ls[i] with
        | true => rw [hget, hb]
        | false =>
          have : i ∈ Region.ready .any l.toArray ls := (ready_iff hs).2 ⟨hi, by rw [hget, hb], fun j hj => ih j (e1 i j hj) (by have := e1 i j hj; omega)⟩
          rw [hr] at this; cases this
    intro fuel
    induction fuel with
    | zero =>
      intro ls a w hI hc
      have hs := hI.1
      have hall : ∀ i, i < l.length → ls[i]? = some true := fun i hi => by
        have h0 := List.countP_eq_zero.1 (Nat.le_zero.1 hc) i (List.mem_range.2 hi)
        have hget : ls[i]? = some ls[i] := Array.getElem?_eq_getElem (by omega)
        cases hb : ls[i] with
        | true => rw [hget, hb]
        | false => rw [hget, hb] at h0; simp at h0
      refine ⟨?_, rfl, done ls a w hI hall⟩
      rw [List.eq_nil_iff_forall_not_mem]
      intro i hi
      obtain ⟨hlt, hf, _⟩ := (ready_iff hs).1 hi
      rw [hall i hlt] at hf; cases hf
    | succ fuel ih =>
      intro ls a w hI hc
      refine ⟨fun hr => ⟨rfl, done ls a w hI (allrdy ls hI.1 hr)⟩, fun i hi => ?_⟩
      obtain ⟨hs, hdown, g1, g2, g3, L, hL, hmem, hsat⟩ := hI
      obtain ⟨hlt, hf, hdep⟩ := (ready_iff hs).1 hi
      have hbf := e2 ls hdown i hlt hdep
      have ho : l[i]? = some l[i] := List.getElem?_eq_getElem hlt
      -- what it takes lies there
      have hpre : ∀ t ∈ (D.getD i ddum).pre, t ∈ L := fun t ht => by
        obtain ⟨p1, p2⟩ := e3 i hlt t ht
        rw [hmem]
        refine ⟨p1.imp id fun ⟨m, hm, h⟩ => ⟨m, hbf m hm, h⟩, fun j hj hk => ?_⟩
        have hjl := dlt ls hs j hj
        have hne : j ≠ i := fun e => by subst e; rw [hf] at hj; cases hj
        have := e2 ls hdown j hjl (hdown j hj) i (p2 j hjl hne hk)
        rw [hf] at this; cases this
      have hperm := nodup_split hL (e6 i hlt).1 hpre
      have hsat2 := toks_perm hsat hperm
      rw [toks_append] at hsat2
      obtain ⟨ρ', H', he, hs', hSO⟩ := toks_pre (D.getD i ddum).pre [] [] [stars (toks T (L.filter fun t => !has (D.getD i ddum).pre t) a.tmps)] (fun p hp => by simp at hp)
        (by simpa using hsat2.pack) (Specs.get hsp i _ ho (stars (toks T (L.filter fun t => !has (D.getD i ddum).pre t) a.tmps)))
      have hw := hSO a w g1 he.ok g2 hs' g3
      have hoa : (l.toArray)[i]? = some l[i] := by simpa using ho
      unfold wpOp
      simp only [hoa]
      -- the next state
      have next : ∀ (a' : Act) (w' : World), PZ T (D.getD i ddum) n w0 (stars (toks T (L.filter fun t => !has (D.getD i ddum).pre t) a.tmps)) a' w' → (∀ t, l[i].dst ≠ some t → a'.tmps[t]? = a.tmps[t]?) →
          wpAny P .any l.toArray (fun e a w => e = .normal ∧ Goes P f none R k a w) fuel (ls.setIfInBounds i true) a' w' := by
        rintro a' w' ⟨q1, q2, q3, q4⟩ hput
        have hset : ∀ j, (ls.setIfInBounds i true)[j]? = if j = i then some true else ls[j]? := fun j => by
          by_cases e : j = i
          · subst e; rw [if_pos rfl, Array.getElem?_setIfInBounds_self_of_lt (by omega)]
          · rw [if_neg e, Array.getElem?_setIfInBounds_ne (Ne.symm e)]
        refine ih _ a' w' ⟨by simpa using hs, fun j hj q hq => ?_, q1, q2, q3, (D.getD i ddum).post ++ L.filter (fun t => !has (D.getD i ddum).pre t), ?_, fun t => ?_, ?_⟩ ?_
        · rw [hset]
          split
          · rfl
          · rw [hset] at hj
            split at hj
            · rename_i e; subst e; exact hdep q hq
            · exact hdown j hj q hq
        · have n6 := e6 i hlt
          have hrd : (D.getD i ddum).rd.Nodup := (List.nodup_append.1 n6.1).1
          refine List.nodup_append.2 ⟨List.nodup_append.2 ⟨hrd, n6.2.1, fun x hx y hy e => ?_⟩, hL.filter _, fun x hx y hy e => ?_⟩
          · subst e; exact (e4 i hlt x hy).2.1 (List.mem_append_left _ hx)
          · subst e
            obtain ⟨hy1, hy2⟩ := List.mem_filter.1 hy
            rcases List.mem_append.1 hx with hx | hx
            · rw [has_iff.2 (show x ∈ (D.getD i ddum).pre from List.mem_append_left _ hx)] at hy2; cases hy2
            · have p4 := e4 i hlt x hx
              rcases ((hmem x).1 hy1).1 with h | ⟨j, hj, h⟩
              · exact p4.1 h
              · exact p4.2.2 j (dlt ls hs j hj) (fun e => by subst e; rw [hf] at hj; cases hj) h
        · constructor
          · intro ht
            rcases List.mem_append.1 ht with ht | ht
            · rcases List.mem_append.1 ht with ht | ht
              · have hA := (hmem t).1 (hpre t (List.mem_append_left _ ht))
                refine ⟨hA.1.imp id fun ⟨j, hj, h⟩ => ⟨j, by rw [hset]; split; rfl; exact hj, h⟩, fun j hj hk => ?_⟩
                rw [hset] at hj
                split at hj
                · rename_i e; subst e
                  exact (List.nodup_append.1 (e6 j hlt).1).2.2 t ht t hk rfl
                · exact hA.2 j hj hk
              · have p4 := e4 i hlt t ht
                refine ⟨.inr ⟨i, by rw [hset, if_pos rfl], ht⟩, fun j hj hk => ?_⟩
                rw [hset] at hj
                split at hj
                · rename_i e; subst e; exact p4.2.1 (List.mem_append_right _ hk)
                · have hjl := dlt ls hs j hj
                  obtain ⟨p1, _⟩ := e3 j hjl t (List.mem_append_right _ hk)
                  rcases p1 with h | ⟨m, hm, h⟩
                  · exact p4.1 h
                  · have hml := e2 ls hdown j hjl (hdown j hj) m hm
                    exact p4.2.2 m (dlt ls hs m hml) (fun e => by subst e; rw [hf] at hml; cases hml) h
            · obtain ⟨ht1, ht2⟩ := List.mem_filter.1 ht
              have hA := (hmem t).1 ht1
              refine ⟨hA.1.imp id fun ⟨j, hj, h⟩ => ⟨j, by rw [hset]; split; rfl; exact hj, h⟩, fun j hj hk => ?_⟩
              rw [hset] at hj
              split at hj
              · rename_i e; rw [e] at hk; rw [has_iff.2 (show t ∈ (D.getD i ddum).pre from List.mem_append_right _ hk)] at ht2; cases ht2
              · exact hA.2 j hj hk
          · rintro ⟨ha, hk⟩
            have hki := hk i (by rw [hset, if_pos rfl])
            by_cases hmt : t ∈ (D.getD i ddum).mt
            · exact List.mem_append_left _ (List.mem_append_right _ hmt)
            · have hal : t ∈ L := by
                rw [hmem]
                refine ⟨ha.imp id fun ⟨j, hj, h⟩ => ⟨j, ?_, h⟩, fun j hj => hk j (by rw [hset]; split; rfl; exact hj)⟩
                rw [hset] at hj
                split at hj
                · rename_i e; subst e; exact absurd h hmt
                · exact hj
              by_cases hrd : t ∈ (D.getD i ddum).rd
              · exact List.mem_append_left _ (List.mem_append_left _ hrd)
              · refine List.mem_append_right _ (List.mem_filter.2 ⟨hal, ?_⟩)
                cases hb : has (D.getD i ddum).pre t with
                | false => rfl
                | true =>
                  rcases List.mem_append.1 (has_iff.1 hb) with h | h
                  · exact absurd h hrd
                  · exact absurd h hki
        · have := (toks_post (D.getD i ddum).post [] [] [stars (toks T (L.filter fun t => !has (D.getD i ddum).pre t) a.tmps)] q4).2
          rw [toks_append]
          refine toks_stable _ _ (fun t ht s hst => hput s fun hd => ?_) (by simpa using this.unpack)
          obtain ⟨ht1, ht2⟩ := List.mem_filter.1 ht
          have hdst : dstOf l i = some s := by simp [dstOf, ho, hd]
          have htl : t < T.length := by
            rcases ((hmem t).1 ht1).1 with h | ⟨j, hj, h⟩
            · exact e8 t h
            · exact (e6 j (dlt ls hs j hj)).2.2 t h
          rcases e5 i hlt s hdst t htl hst with h | h | ⟨h, h'⟩
          · have p4 := e4 i hlt t h
            rcases ((hmem t).1 ht1).1 with h' | ⟨j, hj, h'⟩
            · exact p4.1 h'
            · exact p4.2.2 j (dlt ls hs j hj) (fun e => by subst e; rw [hf] at hj; cases hj) h'
          · rw [has_iff.2 (show t ∈ (D.getD i ddum).pre from List.mem_append_right _ h)] at ht2; cases ht2
          · rcases ((hmem t).1 ht1).1 with h9 | ⟨j, hj, h9⟩
            · exact h h9
            · have hjl := dlt ls hs j hj
              have := e2 ls hdown j hjl (hdown j hj) i (h' j hjl h9)
              rw [hf] at this; cases this
        · have hlt2 : (List.range l.length).countP (fun j => (ls.setIfInBounds i true)[j]? == some false) < (List.range l.length).countP (fun j => ls[j]? == some false) := by
            refine countP_lt (fun j hj => ?_) i (List.mem_range.2 hlt) (by simp [hf]) (by rw [hset, if_pos rfl]; rfl)
            rw [hset] at hj
            split at hj
            · cases hj
            · exact hj
          omega
      simp only [wpl, hu] at hw
      unfold wpList at hw
      split
      · rename_i hwant
        rw [if_pos hwant] at hw
        rcases hw with hw | ⟨hasks, _, _, hbad, _⟩
        · refine .inl ?_
          refine Oper.wp_monoX (Oper.wp_mono (fun a' w' h => next a' w' h.1.2 h.2) (Oper.wp_put hw)) fun e a w he h => absurd h.1 he
        · cases hbad
      · rename_i hwant
        rw [if_neg hwant] at hw
        refine next _ _ hw.2 fun t ht => ?_
        cases hd : l[i].dst with
        | none => simp [Act.put]
        | some d =>
          have : d ≠ t := fun e => ht (by rw [hd, e])
          simp [Act.put, Array.getElem?_setIfInBounds_ne this]
  have hrep : ∀ (i : Nat), (Array.replicate l.toArray.size false)[i]? ≠ some true := fun i h => by
    rw [Array.getElem?_replicate] at h
    split at h <;> simp at h
  refine key _ _ a _ ⟨by simp, fun i hi => absurd hi (hrep i), h1, h3, ⟨h5.os, h5.tape, h5.output, h5.size⟩, ini, e7, fun t => ?_, ?_⟩ ?_
  · constructor
    · intro ht
      exact ⟨.inl ht, fun i hi => absurd hi (hrep i)⟩
    · rintro ⟨h | ⟨i, hi, _⟩, _⟩
      · exact h
      · exact absurd hi (hrep i)
  · have := (toks_post ini [] [] [] (hini a.tmps w h2 h4)).2
    have h9 : Sat w (toks T ini a.tmps) := by simpa using this
    exact h9
  · exact Nat.le_trans List.countP_le_length (by simp)
/-- The same, the end told at length. -/
theorem S.draw' {Z : (Env → List HProp → Prop) → Prop} {rid : Nat} (hm : P.follows .mixedOrders = true) (hok : okD l T D ini fin bf = true) (hini : ∀ x w, EnvOk x ρ → Sat w H → postQ T (fun ρ' H' => EnvAll x ρ' ∧ Sat w (H' ++ [])) ini [] [])
    (hE : ∀ Q, preQ T Q fin [] [] = Z Q) (hsp : Specs P l.toArray T n w0 l D) (hfin : Z (fun ρ' H' => S P f n R w0 k ρ' H')) (hu : w0.rd = none := by rfl) : S P f n R w0 (.code (.region rid l.toArray true) :: k) ρ H :=
  S.draw hm hok hini hsp (by rw [hE]; exact hfin) hu

end
theorem EnvAll.nil (x : Array Value) : EnvAll x [] := fun p hp => by cases hp
end Go.Sl
/-! Rows whose elements hold slices of their own: the inner slices are never written, only put. -/
set_option linter.unusedVariables false
namespace Go.Sl
open Go.RowKit

/-- What a cell of an element holds: a value, or a slice of its own. -/
inductive CellP where
  | val (v : Value)
  | sl {β : Type} (K : EK β) (xs : List β)
def CellP.ok (A : HProp) (u : Value) : CellP → Prop
  | .val v => u = v
  | .sl K xs => Rd K u xs A
def cellsOk (A : HProp) : List Value → List CellP → Prop
  | [], [] => True
  | u :: us, p :: ps => p.ok A u ∧ cellsOk A us ps
  | _, _ => False
/-- A' holds all that A holds. -/
def Cov (A' A : HProp) : Prop := ∀ m, A' m → ∃ m', PH.Sub m' m ∧ A m'
theorem Cov.refl (A : HProp) : Cov A A := fun m h => ⟨m, .refl _, h⟩
theorem Cov.head {A : HProp} {l : List HProp} : Cov (stars (A :: l)) A := fun _ ⟨m1, _, _, s1, _, a, _⟩ => ⟨m1, s1, a⟩
theorem Cov.tail {A : HProp} {l : List HProp} : Cov (stars (A :: l)) (stars l) := fun m h => ⟨m, .refl _, stars_drop h⟩
theorem Cov.trans {A B C : HProp} (h : Cov A B) (k : Cov B C) : Cov A C := fun m hm => by
  obtain ⟨m1, s1, h1⟩ := h m hm
  obtain ⟨m2, s2, h2⟩ := k m1 h1
  exact ⟨m2, s2.trans s1, h2⟩
theorem Rd.cov {α : Type} {K : EK α} {v : Value} {xs : List α} {A A' : HProp} (h : Rd K v xs A) (c : Cov A' A) : Rd K v xs A' := by
  obtain ⟨a, cap, hv, h⟩ := h
  refine ⟨a, cap, hv, fun i x hx => ?_⟩
  obtain ⟨b, off, ha, h⟩ := h i x hx
  refine ⟨b, off, ha, fun m hm => ?_⟩
  obtain ⟨m', s, hm'⟩ := c m hm
  obtain ⟨all, E, fr, hb, hc⟩ := h m' hm'
  exact ⟨all, E, fr, s _ _ hb, hc⟩
theorem Rd.nil0 {α : Type} {K : EK α} {A : HProp} : Rd K (.slice none 0 0) ([] : List α) A := ⟨none, 0, ⟨rfl, Nat.le_refl _⟩, fun _ _ h => by simp at h⟩
theorem Rd.one {α : Type} {K : EK α} {v : Value} {xs : List α} {A : HProp} (h : Rd K v xs A) : v.oneCell' = true := by
  obtain ⟨a, cap, ⟨rfl, _⟩, _⟩ := h; rfl
theorem CellP.ok.cov {A A' : HProp} {u : Value} {p : CellP} (h : p.ok A u) (c : Cov A' A) : p.ok A' u := by
  cases p with
  | val v => exact h
  | sl K xs => exact Rd.cov h c
theorem cellsOk.cov {A A' : HProp} (c : Cov A' A) : ∀ {us : List Value} {ps : List CellP}, cellsOk A us ps → cellsOk A' us ps
  | [], [], _ => trivial
  | _ :: _, _ :: _, ⟨h, k⟩ => ⟨h.cov c, cellsOk.cov c k⟩
  | [], _ :: _, h => h.elim
  | _ :: _, [], h => h.elim
theorem cellsOk.length {A : HProp} : ∀ {us : List Value} {ps : List CellP}, cellsOk A us ps → us.length = ps.length
  | [], [], _ => rfl
  | _ :: _, _ :: _, ⟨_, k⟩ => by simp [cellsOk.length k]
  | [], _ :: _, h => h.elim
  | _ :: _, [], h => h.elim
theorem cellsOk.get {A : HProp} : ∀ {us : List Value} {ps : List CellP}, cellsOk A us ps → ∀ {j : Nat} {p : CellP}, ps[j]? = some p → ∃ u, us[j]? = some u ∧ p.ok A u
  | u :: us, p :: ps, ⟨h, k⟩, 0, q, e => by simp at e; subst e; exact ⟨u, rfl, h⟩
  | u :: us, p :: ps, ⟨h, k⟩, j + 1, q, e => by simp at e; simpa using cellsOk.get k e
  | [], [], _, _, _, e => by simp at e
  | [], _ :: _, h, _, _, _ => h.elim
  | _ :: _, [], h, _, _, _ => h.elim
theorem cellsOk.val {A : HProp} {us : List Value} {ps : List CellP} (h : cellsOk A us ps) {j : Nat} {v : Value} (e : ps[j]? = some (.val v)) : us[j]? = some v := by
  obtain ⟨u, h1, h2⟩ := h.get e
  rw [h1]; congr 1
theorem cellsOk.sl {A : HProp} {us : List Value} {ps : List CellP} (h : cellsOk A us ps) {β : Type} {K : EK β} {xs : List β} (j : Nat) (e : ps[j]? = some (.sl K xs)) : ∃ u, us[j]? = some u ∧ Rd K u xs A := h.get e
theorem cellsOk.set {A : HProp} : ∀ {us : List Value} {ps : List CellP}, cellsOk A us ps → ∀ {j : Nat} {u : Value} {p : CellP}, p.ok A u → cellsOk A (us.set j u) (ps.set j p)
  | u :: us, p :: ps, ⟨h, k⟩, 0, _, _, e => ⟨e, k⟩
  | u :: us, p :: ps, ⟨h, k⟩, j + 1, _, _, e => ⟨h, cellsOk.set k e⟩
  | [], [], _, _, _, _, _ => trivial
  | [], _ :: _, h, _, _, _, _ => h.elim
  | _ :: _, [], h, _, _, _, _ => h.elim
/-- For all slices that may lie in these cells. -/
def AllC (A : HProp) : List CellP → (List Value → Prop) → Prop
  | [], Q => Q []
  | .val v :: ps, Q => AllC A ps fun us => Q (v :: us)
  | .sl K xs :: ps, Q => ∀ u, Rd K u xs A → AllC A ps fun us => Q (u :: us)
theorem AllC.of {A : HProp} : ∀ (ps : List CellP) (Q : List Value → Prop) (us : List Value), AllC A ps Q → cellsOk A us ps → Q us
  | [], _, [], h, _ => h
  | .val _ :: ps, Q, _ :: us, h, ⟨e, k⟩ => by cases e; exact AllC.of ps (fun us => Q (_ :: us)) us h k
  | .sl _ _ :: ps, Q, u :: us, h, ⟨e, k⟩ => AllC.of ps (fun us => Q (u :: us)) us (h u e) k
  | [], _, _ :: _, _, h => h.elim
  | _ :: _, _, [], _, h => h.elim
theorem cellsOk.rip {A : HProp} {us : List Value} {ps : List CellP} {G : Prop} (h : cellsOk A us ps) (k : AllC A ps fun l => us = l → G) : G := AllC.of ps _ us k h rfl

/-- How an element lies in cells, some of which are slices. -/
structure EKR (α : Type) where
  sz : Nat
  pat : α → List CellP
  len : ∀ x, (pat x).length = sz
  one : ∀ x v, CellP.val v ∈ pat x → v.oneCell' = true
  pos : 0 < sz
/-- So many cells. -/
abbrev Raw (n : Nat) := {l : List Value // l.length = n ∧ ∀ v ∈ l, v.oneCell' = true}
def ekRaw (n : Nat) (h : 0 < n) : EK (Raw n) := ⟨n, fun x => x.1, fun x => x.2.1, fun x => x.2.2, h⟩
abbrev EKR.ek {α : Type} (K : EKR α) : EK (Raw K.sz) := ekRaw K.sz K.pos
/-- Slices as elements. -/
def krS {β : Type} (K : EK β) : EKR (List β) := ⟨1, fun x => [.sl K x], fun _ => rfl, fun _ _ h => by simp at h, by decide⟩
theorem cellsOk.ones {A : HProp} : ∀ {us : List Value} {ps : List CellP}, cellsOk A us ps → (∀ v, CellP.val v ∈ ps → v.oneCell' = true) → ∀ v ∈ us, v.oneCell' = true
  | [], _, _, _ => by simp
  | u :: us, p :: ps, ⟨h, k⟩, h1 => by
    intro v hv
    rcases List.mem_cons.1 hv with rfl | hv
    · cases p with
      | val w => cases h; exact h1 _ List.mem_cons_self
      | sl K xs => exact Rd.one h
    · exact cellsOk.ones k (fun v hv => h1 v (List.mem_cons_of_mem _ hv)) v hv
  | _ :: _, [], h, _ => h.elim
def EKR.raw {α : Type} (K : EKR α) {A : HProp} {us : List Value} {y : α} (h : cellsOk A us (K.pat y)) : Raw K.sz := ⟨us, by rw [h.length, K.len], h.ones (K.one y)⟩
def relR {α : Type} (K : EKR α) (A : HProp) (raws : List (Raw K.sz)) (ys : List α) : Prop :=
  raws.length = ys.length ∧ ∀ (i : Nat) (x : Raw K.sz) (y : α), raws[i]? = some x → ys[i]? = some y → cellsOk A x.1 (K.pat y)
/-- Such a row of one's own, its cells named. -/
def OwnO {α : Type} (E : TypeId) (K : EKR α) (v : Value) (raws : List (Raw K.sz)) (A : HProp) (ys : List α) : HProp := fun m => stars [Own E K.ek v raws, A] m ∧ relR K A raws ys
def OwnR {α : Type} (E : TypeId) (K : EKR α) (v : Value) (ys : List α) : HProp := fun m => ∃ raws A, OwnO E K v raws A ys m
section
variable {α : Type} {K : EKR α} {E : TypeId} {v : Value} {raws : List (Raw K.sz)} {A : HProp} {ys : List α}
theorem relR.cov {A' : HProp} (h : relR K A raws ys) (c : Cov A' A) : relR K A' raws ys := ⟨h.1, fun i x y h1 h2 => (h.2 i x y h1 h2).cov c⟩
theorem relR.at {i : Int} {y : α} (h : relR K A raws ys) (hy : at_ ys i = some y) : ∃ x : Raw K.sz, at_ raws i = some x ∧ cellsOk A x.1 (K.pat y) := by
  obtain ⟨h1, h2, h3⟩ := at_spec hy
  have hl := h.1
  have h4 : raws[i.toNat]? = some (raws[i.toNat]'(by omega)) := List.getElem?_eq_getElem (by omega)
  refine ⟨raws[i.toNat]'(by omega), ?_, h.2 _ _ _ h4 h3⟩
  unfold Go.Sl.at_
  rw [decide_eq_true h1, cond_true, h4]
theorem relR.set {i : Nat} {x : Raw K.sz} {y : α} (h : relR K A raws ys) (hx : cellsOk A x.1 (K.pat y)) : relR K A (raws.set i x) (ys.set i y) := by
  refine ⟨by simp [h.1], fun j a b h1 h2 => ?_⟩
  by_cases e : i = j
  · subst e
    have hl : i < raws.length := by
      rcases Nat.lt_or_ge i raws.length with h' | h'
      · exact h'
      · rw [List.getElem?_eq_none (by simpa using h')] at h1; cases h1
    rw [List.getElem?_set_self hl] at h1
    rw [List.getElem?_set_self (by rw [← h.1]; exact hl)] at h2
    cases h1; cases h2; exact hx
  · rw [List.getElem?_set_ne e] at h1 h2
    exact h.2 j a b h1 h2
theorem OwnO.rdO {m : PH} (h : OwnO E K v raws A ys m) : Rd K.ek v raws (OwnO E K v raws A ys) := by
  obtain ⟨⟨m1, m2, d, s1, s2, a, b⟩, hr⟩ := h
  exact a.rd.cov fun m h => Cov.head m h.1
theorem covP : Cov (OwnO E K v raws A ys) A := fun m h => (Cov.tail.trans (Cov.head (l := []))) m h.1
theorem Rd.pool {β : Type} {K' : EK β} {u : Value} {xs : List β} (h : Rd K' u xs A) : Rd K' u xs (OwnO E K v raws A ys) := h.cov covP
theorem opv_lenO {B : HProp} {P : Program} {ρ : Env} {x : Operand} {tys : Array TypeId} {t e : TypeId} (ht0 : tys[0]? = some t) (ht : P.underlying t = some (.slice e)) (hR : Rd K.ek v raws B) (hr : relR K A raws ys) (hx : ev ρ x = some v) :
    OpV P ρ (.call ⟨.builtin .len, #[x], tys⟩) (.int .i64 ys.length) := by
  rw [← hr.1]; exact opv_lenR ht0 ht hR hx
end
theorem stars_singleton {A : HProp} {m : PH} (h : A m) : stars [A] m := ⟨m, fun _ => none, fun _ => .inr rfl, .refl _, fun _ _ e => by simp at e, h, trivial⟩
/-- Of the first resources: others that hold where these do. -/
theorem Sat.swapN {w : World} {l1 l1' l2 : List HProp} (h : Sat w (l1 ++ l2)) (k : ∀ m, stars l1 m → stars l1' m) : Sat w (l1' ++ l2) := by
  obtain ⟨m1, m2, d, s1, s2, a, b⟩ := (stars_append _ _ _).1 h
  exact (stars_append _ _ _).2 ⟨m1, m2, d, s1, s2, k _ a, b⟩

section
variable {P : Program} {f : FuncId} {n : Nat} {Z : Act → World → Prop} {R : Ending → World → Prop} {w0 : Beg} {k : List Item} {ρ ρ' : Env} {H H' pre rest : List HProp} {ops : Array Oper} {l : List Oper}
variable {α : Type} {K : EKR α} {E : TypeId} {v : Value} {raws : List (Raw K.sz)} {A : HProp} {ys : List α}

theorem sat_open {w : World} (h : Sat w (OwnR E K v ys :: rest)) : ∃ raws A, relR K A raws ys ∧ Rd K.ek v raws (OwnO E K v raws A ys) ∧ Sat w (OwnO E K v raws A ys :: rest) := by
  obtain ⟨m1, m2, d, s1, s2, ⟨raws, A, a⟩, b⟩ := h
  exact ⟨raws, A, a.2, a.rdO, m1, m2, d, s1, s2, a, b⟩
theorem SO.openR (h : ∀ raws A, relR K A raws ys → Rd K.ek v raws (OwnO E K v raws A ys) → SO P n Z w0 ops l ρ (OwnO E K v raws A ys :: rest)) : SO P n Z w0 ops l ρ (OwnR E K v ys :: rest) := by
  intro a w h1 h2 h3 h4 h5
  obtain ⟨raws, A, hr, hR, hs⟩ := sat_open h4
  exact h raws A hr hR a w h1 h2 h3 hs h5
theorem S.openR (h : ∀ raws A, relR K A raws ys → Rd K.ek v raws (OwnO E K v raws A ys) → S P f n R w0 k ρ (OwnO E K v raws A ys :: rest)) : S P f n R w0 k ρ (OwnR E K v ys :: rest) := by
  intro a w h1 h2 h3 h4 h5
  obtain ⟨raws, A, hr, hR, hs⟩ := sat_open h4
  exact h raws A hr hR a w h1 h2 h3 hs h5
theorem SO.closeR (h : SO P n Z w0 ops l ρ (OwnR E K v ys :: rest)) : SO P n Z w0 ops l ρ (OwnO E K v raws A ys :: rest) := h.sat fun _ s => s.weaken fun _ h => ⟨_, _, h⟩
theorem S.closeR (h : S P f n R w0 k ρ (OwnR E K v ys :: rest)) : S P f n R w0 k ρ (OwnO E K v raws A ys :: rest) := h.sat fun _ s => s.weaken fun _ h => ⟨_, _, h⟩
theorem OwnR.nil (m : PH) : OwnR E K (.slice none 0 0) ([] : List α) m := ⟨[], fun _ => True, ⟨fun _ => none, fun _ => none, fun _ => .inl rfl, fun _ _ e => by simp at e, fun _ _ e => by simp at e, Own.nil _ _ _, stars_singleton trivial⟩, rfl, fun _ _ _ h => by simp at h⟩
theorem S.newOwnR (E : TypeId) (K : EKR α) (h : S P f n R w0 k ρ (OwnR E K (.slice none 0 0) ([] : List α) :: H)) : S P f n R w0 k ρ H :=
  h.sat fun w s => show stars (OwnR E K (.slice none 0 0) ([] : List α) :: H) (hp w) from ⟨fun _ => none, hp w, fun _ => .inl rfl, fun _ _ e => by simp at e, .refl _, OwnR.nil _, s⟩
theorem SO.newOwnR (E : TypeId) (K : EKR α) (h : SO P n Z w0 ops l ρ (OwnR E K (.slice none 0 0) ([] : List α) :: H)) : SO P n Z w0 ops l ρ H :=
  h.sat fun w s => show stars (OwnR E K (.slice none 0 0) ([] : List α) :: H) (hp w) from ⟨fun _ => none, hp w, fun _ => .inl rfl, fun _ _ e => by simp at e, .refl _, OwnR.nil _, s⟩
/-- A slice of one's own becomes one that others may hold: it is read only, from here on. -/
theorem SO.freeze {E' : TypeId} {β : Type} {K' : EK β} {u : Value} {xs : List β} (hr : relR K A raws ys)
    (h : ∀ A', Cov A' A → Rd K' u xs A' → relR K A' raws ys → Rd K.ek v raws (OwnO E K v raws A' ys) → SO P n Z w0 ops l ρ (OwnO E K v raws A' ys :: rest)) : SO P n Z w0 ops l ρ (Own E' K' u xs :: OwnO E K v raws A ys :: rest) := by
  intro a w h1 h2 h3 h4 h5
  have h6 : Sat w ([OwnO E K v raws (stars [Own E' K' u xs, A]) ys] ++ rest) := Sat.swapN (l1 := [Own E' K' u xs, OwnO E K v raws A ys]) h4 fun m hm => by
    obtain ⟨m1, m2, d, s1, s2, a, n1, n2, e, t1, t2, ⟨⟨p1, p2, pd, q1, q2, c1, r1, r2, rd, u1, u2, c2, _⟩, hr⟩, _⟩ := hm
    refine stars_singleton ⟨⟨p1, m1.un r1, ?_, q1.trans (t1.trans s2), PH.un_sub s1 (u1.trans (q2.trans (t1.trans s2))), c1, stars_singleton ⟨m1, r1, ?_, PH.sub_un_l _ _, PH.sub_un_r ?_, a, stars_singleton c2⟩⟩, hr.cov (Cov.tail.trans (Cov.head (l := [])))⟩
    · refine PH.Dj.symm (PH.Dj.un ?_ ?_)
      · exact d.sub (.refl _) (q1.trans t1)
      · exact (pd.sub (.refl _) u1).symm
    · exact d.sub (.refl _) (u1.trans (q2.trans t1))
    · exact d.sub (.refl _) (u1.trans (q2.trans t1))
  have hR : Rd K' u xs (stars [Own E' K' u xs, A]) := by
    obtain ⟨m1, _, a⟩ := h4.head
    exact Rd.head a.rd
  have hc : Cov (stars [Own E' K' u xs, A]) A := Cov.tail.trans (Cov.head (l := []))
  obtain ⟨m, _, hm⟩ := h6.head
  exact h _ hc hR (hr.cov hc) hm.rdO a w h1 h2 h3 h6 h5
/-- The same resource, other elements. -/
theorem so_put {raws' : List (Raw K.sz)} {ys' : List α} (hr : relR K A raws' ys') (h : SO P n Z w0 ops l ρ (OwnO E K v raws' A ys' :: rest)) : SO P n Z w0 ops l ρ (Own E K.ek v raws' :: A :: rest) :=
  h.sat fun w s => Sat.swapN (l1 := [Own E K.ek v raws', A]) (l1' := [OwnO E K v raws' A ys']) s fun m hm => stars_singleton ⟨hm, hr⟩
theorem so_take (h : SO P n Z w0 ops l ρ (Own E K.ek v raws :: A :: rest)) : SO P n Z w0 ops l ρ (OwnO E K v raws A ys :: rest) :=
  h.sat fun w s => Sat.swapN (l1 := [OwnO E K v raws A ys]) (l1' := [Own E K.ek v raws, A]) s fun m hm => by
    obtain ⟨m1, m2, d, s1, s2, a, _⟩ := hm
    exact stars_mono _ s1 a.1
theorem SO.storeO1 {t ty m j : Nat} {x y : Operand} {p : String} {af : Array Edge} {u : Value} {q : CellP} {i : Int} {z z' : α} (hz : ∀ w, (sizeOf t).run P w = .ok 1 w) (hr : relR K A raws ys) (hi : at_ ys i = some z) (hx : ev ρ x = some (idxp v m)) (hy : ev ρ y = some u) (h1 : u.oneCell' = true) (hm : i.toNat * K.sz + j = m) (hj : Nat.blt j K.sz = true) (hu : K.pat z' = (K.pat z).set j q) (hq : q.ok A u)
    (h : ∀ raws', relR K A raws' (ys.set i.toNat z') → Rd K.ek v raws' (OwnO E K v raws' A (ys.set i.toNat z')) → SO P n Z w0 ops l ρ (OwnO E K v raws' A (ys.set i.toNat z') :: rest)) : SO P n Z w0 ops (⟨none, .store t x y, ty, p, af, none⟩ :: l) ρ (OwnO E K v raws A ys :: rest) := by
  obtain ⟨r, hri, hc⟩ := hr.at hi
  have hc' : cellsOk A (r.1.set j u) (K.pat z') := by rw [hu]; exact hc.set hq
  have hr' := hr.set (i := i.toNat) (x := K.raw hc') hc'
  refine so_take (SO.storeI1 (K := K.ek) (z := r) (z' := K.raw hc') hz hri hx hy h1 hm hj rfl (so_put hr' ?_))
  intro a w h1 h2 h3 h4 h5
  obtain ⟨m, _, hmm⟩ := h4.head
  exact h _ hr' hmm.rdO a w h1 h2 h3 h4 h5
theorem SO.storeON {t ty m : Nat} {x y : Operand} {p : String} {af : Array Edge} {us : List Value} {i : Int} {z z' : α} (hz : ∀ w, (sizeOf t).run P w = .ok K.sz w) (hr : relR K A raws ys) (hi : at_ ys i = some z) (hx : ev ρ x = some (idxp v m)) (hy : ev ρ y = some (.agg us.toArray)) (hm : i.toNat * K.sz = m) (hu : cellsOk A us (K.pat z'))
    (h : ∀ raws', relR K A raws' (ys.set i.toNat z') → Rd K.ek v raws' (OwnO E K v raws' A (ys.set i.toNat z')) → SO P n Z w0 ops l ρ (OwnO E K v raws' A (ys.set i.toNat z') :: rest)) : SO P n Z w0 ops (⟨none, .store t x y, ty, p, af, none⟩ :: l) ρ (OwnO E K v raws A ys :: rest) := by
  obtain ⟨r, hri, hc⟩ := hr.at hi
  have hr' := hr.set (i := i.toNat) (x := K.raw hu) hu
  refine so_take (SO.storeIN (K := K.ek) (z := r) (z' := K.raw hu) hz hri hx hy hm rfl (so_put hr' ?_))
  intro a w h1 h2 h3 h4 h5
  obtain ⟨m, _, hmm⟩ := h4.head
  exact h _ hr' hmm.rdO a w h1 h2 h3 h4 h5
theorem relR.append {zs : List α} {raws2 : List (Raw K.sz)} (h1 : relR K A raws ys) (h2 : relR K A raws2 zs) : relR K A (raws ++ raws2) (ys ++ zs) := by
  refine ⟨by simp [h1.1, h2.1], fun i x y e1 e2 => ?_⟩
  rcases Nat.lt_or_ge i raws.length with h | h
  · rw [List.getElem?_append_left h] at e1
    rw [List.getElem?_append_left (by rw [← h1.1]; exact h)] at e2
    exact h1.2 i x y e1 e2
  · rw [List.getElem?_append_right h] at e1
    rw [List.getElem?_append_right (by rw [← h1.1]; exact h), ← h1.1] at e2
    exact h2.2 _ x y e1 e2
/-- An append of such a row to another one. -/
theorem SO.appendR {zs out : List α} {d t ty e : Nat} {x y : Operand} {p : String} {af : Array Edge} {i : TypeInfo} {z : Value} {bytes : Nat} {u : Value} (hd : Nat.blt d n = true) (ht : P.underlying t = some (.slice e)) (hi : P.info? e = some i) (hz : i.zero = some z) (hsize : i.size = K.sz) (hby : i.bytes = bytes) (hbl : bytes ≤ 4096) (hzs : z.cells.size = K.sz)
    (hx : ev ρ x = some v) (hy : ev ρ y = some u) (ha : app ys zs = some out)
    (h : ∀ v', SO P n Z w0 ops l ((d, v') :: ρ) (OwnR e K v' out :: rest)) : SO P n Z w0 ops (⟨some d, .call ⟨.builtin .append, #[x, y], #[t, t]⟩, ty, p, af, none⟩ :: l) ρ (OwnR e K v ys :: OwnR E K u zs :: rest) := by
  refine SO.openR fun raws A hr hR => SO.b1 (SO.openR fun raws2 A2 hr2 hR2 => SO.b1 ?_)
  obtain ⟨hlen, rfl⟩ := app_spec ha
  have hl1 := hr.1
  have hl2 := hr2.1
  have ha2 : app raws raws2 = some (raws ++ raws2) := by
    unfold app; rw [decide_eq_true (by omega : raws.length + raws2.length ≤ 4294967296)]; rfl
  have key : SO P n Z w0 ops (⟨some d, .call ⟨.builtin .append, #[x, y], #[t, t]⟩, ty, p, af, none⟩ :: l) ρ (Own e K.ek v raws :: A :: OwnO E K u raws2 A2 zs :: rest) := by
    refine SO.append (K := K.ek) (ys := raws2) hd ht ht hi hz hsize hby hbl hzs hx hy (Rd.tail (Rd.head hR2)) ha2 fun v' => ?_
    refine (h v').sat fun w s => Sat.swapN (l1 := [Own e K.ek v' (raws ++ raws2), A, OwnO E K u raws2 A2 zs]) (l1' := [OwnR e K v' (ys ++ zs)]) s fun m hm => ?_
    refine stars_singleton ⟨raws ++ raws2, stars [A, OwnO E K u raws2 A2 zs], ?_, ?_⟩
    · obtain ⟨m1, m2, d, s1, s2, a, b⟩ := hm
      exact ⟨m1, m2, d, s1, s2, a, stars_singleton b⟩
    · exact (hr.cov Cov.head).append (hr2.cov ((Cov.tail.trans Cov.head).trans covP))
  exact so_take key
theorem relR.nil : relR K A [] [] := ⟨rfl, fun _ _ _ h => by simp at h⟩
/-- A row built of elements; the pool: what lies behind their slices. -/
theorem SO.buildSliceR {d t ty nn : Nat} {parts : List (Nat × Operand)} {ps : List (Nat × Value)} {p : String} {af : Array Edge} {z : Value} {cs : List Value} {raws : List (Raw K.sz)} (hd : Nat.blt d n = true) (ht : P.underlying t = some (.slice E)) (hs : ∀ w, (sizeOf E).run P w = .ok K.sz w) (hz : ∀ w, (zeroValue E).run P w = .ok z w)
    (hp : evp ρ parts = some ps) (hsmall : Nat.ble (nn * K.sz) 16777216 = true) (hpos : Nat.blt 0 nn = true) (hfill : Instr.fill (fun i => some (i * K.sz, K.sz)) ((Array.range (nn * K.sz)).map (z.cells[· % z.cells.size]!)) ps = some cs.toArray) (hcl : cs.length = nn * K.sz) (hcs : raws.flatMap (·.1) = cs) (hl : raws.length = nn) (hrel : relR K A raws ys)
    (h : ∀ v, SO P n Z w0 ops l ((d, v) :: ρ) (OwnR E K v ys :: rest)) : SO P n Z w0 ops (⟨some d, .buildSlice t nn parts.toArray, ty, p, af, none⟩ :: l) ρ (A :: rest) := by
  refine SO.buildSlice (K := K.ek) (xs := raws) hd ht hs hz hp hsmall hpos hfill hcl hcs hl fun v _ => ?_
  refine (h v).sat fun w s => Sat.swapN (l1 := [Own E K.ek v raws, A]) (l1' := [OwnR E K v ys]) s fun m hm => stars_singleton ⟨raws, A, hm, hrel⟩
theorem SO.emp (h : SO P n Z w0 ops l ρ ((fun _ => True) :: rest)) : SO P n Z w0 ops l ρ rest :=
  h.sat fun w s => show stars ((fun _ => True) :: rest) (hp w) from ⟨fun _ => none, hp w, fun _ => .inl rfl, fun _ _ e => by simp at e, .refl _, trivial, s⟩
theorem SO.makeSliceR {d t ty e : Nat} {x y : Operand} {p : String} {af : Array Edge} {i : TypeInfo} {z : Value} {bytes : Nat} {zx : α} {zc : List Value} {nn : Int} {kl kc : IntKind} (hd : Nat.blt d n = true) (ht : P.underlying t = some (.slice e)) (hi : P.info? e = some i) (hz : i.zero = some z) (hsize : i.size = K.sz) (hby : i.bytes = bytes) (hbl : bytes ≤ 4096) (hzx : z.cells = zc.toArray) (hok : cellsOk (fun _ => True) zc (K.pat zx))
    (hx : ev ρ x = some (.int kl nn)) (hy : ev ρ y = some (.int kc nn)) (ha : mk_ zx nn = some ys)
    (h : ∀ v, SO P n Z w0 ops l ((d, v) :: ρ) (OwnR e K v ys :: H)) : SO P n Z w0 ops (⟨some d, .makeSlice t x y, ty, p, af, none⟩ :: l) ρ H := by
  obtain ⟨h0, h1, rfl⟩ := mk_spec ha
  have ha2 : mk_ (K.raw hok) nn = some (List.replicate nn.toNat (K.raw hok)) := by
    unfold mk_; rw [decide_eq_true h0, decide_eq_true h1]; rfl
  refine SO.emp ?_
  refine SO.makeSlice (K := K.ek) (zx := K.raw hok) hd ht hi hz hsize hby hbl hzx hx hy ha2 fun v _ => ?_
  refine (h v).sat fun w s => Sat.swapN (l1 := [Own e K.ek v _, fun _ => True]) (l1' := [OwnR e K v _]) s fun m hm => stars_singleton ⟨_, _, hm, by simp, fun i x y h1 h2 => ?_⟩
  rw [List.getElem?_replicate] at h1 h2
  split at h1 <;> simp at h1 h2
  subst h1; obtain ⟨_, rfl⟩ := h2
  exact hok
end
end Go.Sl
namespace Go.Sl
open Go.RowKit
/-! Parts of elements. -/
section
variable {P : Program} {f : FuncId} {n : Nat} {Z : Act → World → Prop} {R : Ending → World → Prop} {w0 : Beg} {k : List Item} {ρ ρ' : Env} {H H' pre rest : List HProp} {ops : Array Oper} {l : List Oper}
theorem SO.loadIP {α : Type} {K : EK α} {v : Value} {xs : List α} {d t ty m j sz : Nat} {x : Operand} {p : String} {af : Array Edge} {us : List Value} {i : Int} {z : α} (hd : Nat.blt d n = true) (ha : ∀ w, (isAgg t).run P w = .ok true w) (hz : ∀ w, (sizeOf t).run P w = .ok sz w) (hR : Rd K v xs (stars H)) (hi : at_ xs i = some z) (hx : ev ρ x = some (idxp v m)) (hm : i.toNat * K.sz + j = m) (hj : Nat.ble (j + sz) K.sz = true) (hu : ((K.enc z).drop j).take sz = us)
    (h : SO P n Z w0 ops l ((d, .agg us.toArray) :: ρ) H) : SO P n Z w0 ops (⟨some d, .load t x, ty, p, af, none⟩ :: l) ρ H := by
  have hj' : j + sz ≤ K.sz := by simpa using hj
  refine .raw hd fun r w hr hs => ⟨_, _, ρ, _, ?_, hs, .refl w, h, fun _ h => h⟩
  obtain ⟨a, cap, ⟨rfl, _⟩, hR⟩ := hR
  obtain ⟨b, off, rfl, hR2⟩ := hR _ _ (at_spec hi).2.2
  obtain ⟨all, E, fr, hb, hc⟩ := hR2 _ hs
  have hl : us.length = sz := by rw [← hu, List.length_take, List.length_drop, K.len]; omega
  have hc : ∀ q, q < sz → w.cell? ⟨b, off + m + q, none⟩ = us[q]? := fun q hq => by
    rw [cell_of_blk hb, ← hu, List.getElem?_take_of_lt hq, List.getElem?_drop, ← hc (j + q) (by omega), ← hm]; congr 1; omega
  simp [execOp, hr x _ hx, Instr.loadAt, idxp, Instr.sureAddr, loadVar, ha, hz, loadCells_run hl hc]
theorem cellsOk.part {A : HProp} {us : List Value} {ps : List CellP} (h : cellsOk A us ps) {j sz : Nat} {vs : List Value} (e : (ps.drop j).take sz = vs.map .val) : (us.drop j).take sz = vs := by
  apply List.ext_getElem?
  intro q
  have hl := h.length
  have hlen := congrArg List.length e
  simp only [List.length_take, List.length_drop, List.length_map] at hlen
  rcases Nat.lt_or_ge q vs.length with hq | hq
  · have h1 : (vs.map CellP.val)[q]? = some (.val vs[q]) := by simp [hq]
    rw [← e, List.getElem?_take_of_lt (by omega), List.getElem?_drop] at h1
    rw [List.getElem?_take_of_lt (by omega), List.getElem?_drop, h.val h1, List.getElem?_eq_getElem hq]
  · rw [List.getElem?_eq_none (by simp; omega), List.getElem?_eq_none hq]
theorem take_splice {β : Type} (L : List β) (m o : Nat) (vs : List β) (h : o + vs.length ≤ m) (hm : m ≤ L.length) : (L.take o ++ (vs ++ L.drop (o + vs.length))).take m = (L.take m).take o ++ (vs ++ (L.take m).drop (o + vs.length)) := by
  apply List.ext_getElem?
  intro q
  have e1 : (L.take o).length = o := by simp; omega
  have e2 : ((L.take m).take o).length = o := by simp; omega
  rcases Nat.lt_or_ge q m with hq | hq
  · rw [List.getElem?_take_of_lt hq]
    rcases Nat.lt_or_ge q o with h1 | h1
    · rw [List.getElem?_append_left (by omega), List.getElem?_append_left (by omega), List.getElem?_take_of_lt h1, List.getElem?_take_of_lt h1, List.getElem?_take_of_lt hq]
    · rw [List.getElem?_append_right (by omega : (L.take o).length ≤ q), List.getElem?_append_right (by omega : ((L.take m).take o).length ≤ q), e1, e2]
      rcases Nat.lt_or_ge (q - o) vs.length with h2 | h2
      · rw [List.getElem?_append_left h2, List.getElem?_append_left h2]
      · rw [List.getElem?_append_right h2, List.getElem?_append_right h2, List.getElem?_drop, List.getElem?_drop, List.getElem?_take_of_lt (by omega)]
  · rw [List.getElem?_eq_none (by simp; omega), List.getElem?_eq_none (by simp; omega)]
theorem EK.flat_splice {α : Type} (K : EK α) : ∀ (xs : List α) (i : Nat) (x x' : α) (j : Nat) (us : List Value), xs[i]? = some x → j + us.length ≤ K.sz → K.enc x' = splice (K.enc x) j us → K.flat (xs.set i x') = splice (K.flat xs) (i * K.sz + j) us
  | [], i, x, x', j, us, h, _, _ => by simp at h
  | y :: l, 0, x, x', j, us, h, hj, he => by
    simp at h; subst h
    have hl := K.len y
    simp only [EK.flat, List.set_cons_zero, List.flatMap_cons, Nat.zero_mul, Nat.zero_add, splice] at *
    rw [he, List.take_append_of_le_length (by omega), List.drop_append_of_le_length (by omega), List.append_assoc, List.append_assoc]
  | y :: l, i + 1, x, x', j, us, h, hj, he => by
    simp only [List.getElem?_cons_succ] at h
    have := EK.flat_splice K l i x x' j us h hj he
    have hl := K.len y
    have e1 : (i + 1) * K.sz + j = (K.enc y).length + (i * K.sz + j) := by rw [hl, Nat.add_mul]; omega
    simp only [EK.flat, List.set_cons_succ, List.flatMap_cons, splice] at *
    rw [this, e1, List.take_length_add_append, Nat.add_assoc (K.enc y).length, List.drop_length_add_append, List.append_assoc]
theorem SO.storeIP {α : Type} {K : EK α} {v : Value} {xs : List α} {E t ty m j sz : Nat} {x y : Operand} {p : String} {af : Array Edge} {us : List Value} {i : Int} {z z' : α} (hz : ∀ w, (sizeOf t).run P w = .ok sz w) (hi : at_ xs i = some z) (hx : ev ρ x = some (idxp v m)) (hy : ev ρ y = some (.agg us.toArray)) (hl : us.length = sz) (hm : i.toNat * K.sz + j = m) (hj : Nat.ble (j + sz) K.sz = true) (h1 : ∀ u ∈ us, u.oneCell' = true) (hu : K.enc z' = splice (K.enc z) j us)
    (h : SO P n Z w0 ops l ρ (Own E K v (xs.set i.toNat z') :: rest)) : SO P n Z w0 ops (⟨none, .store t x y, ty, p, af, none⟩ :: l) ρ (Own E K v xs :: rest) := by
  have hj' : j + sz ≤ K.sz := by simpa using hj
  obtain ⟨h0, hlt, hget⟩ := at_spec hi
  have hne : xs ≠ [] := by intro e; subst e; simp at hget
  have hb : i.toNat * K.sz + K.sz ≤ xs.length * K.sz := by
    have : (i.toNat + 1) * K.sz ≤ xs.length * K.sz := Nat.mul_le_mul_right _ (by omega)
    rw [Nat.add_mul] at this; omega
  refine .raw0 fun r w hr hs => ?_
  obtain ⟨mm, hmm, hown⟩ := hs.head
  rcases hown with ⟨_, rfl⟩ | ⟨g, cap, cur, rfl, hg, hle, hcap, hsz, hcur⟩
  · exact absurd rfl hne
  have hg := hmm _ _ hg
  have hszl : xs.length * K.sz ≤ cap * K.sz := Nat.mul_le_mul_right _ hle
  obtain ⟨w', c', hrun, hb', hs', ho, hn, hq, hk⟩ := storeCells_run (P := P) (b := g) (o := m) us 0 w cur E hg h1 (by omega)
  refine ⟨w', _, ?_, ?_, hk, h⟩
  · simp only [execOp, hr x _ hx, hr y _ hy, Instr.storeAt, idxp, Instr.sureAddr, storeVar, Nat.zero_add]
    simp only [Value.cells, Sem.run_bind, Sem.run_pure, Result.andThen_ok, hz]
    simp [hl, hrun]
  · refine Own.put hs (fun g2 cap2 cur2 hv2 hg2 _ hsz2 hcur2 => ?_) (by simp) hne
    injection hv2 with e1 _ _; injection e1 with e1; injection e1 with e1 _ _; subst e1
    have : cur2 = cur := by
      have h9 : some (Obj.cells cur2 E) = some (Obj.cells cur E) := hg2.symm.trans hg
      injection h9 with h9; injection h9
    subst this
    refine ⟨c', hb', hs', ?_, hq⟩
    have hcc : c'.toList = splice cur2.toList m us := by
      apply List.ext_getElem?
      intro q
      simp only [Array.getElem?_toList, splice]
      rcases Nat.lt_or_ge q m with hq1 | hq1
      · rw [ho q (by omega), List.getElem?_append_left (by simp; omega), List.getElem?_take_of_lt hq1]; simp
      · rw [List.getElem?_append_right (by simp; omega), List.length_take, Nat.min_eq_left (by simp; omega)]
        rcases Nat.lt_or_ge (q - m) us.length with hq2 | hq2
        · rw [List.getElem?_append_left hq2]
          have := hn (q - m) hq2
          rw [← this]; congr 1; omega
        · rw [List.getElem?_append_right hq2, List.getElem?_drop, ho q (by omega)]
          simp only [Array.getElem?_toList]; congr 1; omega
    rw [hcc, splice, take_splice _ _ _ _ (by omega) (by simp; omega), hcur2, ← hm, EK.flat_splice K xs _ z z' j us hget (by omega) hu, splice]
theorem cellsOk.splice {A : HProp} {us : List Value} {ps : List CellP} (h : cellsOk A us ps) {j : Nat} {vs : List Value} (hj : j + vs.length ≤ ps.length) : cellsOk A (Go.Sl.splice us j vs) (ps.take j ++ (vs.map .val ++ ps.drop (j + vs.length))) := by
  have take : ∀ (us : List Value) (ps : List CellP) (j : Nat), cellsOk A us ps → cellsOk A (us.take j) (ps.take j) := by
    intro us
    induction us with
    | nil => intro ps j h; cases ps with | nil => simp [cellsOk] | cons _ _ => exact h.elim
    | cons u us ih => intro ps j h; cases ps with
      | nil => exact h.elim
      | cons p ps => cases j with
        | zero => exact trivial
        | succ j => exact ⟨h.1, ih ps j h.2⟩
  have drop : ∀ (us : List Value) (ps : List CellP) (j : Nat), cellsOk A us ps → cellsOk A (us.drop j) (ps.drop j) := by
    intro us
    induction us with
    | nil => intro ps j h; cases ps with | nil => simp [cellsOk] | cons _ _ => exact h.elim
    | cons u us ih => intro ps j h; cases ps with
      | nil => exact h.elim
      | cons p ps => cases j with
        | zero => exact h
        | succ j => exact ih ps j h.2
  have app : ∀ (us us' : List Value) (ps ps' : List CellP), cellsOk A us ps → cellsOk A us' ps' → cellsOk A (us ++ us') (ps ++ ps') := by
    intro us
    induction us with
    | nil => intro us' ps ps' h k; cases ps with | nil => exact k | cons _ _ => exact h.elim
    | cons u us ih => intro us' ps ps' h k; cases ps with
      | nil => exact h.elim
      | cons p ps => exact ⟨h.1, ih us' ps ps' h.2 k⟩
  have vals : ∀ vs : List Value, cellsOk A vs (vs.map .val) := by
    intro vs
    induction vs with
    | nil => exact trivial
    | cons v vs ih => exact ⟨rfl, ih⟩
  exact app _ _ _ _ (take _ _ _ h) (app _ _ _ _ (vals vs) (drop _ _ _ h))
theorem SO.storeOP {α : Type} {K : EKR α} {E : TypeId} {v : Value} {raws : List (Raw K.sz)} {A : HProp} {ys : List α} {t ty m j sz : Nat} {x y : Operand} {p : String} {af : Array Edge} {us : List Value} {i : Int} {z z' : α} (hz : ∀ w, (sizeOf t).run P w = .ok sz w) (hr : relR K A raws ys) (hi : at_ ys i = some z) (hx : ev ρ x = some (idxp v m)) (hy : ev ρ y = some (.agg us.toArray)) (hl : us.length = sz) (hm : i.toNat * K.sz + j = m) (hj : Nat.ble (j + sz) K.sz = true) (h1 : (us.all Value.oneCell') = true) (hu : K.pat z' = (K.pat z).take j ++ (us.map .val ++ (K.pat z).drop (j + us.length)))
    (h : ∀ raws', relR K A raws' (ys.set i.toNat z') → Rd K.ek v raws' (OwnO E K v raws' A (ys.set i.toNat z')) → SO P n Z w0 ops l ρ (OwnO E K v raws' A (ys.set i.toNat z') :: rest)) : SO P n Z w0 ops (⟨none, .store t x y, ty, p, af, none⟩ :: l) ρ (OwnO E K v raws A ys :: rest) := by
  have hj' : j + sz ≤ K.sz := by simpa using hj
  obtain ⟨r, hri, hc⟩ := hr.at hi
  have hc' : cellsOk A (splice r.1 j us) (K.pat z') := by rw [hu]; exact hc.splice (by rw [K.len]; omega)
  have hr' := hr.set (i := i.toNat) (x := K.raw hc') hc'
  refine so_take (SO.storeIP (K := K.ek) (z := r) (z' := K.raw hc') hz hri hx hy hl hm hj (fun u hu => List.all_eq_true.1 h1 u hu) rfl (so_put hr' ?_))
  intro a w h1 h2 h3 h4 h5
  obtain ⟨m, _, hmm⟩ := h4.head
  exact h _ hr' hmm.rdO a w h1 h2 h3 h4 h5
/-- One element, of which a row is built. -/
theorem SO.buildSliceR1 {α : Type} {K : EKR α} {E : TypeId} {A : HProp} {y : α} {d t ty : Nat} {parts : List (Nat × Operand)} {ps : List (Nat × Value)} {p : String} {af : Array Edge} {z : Value} {cs : List Value} (hd : Nat.blt d n = true) (ht : P.underlying t = some (.slice E)) (hs : ∀ w, (sizeOf E).run P w = .ok K.sz w) (hz : ∀ w, (zeroValue E).run P w = .ok z w)
    (hp : evp ρ parts = some ps) (hsmall : Nat.ble (1 * K.sz) 16777216 = true) (hfill : Instr.fill (fun i => some (i * K.sz, K.sz)) ((Array.range (1 * K.sz)).map (z.cells[· % z.cells.size]!)) ps = some cs.toArray) (hu : cellsOk A cs (K.pat y))
    (h : ∀ v, SO P n Z w0 ops l ((d, v) :: ρ) (OwnR E K v [y] :: rest)) : SO P n Z w0 ops (⟨some d, .buildSlice t 1 parts.toArray, ty, p, af, none⟩ :: l) ρ (A :: rest) :=
  SO.buildSliceR (raws := [K.raw hu]) hd ht hs hz hp hsmall rfl hfill (by rw [hu.length, K.len, Nat.one_mul]) (by simp [EKR.raw]) rfl ⟨rfl, fun i x y' h1 h2 => by
    cases i with
    | zero => simp at h1 h2; subst h1; subst h2; exact hu
    | succ i => simp at h1⟩ h
end
/-! Lists of lists that came in. -/
abbrev SV := {v : Value // v.oneCell' = true}
def ekS : EK SV := ⟨1, fun x => [x.1], fun _ => rfl, fun x v hv => by simp at hv; subst hv; exact x.2, by decide⟩
/-- A list of lists that may be read. -/
def Rd2 {α : Type} (K : EK α) (v : Value) (xss : List (List α)) (A : HProp) : Prop :=
  ∃ vs : List SV, Rd ekS v vs A ∧ vs.length = xss.length ∧ ∀ (i : Nat) (x : SV) (l : List α), vs[i]? = some x → xss[i]? = some l → Rd K x.1 l A
theorem Rd2.at_ {α : Type} {K : EK α} {xss : List (List α)} {A : HProp} {vs : List SV} {i : Int} {l : List α} (hl : vs.length = xss.length) (hR : ∀ (i : Nat) (x : SV) (l : List α), vs[i]? = some x → xss[i]? = some l → Rd K x.1 l A) (h : Go.Sl.at_ xss i = some l) : ∃ y : SV, Go.Sl.at_ vs i = some y ∧ Rd K y.1 l A := by
  obtain ⟨h1, h2, h3⟩ := at_spec h
  have h4 : vs[i.toNat]? = some (vs[i.toNat]'(by omega)) := List.getElem?_eq_getElem (by omega)
  refine ⟨vs[i.toNat]'(by omega), ?_, hR _ _ _ h4 h3⟩
  unfold Go.Sl.at_
  rw [decide_eq_true h1, cond_true, h4]
theorem opv_len2 {P : Program} {ρ : Env} {α : Type} {A : HProp} {vs : List SV} {xss : List (List α)} {v : Value} {x : Operand} {tys : Array TypeId} {t e : TypeId} (ht0 : tys[0]? = some t) (ht : P.underlying t = some (.slice e)) (hR : Rd ekS v vs A) (hl : vs.length = xss.length) (hx : ev ρ x = some v) :
    OpV P ρ (.call ⟨.builtin .len, #[x], tys⟩) (.int .i64 (xss.length : Int)) := by
  rw [← hl]; exact opv_lenR ht0 ht hR hx
theorem opv_pickB {P : Program} {ρ : Env} {c a b : Operand} {x y z : Bool} (hc : ev ρ c = some (.bool x)) (ha : ev ρ a = some (.bool y)) (hb : ev ρ b = some (.bool z)) : OpV P ρ (.pick c a b) (.bool (bif x then y else z)) := by
  cases x with
  | true => exact opv_pick_t' rfl hc ha
  | false => exact opv_pick_f' rfl hc hb
theorem opv_pickTF {P : Program} {ρ : Env} {c a b : Operand} {x : Bool} (hc : ev ρ c = some (.bool x)) (ha : ev ρ a = some (.bool true)) (hb : ev ρ b = some (.bool false)) : OpV P ρ (.pick c a b) (.bool x) := by
  cases x with
  | true => exact opv_pick_t' rfl hc ha
  | false => exact opv_pick_f' rfl hc hb
theorem Rd2.cov2 {α : Type} {K : EK α} {v : Value} {xss : List (List α)} {A A' : HProp} (h : Rd2 K v xss A) (c : Cov A' A) : Rd2 K v xss A' := by
  obtain ⟨vs, h1, h2, h3⟩ := h
  exact ⟨vs, h1.cov c, h2, fun i x l e1 e2 => (h3 i x l e1 e2).cov c⟩
/-- A row of lists, opened, may be read as such. -/
theorem Rd2.ofO {α : Type} {K : EK α} {E : TypeId} {v : Value} {raws : List (Raw (krS K).sz)} {A : HProp} {ys : List (List α)} (hr : relR (krS K) A raws ys) (hR : Rd (krS K).ek v raws (OwnO E (krS K) v raws A ys)) : Rd2 K v ys (OwnO E (krS K) v raws A ys) := by
  have one : ∀ r : Raw (krS K).sz, ∃ u, r.1 = [u] ∧ u.oneCell' = true := by
    intro r
    obtain ⟨l, hl, h1⟩ := r
    match l, hl with
    | [u], _ => exact ⟨u, rfl, h1 u List.mem_cons_self⟩
  let g : Raw (krS K).sz → SV := fun r => ⟨Classical.choose (one r), (Classical.choose_spec (one r)).2⟩
  have hg : ∀ r, r.1 = [(g r).1] := fun r => (Classical.choose_spec (one r)).1
  refine ⟨raws.map g, ?_, by simp [hr.1], fun i x l h1 h2 => ?_⟩
  · obtain ⟨a, cap, hv, h⟩ := hR
    refine ⟨a, cap, by simpa using hv, fun i x hx => ?_⟩
    simp only [List.getElem?_map, Option.map_eq_some_iff] at hx
    obtain ⟨r, hr1, rfl⟩ := hx
    obtain ⟨b, off, ha, h⟩ := h i r hr1
    refine ⟨b, off, ha, fun m hm => ?_⟩
    obtain ⟨all, E, fr, hb, hc⟩ := h m hm
    refine ⟨all, E, fr, hb, fun j hj => ?_⟩
    have := hc j hj
    rw [show ((krS K).ek.enc r) = r.1 from rfl, hg r] at this
    exact this
  · simp only [List.getElem?_map, Option.map_eq_some_iff] at h1
    obtain ⟨r, hr1, rfl⟩ := h1
    have := hr.2 i r l hr1 h2
    rw [hg r] at this
    exact Rd.pool this.1
theorem Rd2.head {α : Type} {K : EK α} {v : Value} {xss : List (List α)} {A : HProp} {l : List HProp} (h : Rd2 K v xss A) : Rd2 K v xss (stars (A :: l)) := Rd2.cov2 h Cov.head
theorem Rd2.tail {α : Type} {K : EK α} {v : Value} {xss : List (List α)} {A : HProp} {l : List HProp} (h : Rd2 K v xss (stars l)) : Rd2 K v xss (stars (A :: l)) := Rd2.cov2 h Cov.tail

/-! Arrays of four whole numbers. -/
structure A4 where
  a0 : Int
  a1 : Int
  a2 : Int
  a3 : Int
  deriving DecidableEq, Inhabited
def A4.get (a : A4) (i : Int) : Option Int := bif i == 0 then some a.a0 else bif i == 1 then some a.a1 else bif i == 2 then some a.a2 else bif i == 3 then some a.a3 else none
def A4.put (a : A4) (i x : Int) : A4 := bif i == 0 then { a with a0 := x } else bif i == 1 then { a with a1 := x } else bif i == 2 then { a with a2 := x } else { a with a3 := x }
theorem A4.get_cases {a : A4} {i x : Int} (h : a.get i = some x) : i = 0 ∧ x = a.a0 ∨ i = 1 ∧ x = a.a1 ∨ i = 2 ∧ x = a.a2 ∨ i = 3 ∧ x = a.a3 := by
  unfold A4.get at h
  cases h0 : i == 0 with
  | true => simp [h0] at h; left; simp at h0; exact ⟨h0, h.symm⟩
  | false =>
    simp only [h0, cond_false] at h
    cases h1 : i == 1 with
    | true => simp [h1] at h; right; left; simp at h1; exact ⟨h1, h.symm⟩
    | false =>
      simp only [h1, cond_false] at h
      cases h2 : i == 2 with
      | true => simp [h2] at h; right; right; left; simp at h2; exact ⟨h2, h.symm⟩
      | false =>
        simp only [h2, cond_false] at h
        cases h3 : i == 3 with
        | true => simp [h3] at h; right; right; right; simp at h3; exact ⟨h3, h.symm⟩
        | false => simp [h3] at h
def A4.chk (a : A4) (i : Int) : Option Unit := (a.get i).map fun _ => ()
theorem A4.range {a : A4} {i x : Int} (h : a.get i = some x) : 0 ≤ i ∧ i < 4 := by
  rcases A4.get_cases h with ⟨rfl, _⟩ | ⟨rfl, _⟩ | ⟨rfl, _⟩ | ⟨rfl, _⟩ <;> decide
section
variable {P : Program} {ρ : Env}
theorem opv_idxA {x y : Operand} {t e : TypeId} {ki : IntKind} {i z : Int} {b o : Nat} {a : A4} (ht : P.underlying t = some (.array 4 e)) (hz : ∀ w, (sizeOf e).run P w = .ok 1 w) (hx : ev ρ x = some (bp b o)) (hy : ev ρ y = some (.int ki i)) (ha : a.get i = some z) :
    OpV P ρ (.indexAddr t x y) (bp b (o + i.toNat)) := by
  obtain ⟨h0, h1⟩ := A4.range ha
  intro r w d t' p af g hr
  simp only [execOp, hr x _ hx, hr y _ hy, Instr.indexAt]
  simp only [Sem.run_bind, asIntOf, Sem.run_pure, Result.andThen_ok, run_underlying ht, bp, Instr.sureAddr]
  have h1' : i < ((4 : Nat) : Int) := h1
  simp only [h0, h1', and_self, if_true, Sem.run_bind, hz, Result.andThen_ok, Sem.run_pure, Addr.add]
  split
  · rename_i h; simp at h; simp [h]
  · simp
theorem opv_idxAI {α : Type} {K : EK α} {A : HProp} {v : Value} {xs : List α} {x y : Operand} {t e m : Nat} {ki : IntKind} {i z q : Int} {zz : α} {a : A4} (ht : P.underlying t = some (.array 4 e)) (hz : ∀ w, (sizeOf e).run P w = .ok 1 w) (hR : Rd K v xs A) (hq : at_ xs q = some zz) (hx : ev ρ x = some (idxp v m)) (hy : ev ρ y = some (.int ki i)) (ha : a.get i = some z) :
    OpV P ρ (.indexAddr t x y) (idxp v (m + i.toNat)) := by
  obtain ⟨a', cap, ⟨rfl, _⟩, hR⟩ := hR
  obtain ⟨b, off, rfl, _⟩ := hR _ _ (at_spec hq).2.2
  have := opv_idxA (b := b) (o := off + m) ht hz hx hy ha
  rw [Nat.add_assoc] at this
  exact this
end
/-! A slice's end, from a place on. -/
def slcV (v : Value) (lo sz : Nat) : Value :=
  match v with
  | .slice a len cap => .slice (if cap = lo then a else a.map (·.add (lo * sz))) (len - lo) (cap - lo)
  | _ => undef
def slcF {α : Type} (xs : List α) (lo : Int) : Option (List α) := bif decide (0 ≤ lo) && decide (lo ≤ (xs.length : Int)) then some (xs.drop lo.toNat) else none
theorem slcF_spec {α : Type} {xs zs : List α} {lo : Int} (h : slcF xs lo = some zs) : 0 ≤ lo ∧ lo ≤ (xs.length : Int) ∧ zs = xs.drop lo.toNat := by
  unfold slcF at h
  cases hd : (decide (0 ≤ lo) && decide (lo ≤ (xs.length : Int))) with
  | false => simp [hd] at h
  | true =>
    simp only [hd, cond_true] at h
    simp only [Bool.and_eq_true, decide_eq_true_eq] at hd
    injection h with h
    exact ⟨hd.1, hd.2, h.symm⟩
theorem Rd.slc {α : Type} {K : EK α} {v : Value} {xs zs : List α} {A : HProp} {lo : Int} (h : Rd K v xs A) (hz : slcF xs lo = some zs) : Rd K (slcV v lo.toNat K.sz) zs A := by
  obtain ⟨h0, h1, rfl⟩ := slcF_spec hz
  obtain ⟨a, cap, ⟨rfl, hle⟩, h⟩ := h
  refine ⟨(if cap = lo.toNat then a else a.map (·.add (lo.toNat * K.sz))), cap - lo.toNat, ⟨by simp only [slcV, List.length_drop], by simp only [List.length_drop]; omega⟩, fun i x hx => ?_⟩
  rw [List.getElem?_drop] at hx
  have hi : lo.toNat + i < xs.length := by
    rcases Nat.lt_or_ge (lo.toNat + i) xs.length with h' | h'
    · exact h'
    · rw [List.getElem?_eq_none h'] at hx; cases hx
  obtain ⟨b, off, rfl, h9⟩ := h _ x hx
  refine ⟨b, off + lo.toNat * K.sz, ?_, fun m hm => ?_⟩
  · rw [if_neg (by omega), Option.map_some, Addr.add]
    split
    · rename_i h; simp [h]
    · rfl
  · obtain ⟨all, E, fr, hb, hc⟩ := h9 m hm
    refine ⟨all, E, fr, hb, fun j hj => ?_⟩
    rw [← hc j hj]; congr 1; rw [Nat.add_mul]; omega
theorem opv_slcLo {P : Program} {ρ : Env} {α : Type} {K : EK α} {v : Value} {xs zs : List α} {A : HProp} {lo : Int} {ki : IntKind} {x y : Operand} {t e : TypeId} (ht : P.underlying t = some (.slice e)) (hs : ∀ w, (sizeOf e).run P w = .ok K.sz w) (hR : Rd K v xs A) (hz : slcF xs lo = some zs) (hx : ev ρ x = some v) (hy : ev ρ y = some (.int ki lo)) :
    OpV P ρ (.slice t x (some y) none none) (slcV v lo.toNat K.sz) := by
  obtain ⟨h0, h1, rfl⟩ := slcF_spec hz
  obtain ⟨a, cap, ⟨rfl, hle⟩, _⟩ := hR
  intro r w d t' p af g hr
  simp [execOp, hr x _ hx, hr y _ hy, Instr.sliceAt, Instr.slice, Instr.sliceBounds, Instr.sliceBound, run_underlying ht, hs, asIntOf, h0, h1, slcV]
theorem all1 {v : Value} {l : List Value} (h : v.oneCell' = true) (k : l.all Value.oneCell' = true) : (v :: l).all Value.oneCell' = true := by
  rw [List.all_cons, h, k]; rfl
section
variable {P : Program} {f : FuncId} {n : Nat} {Z : Act → World → Prop} {w0 : Beg} {ρ : Env} {rest : List HProp} {ops : Array Oper} {l : List Oper}
variable {α : Type} {K : EKR α} {E : TypeId} {v : Value} {raws : List (Raw K.sz)} {A : HProp} {ys : List α}
theorem SO.oneO (h : v.oneCell' = true → SO P n Z w0 ops l ρ (OwnO E K v raws A ys :: rest)) : SO P n Z w0 ops l ρ (OwnO E K v raws A ys :: rest) := by
  intro a w h1 h2 h3 h4 h5
  obtain ⟨m, _, hm⟩ := h4.head
  exact h (Rd.one hm.rdO) a w h1 h2 h3 h4 h5
theorem S.rdO {f : FuncId} {R : Ending → World → Prop} {k : List Item} (h : relR K A raws ys → Rd K.ek v raws (OwnO E K v raws A ys) → S P f n R w0 k ρ (OwnO E K v raws A ys :: rest)) : S P f n R w0 k ρ (OwnO E K v raws A ys :: rest) := by
  intro a w h1 h2 h3 h4 h5
  obtain ⟨m, _, hm⟩ := h4.head
  exact h hm.2 hm.rdO a w h1 h2 h3 h4 h5
theorem SO.oneR (h : v.oneCell' = true → SO P n Z w0 ops l ρ (OwnR E K v ys :: rest)) : SO P n Z w0 ops l ρ (OwnR E K v ys :: rest) := by
  intro a w h1 h2 h3 h4 h5
  obtain ⟨raws, A, hr, hR, hs⟩ := sat_open h4
  exact h (Rd.one hR) a w h1 h2 h3 h4 h5
theorem opv_eqlP {b : Nat} {x : Operand} {t t2 : TypeId} {e : TypeId} (ht : P.underlying t = some (.pointer e)) (hx : ev ρ x = some (bp b 0)) : OpV P ρ (.binOp .eql t x (.const (.pointer none)) t2) (.bool false) :=
  fun r w d t' p af g hr => by
    have h0 : r (.const (.pointer none)) = .pointer none := hr _ _ rfl
    have key : ∀ d, (Op.equalIn (d + 2) t (bp b 0) (.pointer none)).run P w = .ok false w := fun d => by simp [Op.equalIn, run_underlying ht, bp]
    simp [execOp, hr x _ hx, h0, eqGuard, binOp, eql_run w key]
theorem opv_neqP {b : Nat} {x : Operand} {t t2 : TypeId} {e : TypeId} (ht : P.underlying t = some (.pointer e)) (hx : ev ρ x = some (bp b 0)) : OpV P ρ (.binOp .neq t x (.const (.pointer none)) t2) (.bool true) :=
  fun r w d t' p af g hr => by
    have h0 : r (.const (.pointer none)) = .pointer none := hr _ _ rfl
    have key : ∀ d, (Op.equalIn (d + 2) t (bp b 0) (.pointer none)).run P w = .ok false w := fun d => by simp [Op.equalIn, run_underlying ht, bp]
    simp [execOp, hr x _ hx, h0, eqGuard, binOp, eql_run w key]
end
theorem SO.cutG {P : Program} {n : Nat} {Z : Act → World → Prop} {w0 : Beg} {ρ : Env} {H : List HProp} {ops : Array Oper} {l : List Oper} {G : Type} (m : Nat) (d : Nat) (v : Value) (H2 : G → List HProp) (h1 : ∀ l2, (∀ g, SO P n Z w0 ops l2 ((d, v) :: ρ) (H2 g)) → SO P n Z w0 ops (l.take m ++ l2) ρ H) (h2 : ∀ g, SO P n Z w0 ops (l.drop m) ((d, v) :: ρ) (H2 g)) : SO P n Z w0 ops l ρ H := by
  have := h1 _ h2
  rwa [List.take_append_drop] at this
/-! 'copy': the first elements of another slice. -/
def cpy {α : Type} (xs ys : List α) : List α := ys.take xs.length ++ xs.drop ys.length
theorem EK.flat_take {α : Type} (K : EK α) : ∀ (xs : List α) (n : Nat), K.flat (xs.take n) = (K.flat xs).take (n * K.sz)
  | [], n => by simp [EK.flat]
  | x :: l, 0 => by simp [EK.flat]
  | x :: l, n + 1 => by
    have ih := EK.flat_take K l n
    have hl := K.len x
    simp only [EK.flat, List.take_succ_cons, List.flatMap_cons] at *
    rw [ih, show (n + 1) * K.sz = (K.enc x).length + n * K.sz by rw [hl, Nat.add_mul]; omega, List.take_length_add_append]
theorem EK.flat_drop {α : Type} (K : EK α) : ∀ (xs : List α) (n : Nat), K.flat (xs.drop n) = (K.flat xs).drop (n * K.sz)
  | [], n => by simp [EK.flat]
  | x :: l, 0 => by simp [EK.flat]
  | x :: l, n + 1 => by
    have ih := EK.flat_drop K l n
    have hl := K.len x
    simp only [EK.flat, List.drop_succ_cons, List.flatMap_cons] at *
    rw [ih, show (n + 1) * K.sz = (K.enc x).length + n * K.sz by rw [hl, Nat.add_mul]; omega, List.drop_length_add_append]
theorem Rd.cells {α : Type} {K : EK α} {u : Value} {ys : List α} {l : List HProp} {w : World} (hR : Rd K u ys (stars l)) (hs : Sat w l) : ∃ a cap, u = .slice a ys.length cap ∧ (ys ≠ [] → ∃ b off, a = some ⟨b, off, none⟩ ∧ ∀ j, j < ys.length * K.sz → w.cell? ⟨b, off + j, none⟩ = (K.flat ys)[j]?) := by
  obtain ⟨a, cap, ⟨rfl, _⟩, hR⟩ := hR
  refine ⟨a, cap, rfl, fun hy0 => ?_⟩
  obtain ⟨y0, hy1⟩ : ∃ y0, ys[0]? = some y0 := by cases ys with | nil => exact absurd rfl hy0 | cons a l => exact ⟨a, rfl⟩
  obtain ⟨b, off, rfl, _⟩ := hR 0 y0 hy1
  refine ⟨b, off, rfl, fun j hjl => ?_⟩
  have hdm : j = (j / K.sz) * K.sz + j % K.sz := by rw [Nat.mul_comm]; exact (Nat.div_add_mod j K.sz).symm
  have hmod : j % K.sz < K.sz := Nat.mod_lt _ K.pos
  have hdl : j / K.sz < ys.length := Nat.div_lt_of_lt_mul (by rw [Nat.mul_comm]; exact hjl)
  obtain ⟨b', off', e1, hR1⟩ := hR (j / K.sz) ys[j / K.sz] (List.getElem?_eq_getElem hdl)
  injection e1 with e1; injection e1 with e1 e2 _; subst e1; subst e2
  obtain ⟨all, E, fr, hb, hc⟩ := hR1 _ hs
  have hc1 := hc (j % K.sz) hmod
  rw [← EK.flat_get K ys _ _ _ (List.getElem?_eq_getElem hdl) hmod, ← hdm] at hc1
  have hbw : w.heap[b]? = some (.cells all E fr) := hb
  rw [cell_of_blk hbw, hc1]
section
variable {P : Program} {n : Nat} {Z : Act → World → Prop} {w0 : Beg} {ρ : Env} {rest : List HProp} {ops : Array Oper} {l : List Oper}
theorem copy_run {α : Type} {K : EK α} {v u : Value} {xs ys : List α} {E t s ty : TypeId} {w : World} (ht : P.underlying t = some (.slice E)) (hz : ∀ w, (sizeOf E).run P w = .ok K.sz w) (hR : Rd K u ys (stars rest)) (hs : Sat w (Own E K v xs :: rest)) :
    ∃ w', (Builtin.copy_ #[t, s] ty #[v, u]).run P w = .ok (.int .i64 (min ys.length xs.length : Nat)) w' ∧ Sat w' (Own E K v (cpy xs ys) :: rest) ∧ Keep w w' := by
  obtain ⟨a, cap, rfl, hcell⟩ := hR.cells hs.drop
  by_cases hne : xs = []
  · subst hne
    have e0 : cpy ([] : List α) ys = [] := by simp [cpy]
    rw [e0]
    refine ⟨w, ?_, hs, .refl w⟩
    obtain ⟨m, hm, hown⟩ := hs.head
    have hv : ∃ d c, v = .slice d 0 c := by
      rcases hown with ⟨rfl, _⟩ | ⟨g, c, cur, rfl, _⟩
      · exact ⟨_, _, rfl⟩
      · exact ⟨_, _, rfl⟩
    obtain ⟨d, c, rfl⟩ := hv
    cases a <;> cases d <;> simp [Builtin.copy_, run_underlying ht, Builtin.lenOf, Builtin.firstCells, hz, storeCells, loadCells, loadCellsFrom, goInt]
  · obtain ⟨mm, hmm, hown⟩ := hs.head
    rcases hown with ⟨_, rfl⟩ | ⟨g, cp, cur, rfl, hg, hle, hcap, hsz, hcur⟩
    · exact absurd rfl hne
    have hg := hmm _ _ hg
    have hszl : xs.length * K.sz ≤ cp * K.sz := Nat.mul_le_mul_right _ hle
    let k := Nat.min ys.length xs.length
    let vs := K.flat (ys.take xs.length)
    have hvl : vs.length = k * K.sz := by
      show (K.flat (ys.take xs.length)).length = _
      rw [EK.length_flat, List.length_take]; congr 1; exact Nat.min_comm _ _
    have hkx : k * K.sz ≤ xs.length * K.sz := Nat.mul_le_mul_right _ (Nat.min_le_right _ _)
    have hky : k * K.sz ≤ ys.length * K.sz := Nat.mul_le_mul_right _ (Nat.min_le_left _ _)
    obtain ⟨w', c', hrun, hb', hs', ho, hn, hq, hk⟩ := storeCells_run (P := P) (b := g) (o := 0) vs 0 w cur E hg (fun u hu => K.flat_one u hu) (by omega)
    have hfirst : (Builtin.firstCells K.sz k (.slice a ys.length cap)).run P w = .ok vs.toArray w := by
      by_cases hy0 : ys = []
      · subst hy0
        have hk0 : k = 0 := by show Nat.min 0 _ = 0; simp
        have hv0 : vs = [] := List.eq_nil_of_length_eq_zero (by rw [hvl, hk0, Nat.zero_mul])
        rw [hv0, hk0]
        cases a <;> simp [Builtin.firstCells, loadCells, loadCellsFrom]
      · obtain ⟨b, off, rfl, hc⟩ := hcell hy0
        simp only [Builtin.firstCells]
        refine loadCells_run hvl fun j hj => ?_
        rw [hc j (by omega)]
        show _ = (K.flat (ys.take xs.length))[j]?
        rw [EK.flat_take, List.getElem?_take_of_lt (by omega)]
    refine ⟨w', ?_, ?_, hk⟩
    · have hk2 : min ys.length xs.length = k := rfl
      have hk3 : Nat.min ys.length xs.length = k := rfl
      have hst : (storeCells ⟨g, 0, none⟩ vs).run P w = .ok () w' := hrun
      simp [Builtin.copy_, run_underlying ht, Builtin.lenOf, hz, hk3, hfirst, hst, goInt, hk2]
    · refine Own.put hs (fun g2 cap2 cur2 hv2 hg2 _ hsz2 hcur2 => ?_) (by simp [cpy]; omega) hne
      injection hv2 with e1 _ _; injection e1 with e1; injection e1 with e1 _ _; subst e1
      have : cur2 = cur := by
        have h9 : some (Obj.cells cur2 E) = some (Obj.cells cur E) := hg2.symm.trans hg
        injection h9 with h9; injection h9
      subst this
      refine ⟨c', hb', hs', ?_, hq⟩
      rw [cpy, EK.flat_append, EK.flat_drop, ← hcur2]
      apply List.ext_getElem?
      intro q
      rcases Nat.lt_or_ge q (k * K.sz) with hq1 | hq1
      · rw [List.getElem?_take_of_lt (by omega), List.getElem?_append_left (by show q < vs.length; omega)]
        simp only [Array.getElem?_toList]
        rw [← hn q (by omega)]; congr 1; omega
      · rw [List.getElem?_append_right (by show vs.length ≤ q; omega)]
        have hlen : (K.flat (ys.take xs.length)).length = k * K.sz := hvl
        rw [hlen]
        rcases Nat.lt_or_ge q (xs.length * K.sz) with hq2 | hq2
        · have hkeq : k = ys.length := by
            rcases Nat.lt_or_ge ys.length xs.length with h | h
            · exact Nat.min_eq_left (Nat.le_of_lt h)
            · have : k = xs.length := Nat.min_eq_right h
              rw [this] at hq1; omega
          rw [List.getElem?_take_of_lt hq2, List.getElem?_drop, ← hkeq, List.getElem?_take_of_lt (by omega)]
          simp only [Array.getElem?_toList]
          rw [ho q (by omega)]; congr 1; omega
        · rw [List.getElem?_eq_none (by simp; omega), List.getElem?_eq_none (by simp; omega)]
theorem SO.copy0 {α : Type} {K : EK α} {v u : Value} {xs ys : List α} {E t s ty : TypeId} {x y : Operand} {p : String} {af : Array Edge} (ht : P.underlying t = some (.slice E)) (hz : ∀ w, (sizeOf E).run P w = .ok K.sz w) (hx : ev ρ x = some v) (hy : ev ρ y = some u) (hR : Rd K u ys (stars rest))
    (h : SO P n Z w0 ops l ρ (Own E K v (cpy xs ys) :: rest)) : SO P n Z w0 ops (⟨none, .call ⟨.builtin .copy, #[x, y], #[t, s]⟩, ty, p, af, none⟩ :: l) ρ (Own E K v xs :: rest) := by
  intro a w h1 h2 h3 h4 h5
  obtain ⟨w', hr, hs, hk⟩ := copy_run (P := P) (s := s) (ty := ty) ht hz hR h4
  have : (execOp a.eval ⟨none, .call ⟨.builtin .copy, #[x, y], #[t, s]⟩, ty, p, af, none⟩).run P w = .ok (.value (.int .i64 (min ys.length xs.length : Nat))) w' := by
    simp [execOp, resolve, Go.invoke, Go.builtin, h2.ev hx, h2.ev hy, hr]
  exact wpl_value rfl this (h a w' h1 h2 h3 hs (h5.trans hk))
theorem SO.copy {α : Type} {K : EK α} {v u : Value} {xs ys : List α} {d E t s ty : TypeId} {x y : Operand} {p : String} {af : Array Edge} (hd : Nat.blt d n = true) (ht : P.underlying t = some (.slice E)) (hz : ∀ w, (sizeOf E).run P w = .ok K.sz w) (hx : ev ρ x = some v) (hy : ev ρ y = some u) (hR : Rd K u ys (stars rest))
    (h : SO P n Z w0 ops l ((d, .int .i64 (min ys.length xs.length : Nat)) :: ρ) (Own E K v (cpy xs ys) :: rest)) : SO P n Z w0 ops (⟨some d, .call ⟨.builtin .copy, #[x, y], #[t, s]⟩, ty, p, af, none⟩ :: l) ρ (Own E K v xs :: rest) := by
  refine .raw hd fun r w hr hs => ?_
  obtain ⟨w', hrun, hs', hk⟩ := copy_run (P := P) (s := s) (ty := ty) ht hz hR hs
  refine ⟨_, w', ρ, _, ?_, hs', hk, h, fun _ h => h⟩
  simp [execOp, resolve, Go.invoke, Go.builtin, hr x _ hx, hr y _ hy, hrun]
end
end Go.Sl
/-! What slices.Delete does: parts of a row of one's own, put forward in the row itself. -/
set_option linter.unusedVariables false
namespace Go.Sl
open Go.RowKit
def slc3 (v : Value) (lo hi mx sz : Nat) : Value :=
  match v with
  | .slice a _ _ => .slice (if mx = lo then a else a.map (·.add (lo * sz))) (hi - lo) (mx - lo)
  | _ => undef
def slcHi (v : Value) (n : Nat) : Value :=
  match v with
  | .slice a _ cap => .slice a n cap
  | _ => undef
def delN {α : Type} (xs : List α) (i j : Int) : Nat := xs.length - (j.toNat - i.toNat)
/-- The row behind the step forward. -/
def delz {α : Type} (xs : List α) (i j : Int) : List α := xs.take i.toNat ++ xs.drop j.toNat ++ xs.drop (delN xs i j)
def delOk {α : Type} (xs : List α) (i j : Int) : Bool := decide (0 ≤ i) && decide (i ≤ j) && decide (j ≤ (xs.length : Int))
theorem delOk_spec {α : Type} {xs : List α} {i j : Int} (h : delOk xs i j = true) : 0 ≤ i ∧ i ≤ j ∧ j ≤ (xs.length : Int) := by
  simpa [delOk, and_assoc] using h
theorem slcF_of {α : Type} {xs : List α} {i j : Int} (h : delOk xs i j = true) : slcF xs j = some (xs.drop j.toNat) := by
  obtain ⟨h1, h2, h3⟩ := delOk_spec h
  unfold slcF
  rw [decide_eq_true (by omega : 0 ≤ j), decide_eq_true h3]; rfl
theorem len_delz {α : Type} {xs : List α} {i j : Int} (h : delOk xs i j = true) : (delz xs i j).length = xs.length := by
  obtain ⟨h1, h2, h3⟩ := delOk_spec h
  simp only [delz, delN, List.length_append, List.length_take, List.length_drop]; omega
theorem lt_of_del {α : Type} {xs : List α} {i j : Int} (h : delOk xs i j = true) (hb : (i == j) = false) : i < j := by
  obtain ⟨h1, h2, h3⟩ := delOk_spec h
  have : i ≠ j := by simpa using hb
  omega
theorem delN_lt {α : Type} {xs : List α} {i j : Int} (h : delOk xs i j = true) (hlt : i < j) : delN xs i j < xs.length := by
  obtain ⟨h1, h2, h3⟩ := delOk_spec h
  unfold delN; omega
section
variable {P : Program} {f : FuncId} {n : Nat} {Z : Act → World → Prop} {R : Ending → World → Prop} {w0 : Beg} {k : List Item} {ρ ρ' : Env} {H H' pre rest : List HProp} {ops : Array Oper} {l : List Oper}
variable {α : Type} {K : EK α} {v : Value} {xs : List α}
theorem opv_slc3 {A : HProp} {i j : Int} {ki kj km : IntKind} {x a b c : Operand} {t e : TypeId} (ht : P.underlying t = some (.slice e)) (hs : ∀ w, (sizeOf e).run P w = .ok K.sz w) (hR : Rd K v xs A) (hc : delOk xs i j = true) (hx : ev ρ x = some v) (ha : ev ρ a = some (.int ki i)) (hb : ev ρ b = some (.int kj j)) (hm : ev ρ c = some (.int km (xs.length : Int))) :
    OpV P ρ (.slice t x (some a) (some b) (some c)) (slc3 v i.toNat j.toNat xs.length K.sz) := by
  obtain ⟨h1, h2, h3⟩ := delOk_spec hc
  obtain ⟨ad, cap, ⟨rfl, hle⟩, _⟩ := hR
  intro r w d t' p af g hr
  have h4 : ((xs.length : Int)) ≤ (cap : Int) := by omega
  have h5 : i ≤ ((j.toNat : Nat) : Int) := by omega
  have h6 : (0 : Int) ≤ (xs.length : Int) := by omega
  have h7 : 0 ≤ j := by omega
  simp [execOp, hr x _ hx, hr a _ ha, hr b _ hb, hr c _ hm, Instr.sliceAt, Instr.slice, Instr.sliceBounds, Instr.sliceBound, run_underlying ht, hs, asIntOf, h1, h3, h4, h7, slc3, hle, show i ≤ max j 0 by omega]
theorem add_zero' (a : Option Addr) (sz : Nat) : a.map (·.add (0 * sz)) = a := by
  cases a with
  | none => rfl
  | some a => simp [Addr.add]
theorem opv_slcHi {A : HProp} {i j : Int} {ki : IntKind} {x a : Operand} {t e : TypeId} (ht : P.underlying t = some (.slice e)) (hs : ∀ w, (sizeOf e).run P w = .ok K.sz w) (hR : Rd K v xs A) (hc : delOk xs i j = true) (hx : ev ρ x = some v) (ha : ev ρ a = some (.int ki i)) :
    OpV P ρ (.slice t x none (some a) none) (slcHi v i.toNat) := by
  obtain ⟨h1, h2, h3⟩ := delOk_spec hc
  obtain ⟨ad, cap, ⟨rfl, hle⟩, _⟩ := hR
  intro r w d t' p af g hr
  have h4 : i ≤ (cap : Int) := by omega
  have e0 := add_zero' ad K.sz
  simp only [Nat.zero_mul] at e0
  simp [execOp, hr x _ hx, hr a _ ha, Instr.sliceAt, Instr.slice, Instr.sliceBounds, Instr.sliceBound, run_underlying ht, hs, asIntOf, h1, h4, slcHi, e0]
/-- The row's end, behind what is left. -/
theorem opv_slcT {A : HProp} {m L : Nat} {kl kh : IntKind} {x a b : Operand} {t e : TypeId} (ht : P.underlying t = some (.slice e)) (hs : ∀ w, (sizeOf e).run P w = .ok K.sz w) (hR : Rd K v xs A) (hL : xs.length = L) (hm : m ≤ xs.length) (hx : ev ρ x = some (slcHi v m)) (ha : ev ρ a = some (.int kl (m : Int))) (hb : ev ρ b = some (.int kh (L : Int))) :
    OpV P ρ (.slice t x (some a) (some b) none) (slcV v m K.sz) := by
  subst hL
  obtain ⟨ad, cap, ⟨rfl, hle⟩, _⟩ := hR
  intro r w d t' p af g hr
  have h1 : (0 : Int) ≤ (m : Int) := by omega
  have h2 : ((xs.length : Int)) ≤ (cap : Int) := by omega
  have h3 : (m : Int) ≤ (xs.length : Int) := by omega
  have h4 : (0 : Int) ≤ (xs.length : Int) := by omega
  simp [execOp, hr x _ hx, hr a _ ha, hr b _ hb, slcHi, Instr.sliceAt, Instr.slice, Instr.sliceBounds, Instr.sliceBound, run_underlying ht, hs, asIntOf, h2, h3, slcV, hle, hm]
theorem opv_lenHi {A : HProp} {m : Nat} {x : Operand} {tys : Array TypeId} {t e : TypeId} (ht0 : tys[0]? = some t) (ht : P.underlying t = some (.slice e)) (hR : Rd K v xs A) (hx : ev ρ x = some (slcHi v m)) :
    OpV P ρ (.call ⟨.builtin .len, #[x], tys⟩) (.int .i64 (m : Int)) := by
  obtain ⟨a, cap, ⟨rfl, _⟩, _⟩ := hR
  exact opv_len ht0 ht hx
theorem S.shrink {E : TypeId} {m : Nat} (hm : m ≤ xs.length) (h : S P f n R w0 k ρ (Own E K (slcHi v m) (xs.take m) :: rest)) : S P f n R w0 k ρ (Own E K v xs :: rest) :=
  h.sat fun w s => s.weaken fun pm hp => by
    rcases hp with ⟨rfl, rfl⟩ | ⟨g, cap, cur, rfl, hg, hle, hcap, hsz, hcur⟩
    · left
      have : m = 0 := by simpa using hm
      subst this; exact ⟨rfl, rfl⟩
    · right
      refine ⟨g, cap, cur, ?_, hg, ?_, hcap, hsz, ?_⟩
      · simp only [slcHi, List.length_take, Nat.min_eq_left hm]
      · simp only [List.length_take]; omega
      · simp only [List.length_take, Nat.min_eq_left hm]
        rw [EK.flat_take, ← hcur, List.take_take]
        congr 1
        have : m * K.sz ≤ xs.length * K.sz := Nat.mul_le_mul_right _ hm
        omega
/-- Cells of an owned row, put anew. -/
theorem row_put {E : TypeId} {w w' : World} {xs' : List α} {o : Nat} {us : List Value} (hs : Sat w (Own E K v xs :: rest)) (hne : xs ≠ []) (hl : xs'.length = xs.length) (hfit : o + us.length ≤ xs.length * K.sz) (hflat : K.flat xs' = splice (K.flat xs) o us)
    (hrun : ∀ g cap cur, v = .slice (some ⟨g, 0, none⟩) xs.length cap → w.heap[g]? = some (.cells cur E (0, 0)) → ∃ c', w'.heap[g]? = some (.cells c' E (0, 0)) ∧ c'.size = cur.size ∧ (∀ j, j < o ∨ o + us.length ≤ j → c'[j]? = cur[j]?) ∧ (∀ j, j < us.length → c'[o + j]? = us[j]?) ∧ ∀ q, q ≠ g → w'.heap[q]? = w.heap[q]?) : Sat w' (Own E K v xs' :: rest) := by
  refine Own.put hs (fun g cap cur hv hg hle hsz hcur => ?_) hl hne
  obtain ⟨c', h1, h2, h3, h4, h5⟩ := hrun g cap cur hv hg
  have hszl : xs.length * K.sz ≤ cap * K.sz := Nat.mul_le_mul_right _ hle
  refine ⟨c', h1, h2, ?_, h5⟩
  have hcc : c'.toList = splice cur.toList o us := by
    apply List.ext_getElem?
    intro q
    simp only [Array.getElem?_toList, splice]
    rcases Nat.lt_or_ge q o with hq1 | hq1
    · rw [h3 q (by omega), List.getElem?_append_left (by simp; omega), List.getElem?_take_of_lt hq1]; simp
    · rw [List.getElem?_append_right (by simp; omega), List.length_take, Nat.min_eq_left (by simp; omega)]
      rcases Nat.lt_or_ge (q - o) us.length with hq2 | hq2
      · rw [List.getElem?_append_left hq2, ← h4 (q - o) hq2]; congr 1; omega
      · rw [List.getElem?_append_right hq2, List.getElem?_drop, h3 q (by omega)]
        simp only [Array.getElem?_toList]; congr 1; omega
  rw [hcc, splice, take_splice _ _ _ _ hfit (by simp; omega), hcur, hflat, splice]
theorem flat_delz {i j : Int} (h : delOk xs i j = true) : K.flat (delz xs i j) = splice (K.flat xs) (i.toNat * K.sz) (K.flat (xs.drop j.toNat)) := by
  obtain ⟨h1, h2, h3⟩ := delOk_spec h
  have e1 : (K.flat (xs.drop j.toNat)).length = (xs.length - j.toNat) * K.sz := by rw [EK.length_flat, List.length_drop]
  simp only [delz, EK.flat_append, splice]
  rw [EK.flat_take, EK.flat_drop K xs (delN xs i j), e1, List.append_assoc]
  congr 3
  unfold delN
  rw [← Nat.add_mul]; congr 1; omega
theorem SO.appendDel {E d t ty : Nat} {x y : Operand} {p : String} {af : Array Edge} {i : Int} {j : Int} {inf : TypeInfo} (hd : Nat.blt d n = true) (ht : P.underlying t = some (.slice E)) (hi : P.info? E = some inf) (hsize : inf.size = K.sz) (hc : delOk xs i j = true) (hlt : i < j)
    (hx : ev ρ x = some (slcHi v i.toNat)) (hy : ev ρ y = some (slcV v j.toNat K.sz))
    (h : SO P n Z w0 ops l ((d, slcHi v (delN xs i j)) :: ρ) (Own E K v (delz xs i j) :: rest)) : SO P n Z w0 ops (⟨some d, .call ⟨.builtin .append, #[x, y], #[t, t]⟩, ty, p, af, none⟩ :: l) ρ (Own E K v xs :: rest) := by
  obtain ⟨h1, h2, h3⟩ := delOk_spec hc
  refine .raw hd fun r w hr hs => ?_
  obtain ⟨mm, hmm, hown⟩ := hs.head
  rcases hown with ⟨_, rfl⟩ | ⟨g, cap, cur, rfl, hg, hle, hcap, hsz, hcur⟩
  · simp at h3; omega
  have hg := hmm _ _ hg
  have hszl : xs.length * K.sz ≤ cap * K.sz := Nat.mul_le_mul_right _ hle
  have hjl : j.toNat ≤ xs.length := by omega
  have e1 : (K.flat (xs.drop j.toNat)).length = (xs.length - j.toNat) * K.sz := by rw [EK.length_flat, List.length_drop]
  have hroom : i.toNat + (xs.length - j.toNat) ≤ cap := by omega
  have hfit : i.toNat * K.sz + (K.flat (xs.drop j.toNat)).length ≤ xs.length * K.sz := by
    rw [e1, ← Nat.add_mul]; exact Nat.mul_le_mul_right _ (by omega)
  obtain ⟨w', c', hrun, hb', hs', ho, hn, hq, hk⟩ := storeCells_run (P := P) (b := g) (o := i.toNat * K.sz) (K.flat (xs.drop j.toNat)) 0 w cur E hg (fun u hu => K.flat_one u hu) (by omega)
  have hfc : (Builtin.firstCells K.sz (xs.length - j.toNat) (slcV (.slice (some ⟨g, 0, none⟩) xs.length cap) j.toNat K.sz)).run P w = .ok (K.flat (xs.drop j.toNat)).toArray w := by
    by_cases q : xs.length = j.toNat
    · have e0 : K.flat (xs.drop j.toNat) = [] := List.eq_nil_of_length_eq_zero (by rw [e1, q, Nat.sub_self, Nat.zero_mul])
      rw [e0, show xs.length - j.toNat = 0 by omega]
      simp only [slcV]
      split <;> simp [Builtin.firstCells, loadCells, loadCellsFrom]
    · simp only [slcV, if_neg (by omega : ¬ cap = j.toNat), Option.map_some, Builtin.firstCells]
      have ea : (⟨g, 0, none⟩ : Addr).add (j.toNat * K.sz) = ⟨g, j.toNat * K.sz, none⟩ := by
        unfold Addr.add; split
        · rename_i h; simp [h]
        · simp
      rw [ea]
      refine loadCells_run e1 fun q hq' => ?_
      have hb1 : (xs.length - j.toNat) * K.sz + j.toNat * K.sz = xs.length * K.sz := by rw [← Nat.add_mul]; congr 1; omega
      rw [cell_of_blk hg, EK.flat_drop, List.getElem?_drop, ← hcur, List.getElem?_take_of_lt (by omega)]; simp
  refine ⟨_, w', ρ, _, ?_, ?_, hk, h, fun _ h => h⟩
  · have hst : (storeCells ⟨g, i.toNat * K.sz, none⟩ (K.flat (xs.drop j.toNat))).run P w = .ok () w' := hrun
    have ea : (⟨g, 0, none⟩ : Addr).add (i.toNat * K.sz) = ⟨g, i.toNat * K.sz, none⟩ := by
      unfold Addr.add; split
      · rename_i h; simp [h]
      · simp
    have hlen : ∀ w, (Builtin.lenOf (slcV (.slice (some ⟨g, 0, none⟩) xs.length cap) j.toNat K.sz)).run P w = .ok (xs.length - j.toNat) w := fun w => by simp [slcV, Builtin.lenOf]
    have hdn : i.toNat + (xs.length - j.toNat) = delN xs i j := by unfold delN; omega
    have hroom' : delN xs i j ≤ cap := by rw [← hdn]; exact hroom
    simp only [execOp, resolve]
    simp only [Sem.run_bind, Sem.run_pure, Result.andThen_ok, Go.invoke, Go.builtin]
    simp [hr x _ hx, hr y _ hy, slcHi, Builtin.append_, run_underlying ht, sizeOf, typeInfo, hi, hlen, hsize, hroom', hfc, ea, hst, hdn]
  · refine row_put hs (by intro e; subst e; simp at h3; omega) (len_delz hc) hfit (flat_delz hc) fun g2 cap2 cur2 hv2 hg2 => ?_
    injection hv2 with e1 _ _; injection e1 with e1; injection e1 with e1 _ _; subst e1
    have : cur2 = cur := by
      have h9 : some (Obj.cells cur2 E) = some (Obj.cells cur E) := hg2.symm.trans hg
      injection h9 with h9; injection h9
    subst this
    exact ⟨c', hb', hs', fun j hj => ho j (by omega), fun j hj => by have := hn j hj; simpa using this, hq⟩
theorem SO.clearT {E t ty m : Nat} {x : Operand} {p : String} {af : Array Edge} {z : Value} {zx : α} (ht : P.underlying t = some (.slice E)) (hz : ∀ w, (zeroValue E).run P w = .ok z w) (hzx : z.cells = (K.enc zx).toArray) (hm : m < xs.length) (hx : ev ρ x = some (slcV v m K.sz))
    (h : SO P n Z w0 ops l ρ (Own E K v (xs.take m ++ List.replicate (xs.length - m) zx) :: rest)) : SO P n Z w0 ops (⟨none, .call ⟨.builtin .clear, #[x], #[t]⟩, ty, p, af, none⟩ :: l) ρ (Own E K v xs :: rest) := by
  have e1 : (K.flat (List.replicate (xs.length - m) zx)).length = (xs.length - m) * K.sz := by rw [EK.length_flat, List.length_replicate]
  intro a w h1 h2 h3 h4 h5
  obtain ⟨mm, hmm, hown⟩ := h4.head
  rcases hown with ⟨_, rfl⟩ | ⟨g, cap, cur, rfl, hg, hle, hcap, hsz, hcur⟩
  · simp at hm
  have hg := hmm _ _ hg
  have hszl : xs.length * K.sz ≤ cap * K.sz := Nat.mul_le_mul_right _ hle
  have hb1 : (xs.length - m) * K.sz + m * K.sz = xs.length * K.sz := by rw [← Nat.add_mul]; congr 1; omega
  obtain ⟨w', c', hrun, hb', hs', ho, hn, hq, hk⟩ := storeCells_run (P := P) (b := g) (o := m * K.sz) (K.flat (List.replicate (xs.length - m) zx)) 0 w cur E hg (fun u hu => K.flat_one u hu) (by omega)
  have hzc : (Builtin.zeroCells z.cells (xs.length - m)).toList = K.flat (List.replicate (xs.length - m) zx) := by
    have hs : z.cells.size = K.sz := by rw [hzx]; simp [K.len]
    have : Builtin.zeroCells z.cells (xs.length - m) = madeCells z.cells ((xs.length - m) * K.sz) := by simp only [Builtin.zeroCells, madeCells, hs]
    rw [this, made_flat K zx z hzx]
  have ea : (⟨g, 0, none⟩ : Addr).add (m * K.sz) = ⟨g, m * K.sz, none⟩ := by
    unfold Addr.add; split
    · rename_i h; simp [h]
    · simp
  have hst : (storeCells ⟨g, m * K.sz, none⟩ (K.flat (List.replicate (xs.length - m) zx))).run P w = .ok () w' := hrun
  have hsat : Sat w' (Own E K (.slice (some ⟨g, 0, none⟩) xs.length cap) (xs.take m ++ List.replicate (xs.length - m) zx) :: rest) := by
    refine row_put (o := m * K.sz) (us := K.flat (List.replicate (xs.length - m) zx)) h4 (by intro e; subst e; simp at hm) (by simp; omega) (by omega) ?_ fun g2 cap2 cur2 hv2 hg2 => ?_
    · rw [EK.flat_append, EK.flat_take, splice, List.drop_eq_nil_of_le (by rw [EK.length_flat]; omega), List.append_nil]
    · injection hv2 with e1 _ _; injection e1 with e1; injection e1 with e1 _ _; subst e1
      have : cur2 = cur := by
        have h9 : some (Obj.cells cur2 E) = some (Obj.cells cur E) := hg2.symm.trans hg
        injection h9 with h9; injection h9
      subst this
      exact ⟨c', hb', hs', fun j hj => ho j (by omega), fun j hj => by have := hn j hj; simpa using this, hq⟩
  have hv : a.eval x = slcV (.slice (some ⟨g, 0, none⟩) xs.length cap) m K.sz := h2.ev hx
  have hvv : slcV (.slice (some ⟨g, 0, none⟩) xs.length cap) m K.sz = .slice (some ⟨g, m * K.sz, none⟩) (xs.length - m) (cap - m) := by
    simp only [slcV, if_neg (by omega : ¬ cap = m), Option.map_some, ea]
  obtain ⟨q, hq0⟩ : ∃ q, xs.length - m = q + 1 := ⟨xs.length - m - 1, by omega⟩
  have : (execOp a.eval ⟨none, .call ⟨.builtin .clear, #[x], #[t]⟩, ty, p, af, none⟩).run P w = .ok (.value (.tuple #[])) w' := by
    rw [hq0] at hvv hzc hst
    simp [execOp, resolve, Go.invoke, Go.builtin, hv, hvv, Builtin.clear_, run_underlying ht, hz, hzc, hst]
  exact wpl_value rfl this (h a w' h1 h2 h3 hsat (h5.trans hk))
end
end Go.Sl
/-! Pointers that may be nil: what a function hands back, and what they are like. -/
set_option linter.unusedVariables false
namespace Go.Sl
variable {P : Program} {ρ : Env}
/-- By whether there is one. -/
def oE {α β : Type} (o : Option α) (a : β) (f : α → β) : β := match o with | none => a | some x => f x
theorem oE_n {α β : Type} {a : β} {f : α → β} {r : β} (h : oE none a f = r) : a = r := h
theorem oE_s {α β : Type} {a : β} {f : α → β} {x : α} {r : β} (h : oE (some x) a f = r) : f x = r := h
theorem opv_eqlPN {x : Operand} {t t2 : TypeId} {e : TypeId} (ht : P.underlying t = some (.pointer e)) (hx : ev ρ x = some (.pointer none)) : OpV P ρ (.binOp .eql t x (.const (.pointer none)) t2) (.bool true) :=
  fun r w d t' p af g hr => by
    have h0 : r (.const (.pointer none)) = .pointer none := hr _ _ rfl
    have key : ∀ d, (Op.equalIn (d + 2) t (.pointer none) (.pointer none)).run P w = .ok true w := fun d => by simp [Op.equalIn, run_underlying ht]
    simp [execOp, hr x _ hx, h0, eqGuard, binOp, eql_run w key]
theorem opv_neqPN {x : Operand} {t t2 : TypeId} {e : TypeId} (ht : P.underlying t = some (.pointer e)) (hx : ev ρ x = some (.pointer none)) : OpV P ρ (.binOp .neq t x (.const (.pointer none)) t2) (.bool false) :=
  fun r w d t' p af g hr => by
    have h0 : r (.const (.pointer none)) = .pointer none := hr _ _ rfl
    have key : ∀ d, (Op.equalIn (d + 2) t (.pointer none) (.pointer none)).run P w = .ok true w := fun d => by simp [Op.equalIn, run_underlying ht]
    simp [execOp, hr x _ hx, h0, eqGuard, binOp, eql_run w key]
end Go.Sl
/-! Maps whose keys are integers: a list of what was put, in the order in which the keys came. -/
set_option linter.unusedVariables false
namespace Go.Sl
open Go.RowKit Go.MapKept
section
variable {α : Type}
def mfind : List (Int × α) → Int → Option α
  | [], _ => none
  | p :: l, k => if p.1 = k then some p.2 else mfind l k
def mset : List (Int × α) → Int → α → List (Int × α)
  | [], k, v => [(k, v)]
  | p :: l, k, v => if p.1 = k then (k, v) :: l else p :: mset l k v
/-- What is put: a key is one of its kind, and the map isn't too great. -/
def mput (l : List (Int × α)) (k : Int) (v : α) : Option (List (Int × α)) := bif (Lit.int .i64 k).wf && decide (l.length < 4294967296) then some (mset l k v) else none
def ents (enc : α → Value) (l : List (Int × α)) : List (Value × Value) := l.map fun p => (Value.int .i64 p.1, enc p.2)
def MapB (enc : α → Value) (b : Nat) (l : List (Int × α)) : HProp := fun m => ∃ es clock, m b = some (.map es clock) ∧ Stamped es clock ∧ es.toList.map (fun e => (e.key, e.val)) = ents enc l ∧ (∀ p ∈ l, (Lit.int .i64 p.1).wf = true) ∧ l.length ≤ 4294967296
theorem mset_len : ∀ (l : List (Int × α)) (k : Int) (v : α), (mset l k v).length ≤ l.length + 1
  | [], _, _ => by simp [mset]
  | p :: l, k, v => by
    unfold mset; split
    · simp
    · have := mset_len l k v; simp; omega
theorem mset_mem : ∀ (l : List (Int × α)) (k : Int) (v : α) (p : Int × α), p ∈ mset l k v → p ∈ l ∨ p = (k, v)
  | [], _, _, _, h => by simp [mset] at h; exact .inr h
  | q :: l, k, v, p, h => by
    unfold mset at h; split at h
    · rcases List.mem_cons.1 h with z | z
      · exact .inr z
      · exact .inl (List.mem_cons_of_mem _ z)
    · rcases List.mem_cons.1 h with z | z
      · exact .inl (by rw [z]; exact List.mem_cons_self)
      · rcases mset_mem l k v p z with y | y
        · exact .inl (List.mem_cons_of_mem _ y)
        · exact .inr y
theorem findNow_ents (enc : α → Value) (k : Int) : ∀ (es : List MapEntry) (l : List (Int × α)) (i : Nat), es.map (fun e => (e.key, e.val)) = ents enc l →
    (∃ j x, Instr.findNow (.int .i64) (.int .i64 k) es i = some (some (i + j, enc x)) ∧ mfind l k = some x ∧ (es[j]?).map (·.key) = some (.int .i64 k) ∧ ∀ v, mset l k v = l.set j (k, v)) ∨
    (Instr.findNow (.int .i64) (.int .i64 k) es i = some none ∧ mfind l k = none ∧ (∀ e ∈ es, e.key ≠ .int .i64 k) ∧ ∀ v, mset l k v = l ++ [(k, v)])
  | [], [], i, _ => .inr ⟨rfl, rfl, fun _ h => (by cases h), fun _ => rfl⟩
  | [], _ :: _, _, h => by simp [ents] at h
  | _ :: _, [], _, h => by simp [ents] at h
  | e :: es, p :: l, i, h => by
    simp only [ents, List.map_cons, List.cons.injEq, Prod.mk.injEq] at h
    obtain ⟨⟨h1, h2⟩, h3⟩ := h
    unfold Instr.findNow
    rw [h1]
    by_cases c : k = p.1
    · have : Instr.sameNow (.int .i64) (.int .i64 k) (.int .i64 p.1) = some true := by simp [Instr.sameNow, c]
      rw [this]
      refine .inl ⟨0, p.2, by simp [h2], by unfold mfind; rw [if_pos c.symm], by simp [h1, c], fun v => by unfold mset; rw [if_pos c.symm]; rfl⟩
    · have : Instr.sameNow (.int .i64) (.int .i64 k) (.int .i64 p.1) = some false := by simp [Instr.sameNow, c]
      rw [this]
      rcases findNow_ents enc k es l (i + 1) h3 with ⟨j, x, a1, a2, a3, a4⟩ | ⟨a1, a2, a3, a4⟩
      · refine .inl ⟨j + 1, x, by rw [show i + (j + 1) = i + 1 + j by omega]; exact a1, by unfold mfind; rw [if_neg (fun z => c z.symm)]; exact a2, by simpa using a3, fun v => by unfold mset; rw [if_neg (fun z => c z.symm), a4 v]; rfl⟩
      · refine .inr ⟨a1, by unfold mfind; rw [if_neg (fun z => c z.symm)]; exact a2, fun e' he => ?_, fun v => by unfold mset; rw [if_neg (fun z => c z.symm), a4 v]; rfl⟩
        rcases List.mem_cons.1 he with z | z
        · rw [z, h1]; intro y; injection y with _ y; exact c y.symm
        · exact a3 e' z
end
section
variable {P : Program} {n : Nat} {Z : Act → World → Prop} {w0 : Beg} {ρ : Env} {H rest : List HProp} {ops : Array Oper} {l : List Oper} {α : Type}
theorem SO.makeMap {d t ty : Nat} {p : String} {af : Array Edge} (enc : α → Value) (hd : Nat.blt d n = true)
    (h : ∀ b, SO P n Z w0 ops l ((d, .map (some b)) :: ρ) (MapB enc b [] :: H)) : SO P n Z w0 ops (⟨some d, .makeMap t none, ty, p, af, none⟩ :: l) ρ H := by
  refine .raw hd fun r w hr hs => ⟨_, w.alloc (.map #[] 0), ρ, MapB enc w.heap.size [] :: H, ?_, ?_, ?_, h w.heap.size, fun _ h => h⟩
  · simp only [execOp, Option.map_none]
    simp [run_makeMap]
  · refine hs.alloc _ _ ⟨#[], 0, by simp, stamped_empty 0, rfl, by simp, by simp⟩
  · exact .alloc _ _
theorem lookup_run {enc : α → Value} {b : Nat} {xs : List (Int × α)} {m : PH} {w : World} {t kt et : TypeId} {k : Int} {z : Value} (hm : m.Sub (hp w)) (hb : MapB enc b xs m) (ht : P.underlying t = some (.map kt et)) (hk : P.underlying kt = some (.int .i64)) (hz : ∀ w, (zeroValue et).run P w = .ok z w) (ok : Bool) :
    (Instr.lookup t (.map (some b)) (.int .i64 k) ok).run P w = .ok (if ok then .tuple #[((mfind xs k).map enc).getD z, .bool (mfind xs k).isSome] else ((mfind xs k).map enc).getD z) w := by
  obtain ⟨es, clock, e1, e2, e3, e4, e5⟩ := hb
  have hh : w.heap[b]? = some (.map es clock) := hm b _ e1
  have kk : IsKey (.int .i64) (.int .i64 k) := rfl
  have ck := fun e => MapKept.run_checkKey (w := w) hk kk e 9999
  rcases findNow_ents enc k es.toList xs 0 e3 with ⟨j, x, a1, a2, _⟩ | ⟨a1, a2, _⟩
  · have fk := MapKept.run_findKey (w := w) hk a1
    cases ok <;> simp [Instr.lookup.eq_1, run_underlying ht, MapKept.run_getObj_map hh, ck, fk, a2]
  · have fk := MapKept.run_findKey (w := w) hk a1
    cases ok <;> simp [Instr.lookup.eq_1, run_underlying ht, MapKept.run_getObj_map hh, ck, fk, a2, hz]
theorem SO.lookupOk {d t ty : Nat} {kt et : TypeId} {x ix : Operand} {p : String} {af : Array Edge} {enc : α → Value} {b : Nat} {xs : List (Int × α)} {k : Int} {z : Value} (hd : Nat.blt d n = true) (ht : P.underlying t = some (.map kt et)) (hk : P.underlying kt = some (.int .i64)) (hz : ∀ w, (zeroValue et).run P w = .ok z w) (hx : ev ρ x = some (.map (some b))) (hi : ev ρ ix = some (.int .i64 k))
    (h : SO P n Z w0 ops l ((d, .tuple #[((mfind xs k).map enc).getD z, .bool (mfind xs k).isSome]) :: ρ) (MapB enc b xs :: rest)) : SO P n Z w0 ops (⟨some d, .lookup t x ix true, ty, p, af, none⟩ :: l) ρ (MapB enc b xs :: rest) := by
  refine .raw hd fun r w hr hs => ⟨_, _, ρ, _, ?_, hs, .refl w, h, fun _ h => h⟩
  obtain ⟨m, hm, hb⟩ := hs.head
  simp [execOp, hr x _ hx, hr ix _ hi, lookup_run hm hb ht hk hz true]
theorem SO.lookup1 {d t ty : Nat} {kt et : TypeId} {x ix : Operand} {p : String} {af : Array Edge} {enc : α → Value} {b : Nat} {xs : List (Int × α)} {k : Int} {z : Value} (hd : Nat.blt d n = true) (ht : P.underlying t = some (.map kt et)) (hk : P.underlying kt = some (.int .i64)) (hz : ∀ w, (zeroValue et).run P w = .ok z w) (hx : ev ρ x = some (.map (some b))) (hi : ev ρ ix = some (.int .i64 k))
    (h : SO P n Z w0 ops l ((d, ((mfind xs k).map enc).getD z) :: ρ) (MapB enc b xs :: rest)) : SO P n Z w0 ops (⟨some d, .lookup t x ix false, ty, p, af, none⟩ :: l) ρ (MapB enc b xs :: rest) := by
  refine .raw hd fun r w hr hs => ⟨_, _, ρ, _, ?_, hs, .refl w, h, fun _ h => h⟩
  obtain ⟨m, hm, hb⟩ := hs.head
  simp [execOp, hr x _ hx, hr ix _ hi, lookup_run hm hb ht hk hz false]
/-- A block is turned. -/
theorem Sat.putObj {w : World} {A A' : HProp} {l : List HProp} {b : Nat} {o' : Obj} (h : Sat w (A :: l))
    (hA : ∀ m, A m → PH.Sub m (hp w) → (∃ o, m b = some o) ∧ A' (fun j => if j = b then some o' else m j)) : Sat { w with heap := w.heap.setIfInBounds b o' } (A' :: l) := by
  refine h.update fun m1 ha hs hbig => ?_
  obtain ⟨⟨o, hb⟩, hA'⟩ := hA m1 ha hs
  have hlt : b < w.heap.size := by
    have : w.heap[b]? = some o := hs b o hb
    exact (Array.getElem?_eq_some_iff.1 this).1
  refine ⟨_, hA', fun j q e => ?_, fun j hj _ => ?_, fun j hj hn => ?_⟩
  · show (w.heap.setIfInBounds b o')[j]? = some q
    have e' : (if j = b then some o' else m1 j) = some q := e
    clear e
    split at e'
    · rename_i z; subst z
      rw [Array.getElem?_setIfInBounds_self_of_lt hlt]; exact e'
    · rename_i z
      rw [Array.getElem?_setIfInBounds_ne (fun y => z y.symm)]; exact hs j q e'
  · show (if j = b then some o' else m1 j) = none
    split
    · rename_i h2; subst h2; simp [hb] at hj
    · exact hj
  · show (w.heap.setIfInBounds b o')[j]? = w.heap[j]?
    exact Array.getElem?_setIfInBounds_ne (fun e => by subst e; simp [hb] at hn)
theorem Keep.putObj (w : World) (b : Nat) (o' : Obj) : Keep w { w with heap := w.heap.setIfInBounds b o' } := ⟨rfl, rfl, rfl, by simp⟩
theorem mput_some {l ys : List (Int × α)} {k : Int} {v : α} (h : mput l k v = some ys) : (Lit.int .i64 k).wf = true ∧ l.length < 4294967296 ∧ ys = mset l k v := by
  unfold mput at h
  cases hc : ((Lit.int .i64 k).wf && decide (l.length < 4294967296)) with
  | false => rw [hc] at h; cases h
  | true =>
    rw [hc, cond_true] at h
    injection h with h
    simp only [Bool.and_eq_true, decide_eq_true_eq] at hc
    exact ⟨hc.1, hc.2, h.symm⟩
theorem update_run {enc : α → Value} {b : Nat} {xs : List (Int × α)} {m : PH} {w : World} {t kt et : TypeId} {k : Int} {v : α} (hm : m.Sub (hp w)) (hb : MapB enc b xs m) (ht : P.underlying t = some (.map kt et)) (hk : P.underlying kt = some (.int .i64)) :
    ∃ es clock, (Instr.mapUpdate t (.map (some b)) (.int .i64 k) (enc v)).run P w = .ok () { w with heap := w.heap.setIfInBounds b (.map es clock) } ∧ Stamped es clock ∧ es.toList.map (fun e => (e.key, e.val)) = ents enc (mset xs k v) := by
  obtain ⟨es, clock, e1, e2, e3, e4, e5⟩ := hb
  have hh : w.heap[b]? = some (.map es clock) := hm b _ e1
  have kk : IsKey (.int .i64) (.int .i64 k) := rfl
  have ck := fun e => MapKept.run_checkKey (w := w) hk kk e 9999
  rcases findNow_ents enc k es.toList xs 0 e3 with ⟨j, x, a1, a2, a3, a4⟩ | ⟨a1, a2, a3, a4⟩
  · have fk := MapKept.run_findKey (w := w) hk a1
    rw [Array.getElem?_toList] at a3
    have ks : ∀ w, (Instr.keyThatStays (.int .i64 k) (.int .i64 k)).run P w = .ok (.int .i64 k) w := fun w => by
      simp [Instr.keyThatStays, Instr.sameBits]
    refine ⟨es.modify j fun e => { e with key := .int .i64 k, val := enc v }, clock, ?_, ?_, ?_⟩
    · have so := MapKept.run_setObj_map (P := P) (.map (es.modify j fun e => { e with key := .int .i64 k, val := enc v }) clock) hh
      simp [Instr.mapUpdate.eq_1, run_underlying ht, MapKept.run_getObj_map hh, ck, fk, a3, ks, so]
    · refine stamped_modify e2 j _ (fun _ _ => rfl) (fun e _ he => ?_)
      rw [he] at a3
      injection a3 with a3
      exact a3.symm
    · rw [a4 v]
      have hj : j < es.size := by
        rcases Nat.lt_or_ge j es.size with z | z
        · exact z
        · rw [Array.getElem?_eq_none z] at a3; cases a3
      apply List.ext_getElem?
      intro q
      have e3q := congrArg (fun l => l[q]?) e3
      simp only [ents, List.getElem?_map, Array.getElem?_toList] at e3q
      simp only [ents, List.getElem?_map, Array.getElem?_toList, Array.getElem?_modify, List.getElem?_set]
      by_cases c : j = q
      · subst c
        have hl : j < xs.length := by
          have := congrArg List.length e3
          simp [ents] at this
          omega
        rw [if_pos rfl, if_pos rfl, if_pos hl, Array.getElem?_eq_getElem hj]; rfl
      · rw [if_neg c, if_neg c]; exact e3q
  · have fk := MapKept.run_findKey (w := w) hk a1
    refine ⟨es.push { key := .int .i64 k, val := enc v, born := clock }, clock + 1, ?_, stamped_push e2 a3, ?_⟩
    · have so := MapKept.run_setObj_map (P := P) (.map (es.push { key := .int .i64 k, val := enc v, born := clock }) (clock + 1)) hh
      simp [Instr.mapUpdate.eq_1, run_underlying ht, MapKept.run_getObj_map hh, ck, fk, so]
    · rw [a4 v]
      simp [ents, e3]
theorem SO.mapUpdate {t ty : Nat} {kt et : TypeId} {x ix y : Operand} {p : String} {af : Array Edge} {enc : α → Value} {b : Nat} {xs ys : List (Int × α)} {k : Int} {v : α} (ht : P.underlying t = some (.map kt et)) (hk : P.underlying kt = some (.int .i64)) (hx : ev ρ x = some (.map (some b))) (hi : ev ρ ix = some (.int .i64 k)) (hy : ev ρ y = some (enc v)) (hm : mput xs k v = some ys)
    (h : SO P n Z w0 ops l ρ (MapB enc b ys :: rest)) : SO P n Z w0 ops (⟨none, .mapUpdate t x ix y, ty, p, af, none⟩ :: l) ρ (MapB enc b xs :: rest) := by
  obtain ⟨m1, m2, rfl⟩ := mput_some hm
  refine .raw0 fun r w hr hs => ?_
  obtain ⟨m, hm', hb⟩ := hs.head
  obtain ⟨es, clock, hrun, hst, hen⟩ := update_run (v := v) hm' hb ht hk (k := k)
  refine ⟨_, MapB enc b (mset xs k v) :: rest, ?_, ?_, Keep.putObj w b (.map es clock), h⟩
  · simp [execOp, hr x _ hx, hr ix _ hi, hr y _ hy, hrun]
  · refine Sat.putObj hs fun q hq _ => ?_
    obtain ⟨es0, c0, f1, f2, f3, f4, f5⟩ := hq
    refine ⟨⟨_, f1⟩, es, clock, by simp, hst, hen, fun p hp => ?_, ?_⟩
    · rcases mset_mem xs k v p hp with z | z
      · exact f4 p z
      · rw [z]; exact m1
    · have := mset_len xs k v; omega
theorem SO.lenMap {d t ty : Nat} {kt et : TypeId} {x : Operand} {p : String} {af : Array Edge} {enc : α → Value} {b : Nat} {xs : List (Int × α)} (hd : Nat.blt d n = true) (ht : P.underlying t = some (.map kt et)) (hx : ev ρ x = some (.map (some b)))
    (h : SO P n Z w0 ops l ((d, .int .i64 (xs.length : Int)) :: ρ) (MapB enc b xs :: rest)) : SO P n Z w0 ops (⟨some d, .call ⟨.builtin .len, #[x], #[t]⟩, ty, p, af, none⟩ :: l) ρ (MapB enc b xs :: rest) := by
  refine .raw hd fun r w hr hs => ⟨_, _, ρ, _, ?_, hs, .refl w, h, fun _ h => h⟩
  obtain ⟨m, hm, es, clock, e1, e2, e3, e4, e5⟩ := hs.head
  have hh : w.heap[b]? = some (.map es clock) := hm b _ e1
  have hl : es.size = xs.length := by
    have := congrArg List.length e3
    simpa [ents] using this
  simp [execOp, resolve, Go.invoke, Go.builtin, hr x _ hx, Builtin.len_, run_underlying ht, MapKept.run_getObj_map hh, hl, goInt]
end
end Go.Sl
/-! Range over a function: the loop's record and the block of deferred calls are resources; a call of yield is a round. -/
set_option linter.unusedVariables false
namespace Go.Sl
open Go.RowKit
theorem fmRange {α : Type} (l : List α) : (List.range l.length).filterMap (fun i => l[i]?) = l := by
  apply List.ext_getElem?
  induction l with
  | nil => intro i; simp
  | cons a l ih =>
    intro i
    rw [List.length_cons, List.range_succ_eq_map, List.filterMap_cons]
    simp only [List.getElem?_cons_zero, List.filterMap_map, Function.comp_def, Nat.succ_eq_add_one, List.getElem?_cons_succ]
    cases i with
    | zero => rfl
    | succ i => simpa using ih i
/-- In another order: which is told by places. -/
theorem permIdx {α : Type} {l l' : List α} (idx : List Nat) (h1 : (idx.isPerm (List.range l.length)) = true) (h2 : idx.filterMap (fun i => l[i]?) = l') : l.Perm l' := by
  have h3 := (List.isPerm_iff.1 h1).filterMap (fun i => l[i]?)
  rw [fmRange, h2] at h3
  exact h3.symm
/-- A block. -/
def Blk (b : Nat) (o : Obj) : HProp := fun m => m b = some o
theorem Sat.blkHead {w : World} {b : Nat} {o : Obj} {H : List HProp} (h : Sat w (Blk b o :: H)) : w.heap[b]? = some o := by
  obtain ⟨m, hm, hb⟩ := h.head
  exact hm b o hb
theorem Sat.blkPut {w : World} {b : Nat} {o o' : Obj} {H : List HProp} (h : Sat w (Blk b o :: H)) : Sat (w.putObj b o') (Blk b o' :: H) :=
  Sat.putObj h fun m hm _ => ⟨⟨o, hm⟩, by show (if b = b then some o' else m b) = some o'; simp⟩
theorem Keep.putObj' (w : World) (b : Nat) (o' : Obj) : Keep w (w.putObj b o') := Keep.putObj w b o'
/-- What a call of yield comes to. -/
def YCt (P : Program) (l : Nat) (vals : List Value) (pre : List HProp) (post : Bool → List HProp → Prop) : Prop :=
  ∀ (w : World) (F : HProp), Sat w (pre ++ [F]) → ∃ fn tmps assign body, (Instr.yield l vals.toArray).run P w = .ok (.round l fn tmps assign body) w ∧
    RoundIn (fw none) 0 P l fn tmps assign body w fun e w' => ∃ c H', e = .returned (.bool c) ∧ post c H' ∧ Sat w' (H' ++ [F]) ∧ Keep w w'
/-- A contract of a function that calls yield. -/
theorem Ct.introY {P : Program} {g : FuncId} {fn : Func} {c : Code} {vals : List Value} {rd : HProp → Prop} {pre : List HProp} {post : Value → List HProp → Prop} {n : Nat}
    (hf : P.funcs[g]? = some fn) (hb : fn.body = some c) (hn : fn.ntmps = n) (hl : Nat.ble vals.length n = true)
    (h : ∀ R (w0 : World) F, rd F → (∀ w v H', post v H' → Sat w (H' ++ [F]) → Keep w0 w → R (.returned v) w) → S P g n R ⟨w0, [], some none⟩ [.code c] (num 0 vals) (pre ++ [F])) : Ct P g vals rd pre post :=
  Ct.intro hf hb hn hl fun R w0 F hF hR a w h1 h2 h3 h4 h5 => h R w0 F hF hR a w h1 h2 h3 h4 h5
theorem Rd.last {α : Type} {K : EK α} {v : Value} {xs : List α} {F : HProp} (h : Rd K v xs F) : ∀ l : List HProp, Rd K v xs (stars (l ++ [F]))
  | [] => Rd.head h
  | _ :: l => Rd.tail (Rd.last h l)
section
variable {P : Program} {f : FuncId} {n : Nat} {Z : Act → World → Prop} {R : Ending → World → Prop} {w0 : Beg} {k : List Item} {ρ ρ' : Env} {H H' pre rest : List HProp} {ops : Array Oper} {l : List Oper}
theorem wpl_round {ro : Option Nat} {Q : Exit → Act → World → Prop} {o : Oper} {a : Act} {w w' : World} {L : Nat} {fn : FuncId} {tmps : Array Value} {assign body : Code} (hg : o.guard = none) (h : (execOp a.eval o).run P w = .ok (.round L fn tmps assign body) w')
    (k : RoundIn (fw none) 0 P L fn tmps assign body w' fun e w'' => ∃ v, e = .returned v ∧ wpl (some ro) P ops Q l (a.put o.dst v) w'') : wpl (some ro) P ops Q (o :: l) a w := by
  refine wpListIn_plain hg fun K hK => ⟨fun _ _ => trivial, ?_⟩
  rw [show (fw ro).round = ro from rfl, semAt_of h (fun _ => by simp)]
  refine ⟨fun z => (by cases z), ?_⟩
  refine RoundIn.mono (F := fw ro) k ?_
  rintro e w2 ⟨v, rfl, hv⟩
  exact hK _ _ hv
/-- A call of yield. -/
theorem SO.yield {ro : Option Nat} {wb : World} {ds : List Deferred} {d L : Nat} {t : TypeId} {p : String} {af : Array Edge} {x : Operand} {avs : Array Operand} {tys : Array TypeId} {vs : List Value} {post : Bool → List HProp → Prop} (hd : Nat.blt d n = true)
    (hx : ev ρ x = some (.func (.yield L) #[] #[])) (hv : evs ρ avs.toList = some vs) (hy : YCt P L vs pre post)
    (h : ∀ c H', post c H' → SO P n Z ⟨wb, ds, some ro⟩ ops l ((d, .bool c) :: ρ) (H' ++ rest)) :
    SO P n Z ⟨wb, ds, some ro⟩ ops (⟨some d, .call ⟨.value x, avs, tys⟩, t, p, af, none⟩ :: l) ρ (pre ++ rest) := by
  intro a w h1 h2 h3 h4 h5
  have hd' : d < n := by simpa using hd
  obtain ⟨fn, tmps, assign, body, hrun, hR⟩ := hy w (stars rest) h4.pack
  have has : avs.map a.eval = vs.toArray := by apply Array.ext'; simpa using evs_map (fun x u => h2.ev) hv
  refine wpl_round (L := L) (fn := fn) (tmps := tmps) (assign := assign) (body := body) rfl ?_ (RoundIn.mono hR ?_)
  · simp [execOp, resolve, h2.ev hx, Deferred.ofValue, Go.invoke, has, hrun]
  · rintro e w' ⟨c, H', rfl, hp, hs, hk⟩
    exact ⟨.bool c, rfl, h c H' hp _ w' (by simpa [Act.put] using h1) (h2.put _ (by omega)) h3 hs.unpack (h5.trans hk)⟩
/-- A round, out of its body. -/
theorem YCt.intro {L : Nat} {r : Loop} {vals : List Value} {post : Bool → List HProp → Prop} {ρ0 : Env} (hs : vals.length = r.params.size) (hst : r.state = .ready) (hn : r.tmps.size = n)
    (henv : EnvOk ((r.params.zip vals.toArray).foldl (fun tmps (t, a) => tmps.setIfInBounds t a) r.tmps) ρ0)
    (hsz : ((r.params.zip vals.toArray).foldl (fun tmps (t, a) => tmps.setIfInBounds t a) r.tmps).size = n)
    (h : ∀ R (wb : World) F, (∀ w c H', post c H' → Sat w (H' ++ [F]) → Keep wb w → R (.returned (.bool c)) w) → S P r.fn n R ⟨wb, [], some (some L)⟩ [.code r.assign, .beginRound, .code r.body] ρ0 (Blk L (.loop r) :: pre ++ [F])) :
    YCt P L vals (Blk L (.loop r) :: pre) post := by
  intro w F hs'
  have hb : w.heap[L]? = some (.loop r) := hs'.blkHead
  refine ⟨_, _, _, _, run_yield hb (by simpa using hs), trivial, fun c cs _ => ?_⟩
  have hS := h (fun e w' => ∃ c H', e = .returned (.bool c) ∧ post c H' ∧ Sat w' (H' ++ [F]) ∧ Keep w w') w F (fun w' c H' hp hs2 hk => ⟨c, H', rfl, hp, hs2, hk⟩)
  have hG := hS ⟨_, []⟩ w hsz henv rfl hs' (.refl w)
  let b : Frame := { (default : Frame) with fn := r.fn, kind := .normal, roundOf := some L }
  obtain ⟨v, w', hR, hst⟩ := hG b (c :: cs) rfl rfl rfl c cs rfl
  refine ⟨.returned v, w', hR, ?_⟩
  have hb0 : Frame.round L r.fn ((r.params.zip vals.toArray).foldl (fun tmps (t, a) => tmps.setIfInBounds t a) r.tmps) r.assign r.body .normal = b.atR ⟨(r.params.zip vals.toArray).foldl (fun tmps (t, a) => tmps.setIfInBounds t a) r.tmps, []⟩ [.code r.assign, .beginRound, .code r.body] := by
    simp [Frame.round, Frame.atR, b]
  rw [hb0]
  exact (comesIn_wide (e := .returned v)).2 hst
theorem S.beginRound {wb : World} {ds : List Deferred} {L : Nat} {r : Loop} (hst : r.state = .ready) (h : S P f n R ⟨wb, ds, some (some L)⟩ k ρ (Blk L (.loop { r with state := .busy }) :: rest)) : S P f n R ⟨wb, ds, some (some L)⟩ (.beginRound :: k) ρ (Blk L (.loop r) :: rest) := by
  intro a w h1 h2 h3 h4 h5 b cs hb hk hro
  have hbl : w.heap[L]? = some (.loop r) := h4.blkHead
  exact .of_steps (.one (stepR_beginRound hro (run_beginRound hbl hst))) (h a _ h1 h2 h3 h4.blkPut (h5.trans (Keep.putObj' _ _ _)) b cs hb hk hro)
/-- A round goes off its end. -/
theorem S.roundEnd {wb : World} {ds : List Deferred} {L : Nat} {r : Loop} (hR : ∀ w, Sat w (Blk L (.loop { r with state := .ready, pending := none }) :: rest) → Keep wb w → R (.returned (.bool true)) w) : S P f n R ⟨wb, ds, some (some L)⟩ [] ρ (Blk L (.loop r) :: rest) := by
  intro a w h1 h2 h3 h4 h5 b cs hb hk hro c cs' e
  have hbl : w.heap[L]? = some (.loop r) := h4.blkHead
  have hr := run_endRound (P := P) none hbl
  subst e
  exact ⟨_, _, hR _ h4.blkPut (h5.trans (Keep.putObj' _ _ _)), .one (stepR_round_end hro hk hr)⟩
theorem S.roundRet {wb : World} {ds : List Deferred} {L : Nat} {r : Loop} (hR : ∀ w, Sat w (Blk L (.loop { r with state := .done, pending := some .ret }) :: rest) → Keep wb w → R (.returned (.bool false)) w) : S P f n R ⟨wb, ds, some (some L)⟩ (.code .ret :: k) ρ (Blk L (.loop r) :: rest) := by
  intro a w h1 h2 h3 h4 h5 b cs hb hk hro c cs' e
  have hbl : w.heap[L]? = some (.loop r) := h4.blkHead
  have hr := run_endRound (P := P) (some .ret) hbl
  subst e
  exact ⟨_, _, hR _ h4.blkPut (h5.trans (Keep.putObj' _ _ _)), .one (stepR_round_ret hro hk hr)⟩
theorem S.roundExit {wb : World} {ds : List Deferred} {L id : Nat} {r : Loop} (hx : exitTo id k = none) (hR : ∀ w, Sat w (Blk L (.loop { r with state := .done, pending := some (.exit id) }) :: rest) → Keep wb w → R (.returned (.bool false)) w) : S P f n R ⟨wb, ds, some (some L)⟩ (.code (.exit id) :: k) ρ (Blk L (.loop r) :: rest) := by
  intro a w h1 h2 h3 h4 h5 b cs hb hk hro c cs' e
  have hbl : w.heap[L]? = some (.loop r) := h4.blkHead
  have hr := run_endRound (P := P) (some (.exit id)) hbl
  subst e
  exact ⟨_, _, hR _ h4.blkPut (h5.trans (Keep.putObj' _ _ _)), .one (stepR_round_exit hro hk hx hr)⟩
/-- The statement. -/
theorem S.rangeFunc {wb : World} {ds : List Deferred} {rd : Option (Option Nat)} {g : Operand} {ps : Array Tmp} {assign body : Code} {gf : FuncId} {caps : List Value} (hro : Beg.ro ⟨wb, ds, rd⟩ = none) (hg : ev ρ g = some (.func (.func gf) #[] caps.toArray)) (hgf : ∀ (avs : Array Value) (w : World), (callFunc gf avs).run P w = .ok (.enter gf avs) w)
    (h : ∀ (L D : Nat) (tmps : Array Value), tmps.size = n → EnvOk tmps ρ → ∀ r : Loop, r = { state := .ready, pending := none, fn := f, tmps, params := ps, assign, body, defers := D } →
      ∀ w, Sat w (Blk L (.loop r) :: Blk D (.deferred (some [])) :: H) → Keep wb w →
        Calls P gf (.func (.yield L) #[] #[] :: caps).toArray w fun e w' => ∃ v st jump H', e = .returned v ∧ st ≠ .busy ∧ Sat w' (Blk L (.loop { r with state := st, pending := jump }) :: H') ∧ Keep wb w' ∧
          S P f n R ⟨wb, { target := .collected D, args := #[] } :: ds, rd⟩ ((jump.map Item.code).toList ++ k) ρ H') :
    S P f n R ⟨wb, ds, rd⟩ (.code (.rangeFunc g ps assign body) :: k) ρ H := by
  intro a w h1 h2 h3 h4 h5 b cs hb hk hn
  have hn' : b.roundOf = none := hn.trans hro
  have he := run_enterLoop_outer (P := P) (w := w) b.fn a.tmps ps assign body
  have hs1 : Sat ((w.alloc (.deferred (some []))).alloc (.loop { state := .ready, pending := none, fn := f, tmps := a.tmps, params := ps, assign, body, defers := w.heap.size })) (Blk (w.heap.size + 1) (.loop { state := .ready, pending := none, fn := f, tmps := a.tmps, params := ps, assign, body, defers := w.heap.size }) :: Blk w.heap.size (.deferred (some [])) :: H) := by
    have q1 := h4.alloc (.deferred (some [])) (Blk w.heap.size (.deferred (some []))) (by show (if _ then _ else _) = _; simp)
    have q2 := q1.alloc (.loop { state := .ready, pending := none, fn := f, tmps := a.tmps, params := ps, assign, body, defers := w.heap.size }) (Blk (w.heap.size + 1) (.loop { state := .ready, pending := none, fn := f, tmps := a.tmps, params := ps, assign, body, defers := w.heap.size })) (by
      show (if _ then _ else _) = _
      simp)
    exact q2
  have hk1 : Keep wb ((w.alloc (.deferred (some []))).alloc (.loop { state := .ready, pending := none, fn := f, tmps := a.tmps, params := ps, assign, body, defers := w.heap.size })) := h5.trans ((Keep.alloc _ _).trans (Keep.alloc _ _))
  have hC := h (w.heap.size + 1) w.heap.size a.tmps h1 h2 _ rfl _ hs1 hk1
  have hgv : a.eval g = .func (.func gf) #[] caps.toArray := h2.ev hg
  have hargs : (#[] ++ #[Value.func (.yield (w.heap.size + 1)) #[] #[]]) ++ caps.toArray = (.func (.yield (w.heap.size + 1)) #[] #[] :: caps).toArray := by simp
  have hres : ∀ w', (resolve a.eval (rangeCall g (w.heap.size + 1)) 0).run P w' = .ok { target := .fn (.func gf) caps.toArray, args := #[] ++ #[.func (.yield (w.heap.size + 1)) #[] #[]] } w' := fun w' => by
    simp [resolve, hgv, Deferred.ofValue]
    rfl
  have hinv : ∀ w', (Go.invoke (.fn (.func gf) caps.toArray) (#[] ++ #[.func (.yield (w.heap.size + 1)) #[] #[]])).run P w' = .ok (.enter gf (.func (.yield (w.heap.size + 1)) #[] #[] :: caps).toArray) w' := fun w' => by
    rw [← hargs]
    simp [Go.invoke, hgf]
  have he' : (Instr.enterLoop b.fn a.tmps ps assign body b.roundOf).run P w = .ok (w.heap.size + 1, [{ target := .collected w.heap.size, args := #[] }])
        ((w.alloc (.deferred (some []))).alloc (.loop { state := .ready, pending := none, fn := f, tmps := a.tmps, params := ps, assign, body, defers := w.heap.size })) := by
    rw [hn', he, hb]
  have henter := stepR_rangeFunc (P := P) (b := b) (a := a) (k := k) (cs := cs) (w := w) he' (hres _) (hinv _)
  obtain ⟨e, w3, fr, ⟨v, st, jump, H', rfl, hst, hs3, hk3, hS⟩, hcomes, hfn, hleave⟩ := hC (b.atR { a with defers := [{ target := .collected w.heap.size, args := #[] }] ++ a.defers } (.inRangeFunc (w.heap.size + 1) :: k) :: cs)
  have hl3 := hs3.blkHead
  have hend := run_endLoop (P := P) hl3 hst
  have sret := step_leave_returned (P := P) (c := b.atR { a with defers := [{ target := .collected w.heap.size, args := #[] }] ++ a.defers } (.inRangeFunc (w.heap.size + 1) :: k)) (cs := cs) hleave
  rw [finish_atR_inRangeFunc] at sret
  have sback := stepR_endRangeFunc (P := P) (b := b) (a := { a with defers := [{ target := .collected w.heap.size, args := #[] }] ++ a.defers }) (k := k) (cs := cs) hend
  refine .of_steps (.head henter (Steps.trans hcomes (.head sret (.one sback)))) ?_
  have hsf : Sat (w3.putObj (w.heap.size + 1) (.loop { state := .exhausted, pending := jump, fn := f, tmps := a.tmps, params := ps, assign, body, defers := w.heap.size })) H' := (hs3.blkPut (o' := .loop { state := .exhausted, pending := jump, fn := f, tmps := a.tmps, params := ps, assign, body, defers := w.heap.size })).drop
  exact hS { a with defers := [{ target := .collected w.heap.size, args := #[] }] ++ a.defers } _ h1 h2 (by show _ ++ a.defers = _; rw [h3]; rfl) hsf (hk3.trans (Keep.putObj' _ _ _)) b cs hb hk hn
/-- A function leaves with a mark, of which nothing is to be called. -/
theorem Goes.retM {fn : Func} {a : Act} {w : World} {v : Value} {D : Nat} (hf : P.funcs[f]? = some fn) (hd : a.defers = [{ target := .collected D, args := #[] }]) (hD : w.heap[D]? = some (.deferred (some []))) (hv : (results fn a.tmps).run P (w.putObj D (.deferred none)) = .ok v (w.putObj D (.deferred none))) (hR : R (.returned v) (w.putObj D (.deferred none))) : Goes P f none R (.code .ret :: k) a w := by
  intro b cs hb hk hn
  have h1 : Go.step P (lone (b.atR a (.code .ret :: k)) cs w) = .next (lone { b.atR a (.code .ret :: k) with mode := .returning } cs w) := stepR_ret hn
  have h2 : Go.step P (lone { b.atR a (.code .ret :: k) with mode := .returning } cs w) = .next (lone { { b.atR a (.code .ret :: k) with mode := .returning } with defers := [] ++ [] } cs (w.putObj D (.deferred none))) := step_collected (fr := { b.atR a (.code .ret :: k) with mode := .returning }) (d := { target := .collected D, args := #[] }) (ds := []) (r := D) (by simp) hd rfl (run_takeDeferred hD)
  exact ⟨.returned v, w.putObj D (.deferred none), { { b.atR a (.code .ret :: k) with mode := .returning } with defers := [] ++ [] }, hR, Steps.head h1 (.one h2), hb, rfl, rfl, hk, fn, by simpa [Frame.atR, hb] using hf, hv⟩
theorem S.ret1M {wb : World} {fn : Func} {t : Tmp} {v : Value} {D : Nat} (hf : P.funcs[f]? = some fn) (hr : fn.results = #[.tmp t]) (hv : look ρ t = some v)
    (hR : ∀ w, Sat w (Blk D (.deferred none) :: rest) → Keep wb w → R (.returned v) w) {rd : Option (Option Nat)} (hro : Beg.ro ⟨wb, [{ target := .collected D, args := #[] }], rd⟩ = none) : S P f n R ⟨wb, [{ target := .collected D, args := #[] }], rd⟩ (.code .ret :: k) ρ (Blk D (.deferred (some [])) :: rest) := by
  intro a w h1 h2 h3 h4 h5
  rw [hro]
  exact .retM hf h3 h4.blkHead (by rw [results_tmp hr]; simp [h2 t v hv]) (hR _ h4.blkPut (h5.trans (Keep.putObj' _ _ _)))
theorem load_box1 {w : World} {b : Nat} {t : TypeId} {v : Value} {cs : List Value} (hs : Sat w (Box b cs :: rest)) (ha : ∀ w, (isAgg t).run P w = .ok false w) (hv : cs[0]? = some v) : (loadVar t ⟨b, 0, none⟩).run P w = .ok v w := by
  obtain ⟨m, hm, hb⟩ := hs.head
  obtain ⟨E, hb⟩ := hb.blk hm
  have hc : w.cell? ⟨b, 0, none⟩ = some v := by rw [cell_of_blk hb]; simpa using hv
  simp [loadVar, ha, hc]
/-- One result, that lies in a cell of its own. -/
theorem S.retV {fn : Func} {t : TypeId} {s b : Nat} {cs : List Value} {v : Value} (hf : P.funcs[f]? = some fn) (hr : fn.results = #[.cell s t]) (hs : look ρ s = some (bp b 0)) (ha : ∀ w, (isAgg t).run P w = .ok false w) (hv : cs[0]? = some v)
    (hR : ∀ w, Sat w (Box b cs :: rest) → Keep w0.w w → R (.returned v) w) (hds : w0.ds = [] := by rfl) (hro : w0.ro = none := by rfl) : S P f n R w0 (.code .ret :: k) ρ (Box b cs :: rest) := by
  intro a w h1 h2 h3 h4 h5
  rw [hro]
  refine .ret hf (h3.trans hds) ?_ (hR w h4 h5)
  have := load_box1 (P := P) h4 ha hv
  simp [results, hr, h2 s _ hs, bp, asAddr, this]
/-- Likewise, with a mark. -/
theorem S.retVM {wb : World} {rd : Option (Option Nat)} {fn : Func} {t : TypeId} {s b D : Nat} {cs : List Value} {v : Value} (hf : P.funcs[f]? = some fn) (hr : fn.results = #[.cell s t]) (hs : look ρ s = some (bp b 0)) (ha : ∀ w, (isAgg t).run P w = .ok false w) (hv : cs[0]? = some v)
    (hR : ∀ w, Sat w (Box b cs :: rest) → Keep wb w → R (.returned v) w) (hro : Beg.ro ⟨wb, [{ target := .collected D, args := #[] }], rd⟩ = none := by rfl) : S P f n R ⟨wb, [{ target := .collected D, args := #[] }], rd⟩ (.code .ret :: k) ρ (Blk D (.deferred (some [])) :: Box b cs :: rest) := by
  intro a w h1 h2 h3 h4 h5
  rw [hro]
  have h6 : Sat (w.putObj D (.deferred none)) (Box b cs :: rest) := (h4.blkPut (o' := .deferred none)).drop
  refine .retM hf h3 h4.blkHead ?_ (hR _ h6 (h5.trans (Keep.putObj' _ _ _)))
  have := load_box1 (P := P) h6 ha hv
  simp [results, hr, h2 s _ hs, bp, asAddr, this]
/-- Behind what leaves a mark. -/
theorem S.cutPM {wb : World} {rd : Option (Option Nat)} {x : Code} {G : Type} (Φ : G → Prop) (ρ2 : G → Env) (H2 : G → List HProp)
    (h1 : (∀ D g, Φ g → S P f n R ⟨wb, [{ target := .collected D, args := #[] }], rd⟩ k (ρ2 g) (Blk D (.deferred (some [])) :: H2 g)) → S P f n R ⟨wb, [], rd⟩ (.code x :: k) ρ H)
    (h2 : ∀ D g, Φ g → S P f n R ⟨wb, [{ target := .collected D, args := #[] }], rd⟩ k (ρ2 g) (Blk D (.deferred (some [])) :: H2 g)) : S P f n R ⟨wb, [], rd⟩ (.code x :: k) ρ H := h1 h2
theorem opv_eqlFN {t t2 : TypeId} {x : Operand} {fn : Fn} {avs cs : Array Value} {u : TypeDesc} (ht : P.underlying t = some u) (hu : (match u with | .func .. => true | _ => false) = true) (hx : ev ρ x = some (.func fn avs cs)) : OpV P ρ (.binOp .eql t x (.const .nilFunc) t2) (.bool false) :=
  fun r w d t' p af g hr => by
    have h0 : r (.const .nilFunc) = .nilFunc := hr _ _ rfl
    have key : ∀ d, (Op.equalIn (d + 2) t (.func fn avs cs) .nilFunc).run P w = .ok false w := fun d => by
      cases u <;> first | (simp at hu; done) | simp [Op.equalIn, run_underlying ht]
    simp [execOp, hr x _ hx, h0, eqGuard, binOp, eql_run w key]
/-- What is told of no block. -/
def Pure (φ : Prop) : HProp := fun _ => φ
theorem Sat.pure {w : World} {φ : Prop} {H : List HProp} (h : Sat w (Pure φ :: H)) : φ := h.head.elim fun _ q => q.2
theorem Sat.addPure {w : World} {φ : Prop} {H : List HProp} (h : Sat w H) (hφ : φ) : Sat w (Pure φ :: H) := ⟨fun _ => none, hp w, fun _ => .inl rfl, fun _ _ e => by simp at e, .refl _, hφ, h⟩
theorem S.pure {φ : Prop} (h : φ → S P f n R w0 k ρ H) : S P f n R w0 k ρ (Pure φ :: H) := fun a w h1 h2 h3 h4 h5 => h h4.pure a w h1 h2 h3 h4.drop h5
theorem S.addPure {φ : Prop} (hφ : φ) (h : S P f n R w0 k ρ (Pure φ :: H)) : S P f n R w0 k ρ H := h.sat fun _ s => s.addPure hφ
/-- Rounds that are counted, up to M at most. -/
theorem S.loopN {id : Nat} {c : Code} (M : Nat) (ρx : Nat → Env) (Hx : Nat → List HProp)
    (step : ∀ j, j ≤ M → (j < M → S P f n R w0 (.inLoop c :: .inBlock id :: k) (ρx (j + 1)) (Hx (j + 1))) → S P f n R w0 (.code c :: .inLoop c :: .inBlock id :: k) (ρx j) (Hx j)) : S P f n R w0 (.code (.block id (.loop c)) :: k) (ρx 0) (Hx 0) := by
  have key : ∀ m j, j + m = M → S P f n R w0 (.code c :: .inLoop c :: .inBlock id :: k) (ρx j) (Hx j) := by
    intro m
    induction m with
    | zero => intro j hj; exact step j (by omega) (fun h => by omega)
    | succ m ih => intro j hj; exact step j (by omega) (fun _ => .again (ih (j + 1) (by omega)))
  exact .block (.loop (key M 0 (by omega)))
end
end Go.Sl
/-! A map's keys, sorted. -/
set_option linter.unusedVariables false
namespace Go.Sl
open Go.RowKit Go.MapKept
section
variable {α : Type}
def skeys (l : List (Int × α)) : List Int := (l.map (·.1)).mergeSort fun x y => decide (x ≤ y)
theorem insert_perm {H : Type} (x : Lit × DataW H) : ∀ l : List (Lit × DataW H), (DataW.insert x l).Perm (x :: l)
  | [] => .refl _
  | y :: l => by
    unfold DataW.insert; split
    · exact .refl _
    · exact (List.Perm.cons y (insert_perm x l)).trans (.swap _ _ _)
theorem inserts_perm {H : Type} : ∀ l : List (Lit × DataW H), (l.foldr DataW.insert []).Perm l
  | [] => .refl _
  | x :: l => (insert_perm x _).trans (.cons x (inserts_perm l))
abbrev anyR : Value → Option (DataW Unit × List MemPlace) := fun _ => some (.map [], [])
theorem MapB.owns {P : Program} {k : TypeId} {enc : α → Value} {b : Nat} {l : List (Int × α)} {m : PH} {w : World} (h : MapB enc b l m) (hs : PH.Sub m (hp w)) (hk : P.underlying k = some (.int .i64)) :
    ∃ D0 : DataW Unit, w.ownsMap P k anyR b l.length D0 ∧ (intKeys D0).Perm (l.map (·.1)) ∧ Maps.size D0 ≤ 4294967296 := by
  obtain ⟨es, clock, e1, e2, e3, e4, e5⟩ := h
  have hl : es.size = l.length := by
    have := congrArg List.length e3
    simpa [ents] using this
  have hkey : ∀ e ∈ es.toList, ∃ p ∈ l, e.key = .int .i64 p.1 := fun e he => by
    have : (e.key, e.val) ∈ ents enc l := by rw [← e3]; exact List.mem_map.2 ⟨e, he, rfl⟩
    obtain ⟨p, hp, hpe⟩ := List.mem_map.1 this
    exact ⟨p, hp, by injection hpe with h1 _; exact h1.symm⟩
  have hrd : ∀ e ∈ es.toList, ∃ p ∈ l, e.key = .int .i64 p.1 ∧ Go.WideElems.rd P k anyR e = some (.int .i64 p.1, .map []) := fun e he => by
    obtain ⟨p, hp, hpe⟩ := hkey e he
    refine ⟨p, hp, hpe, ?_⟩
    unfold Go.WideElems.rd
    rw [hpe, Maps.keyOf_int_mk hk (e4 p hp)]; rfl
  refine ⟨_, ⟨es, clock, hs _ _ e1, ⟨by rw [hl]; simp only [maxLen]; omega, e2, fun e he => ?_⟩, by omega, rfl⟩, ?_, ?_⟩
  · obtain ⟨p, _, _, h⟩ := hrd e he
    exact ⟨_, h⟩
  · show (((es.toList.map (Go.WideElems.rg P k anyR)).foldr DataW.insert []).map fun p => intOf p.1).Perm _
    refine ((inserts_perm _).map _).trans ?_
    have : (es.toList.map (Go.WideElems.rg P k anyR)).map (fun p => intOf p.1) = l.map (·.1) := by
      have h9 := congrArg (List.map (fun p : Value × Value => match p.1 with | .int _ a => a | _ => 0)) e3
      simp only [ents, List.map_map] at h9
      rw [List.map_map]
      refine Eq.trans (List.map_congr_left fun e he => ?_) (h9.trans (List.map_congr_left fun p _ => rfl))
      obtain ⟨p, _, hpe, hr⟩ := hrd e he
      simp only [Function.comp_apply, Go.WideElems.rg, hr, Option.getD_some, hpe]
      rfl
    rw [this]
  · show ((es.toList.map (Go.WideElems.rg P k anyR)).foldr DataW.insert []).length ≤ _
    rw [length_sorted, List.length_map, Array.length_toList]; omega
theorem Box.cellAt {w : World} {b : Nat} {v : Value} {cs : List Value} {H : List HProp} (h : Sat w (Box b (v :: cs) :: H)) : w.cell? ⟨b, 0, none⟩ = some v ∧ b < w.heap.size := by
  obtain ⟨m, hm, hb⟩ := h.head
  obtain ⟨E, hb⟩ := hb.blk hm
  exact ⟨by rw [cell_of_blk hb]; simp, (Array.getElem?_eq_some_iff.1 hb).1⟩
theorem Keep.below {w w' : World} (h : Below w.heap.size w w') : Keep w w' := ⟨h.os, h.tape, h.output, h.size⟩
theorem Ct.keys {P : Program} {n : Nat} {g gk : FuncId} {T : TypeId} (c : ∀ mb W, CallsIn Fence.wide n P g #[.map mb] W fun e w' => e = .returned (.func (.func gk) #[] #[.pointer (some ⟨W.heap.size, 0, none⟩)]) ∧ w' = W.alloc (.cells #[.map mb] T)) (b : Nat) :
    Ct P g [.map (some b)] (fun _ => True) [] (fun u H' => ∃ bm, u = .func (.func gk) #[] #[bp bm 0] ∧ H' = [Box bm [.map (some b)]]) := by
  intro w F _ hs
  refine (callsIn_wide (n := n)).1 ((c (some b) w).mono ?_)
  rintro e w' ⟨rfl, rfl⟩
  refine ⟨_, [Box w.heap.size [.map (some b)]], rfl, ⟨w.heap.size, rfl, rfl⟩, ?_, .alloc _ _⟩
  exact Sat.alloc hs _ _ ⟨T, by simp⟩
theorem Ct.sorted {P : Program} {n : Nat} {g gk : FuncId} {E : TypeId} {k : TypeId} {enc : α → Value} (hk : P.underlying k = some (.int .i64))
    (c : ∀ (w : World) (bm b nn : Nat) (D0 : DataW Unit), bm < w.heap.size → w.cell? ⟨bm, 0, none⟩ = some (.map (some b)) → w.ownsMap P k anyR b nn D0 → Maps.size D0 ≤ 4294967296 →
      CallsIn Fence.wide n P g #[.func (.func gk) #[] #[.pointer (some ⟨bm, 0, none⟩)]] w fun e w' => ∃ (v : Value) (ss : List Int), e = .returned v ∧ ss.Perm (intKeys D0) ∧ w'.ownsRow w.heap.size E 1 v ss.length ((ss.mergeSort (fun x y => decide (x ≤ y))).map encZ) ∧ (v = .slice none 0 0 ↔ ss = []) ∧ Below w.heap.size w w')
    (bm b : Nat) (l : List (Int × α)) : Ct P g [.func (.func gk) #[] #[bp bm 0]] (fun _ => True) [Box bm [.map (some b)], MapB enc b l] (fun u H' => ∃ v, u = v ∧ H' = [Own E (ekI .i64) v (skeys l), Box bm [.map (some b)], MapB enc b l]) := by
  intro w F _ hs
  obtain ⟨hc, hlt⟩ := Box.cellAt (cs := []) hs
  obtain ⟨m, hm, hB⟩ := (hs.drop).head
  obtain ⟨D0, ho, hp0, hsz⟩ := hB.owns hm hk
  refine (callsIn_wide (n := n)).1 ((c w bm b _ D0 hlt hc ho hsz).mono ?_)
  rintro e w' ⟨v, ss, rfl, hperm, hrow, hnil, hbel⟩
  refine ⟨v, _, rfl, ⟨v, rfl, rfl⟩, ?_, Keep.below hbel⟩
  have hsort : ss.mergeSort (fun x y => decide (x ≤ y)) = skeys l := mergeSort_of_perm_i (hperm.trans hp0)
  have hlen : ss.length = (skeys l).length := by rw [← hsort]; exact (List.mergeSort_perm ss _).length_eq.symm
  have hrow2 : w'.ownsRow w.heap.size E (ekI .i64).sz v (skeys l).length ((ekI .i64).flat (skeys l)) := by
    rw [hsort, hlen] at hrow
    have : (ekI .i64).flat (skeys l) = (skeys l).map encZ := by
      unfold EK.flat; generalize skeys l = L; induction L with
      | nil => rfl
      | cons a L ih => rw [List.flatMap_cons, ih]; rfl
    rw [this]; exact hrow
  have hO := Own.of_row hrow2
  have hs1 : Sat w' ([Box bm [.map (some b)], MapB enc b l] ++ [F]) := hs.same hbel.block
  have hs0 : Sat w ((fun m : PH => ∀ q o, m q = some o → w.heap.size ≤ q) :: ([Box bm [.map (some b)], MapB enc b l] ++ [F])) :=
    ⟨fun _ => none, hp w, fun _ => .inl rfl, fun _ _ e => by simp at e, .refl _, fun _ _ e => by simp at e, hs⟩
  refine hs0.update fun m1 hm1 hsub hbig => ⟨_, hO, fun q o e1 => ?_, fun q hq hlt' => ?_, fun q hlt' hq => hbel.block q hlt'⟩
  · have e' : (if some q = v.ownBlock then w'.heap[q]? else none) = some o := e1
    split at e'
    · exact e'
    · cases e'
  · show (if some q = v.ownBlock then w'.heap[q]? else none) = none
    split
    · rename_i hb'
      exfalso
      rcases hrow2.2 with ⟨rfl, _⟩ | ⟨gg, cap, cur, rfl, hbase, _⟩
      · simp [Value.ownBlock] at hb'
      · simp only [Value.ownBlock, Option.some.injEq] at hb'; omega
    · rfl
end
end Go.Sl
/-! Maps that may be nil, each with what holds it. -/
set_option linter.unusedVariables false
namespace Go.Sl
open Go.RowKit Go.MapKept
section
variable {α : Type}
def MapO (enc : α → Value) (v : Value) (o : Option (List (Int × α))) : HProp := fun m => match o with
  | none => v = .map none
  | some l => ∃ b, v = .map (some b) ∧ MapB enc b l m
def mfindO (o : Option (List (Int × α))) (k : Int) : Option α := o.bind fun l => mfind l k
/-- A look-up: what is there, or z; and whether it is. -/
def lkO (o : Option (List (Int × α))) (k : Int) (z : α) : Option (α × Bool) := some ((mfindO o k).getD z, (mfindO o k).isSome)
def lk1 (o : Option (List (Int × α))) (k : Int) (z : α) : Option α := some ((mfindO o k).getD z)
def mputO (o : Option (List (Int × α))) (k : Int) (v : α) : Option (Option (List (Int × α))) := o.bind fun l => (mput l k v).map some
def mlenO (o : Option (List (Int × α))) : Int := match o with | none => 0 | some l => l.length
def aggE (K : EK α) (x : α) : Value := .agg (K.enc x).toArray
theorem MapO.one {enc : α → Value} {v : Value} {o : Option (List (Int × α))} {m : PH} (h : MapO enc v o m) : v.oneCell' = true := by
  cases o with
  | none => rw [show v = .map none from h]; rfl
  | some l => obtain ⟨b, rfl, _⟩ := h; rfl
theorem MapO.nil (enc : α → Value) (m : PH) : MapO enc (.map none) none m := rfl
end
section
variable {P : Program} {f : FuncId} {R : Ending → World → Prop} {k : List Item} {n : Nat} {Z : Act → World → Prop} {w0 : Beg} {ρ : Env} {H rest : List HProp} {ops : Array Oper} {l : List Oper} {α : Type} {enc : α → Value} {v : Value} {o ys : Option (List (Int × α))}
theorem SO.oneM (h : v.oneCell' = true → SO P n Z w0 ops l ρ (MapO enc v o :: rest)) : SO P n Z w0 ops l ρ (MapO enc v o :: rest) := fun a w h1 h2 h3 h4 h5 => by
  obtain ⟨m, hm, hB⟩ := h4.head
  exact h hB.one a w h1 h2 h3 h4 h5
theorem S.oneM (h : v.oneCell' = true → S P f n R w0 k ρ (MapO enc v o :: rest)) : S P f n R w0 k ρ (MapO enc v o :: rest) := fun a w h1 h2 h3 h4 h5 => by
  obtain ⟨m, hm, hB⟩ := h4.head
  exact h hB.one a w h1 h2 h3 h4 h5
theorem SO.newMapO (enc : α → Value) (h : SO P n Z w0 ops l ρ (MapO enc (.map none) none :: H)) : SO P n Z w0 ops l ρ H :=
  h.sat fun w s => show stars (MapO enc (.map none) none :: H) (hp w) from ⟨fun _ => none, hp w, fun _ => .inl rfl, fun _ _ e => by simp at e, .refl _, MapO.nil enc _, s⟩
theorem S.newMapO (enc : α → Value) (h : S P f n R w0 k ρ (MapO enc (.map none) none :: H)) : S P f n R w0 k ρ H :=
  h.sat fun w s => show stars (MapO enc (.map none) none :: H) (hp w) from ⟨fun _ => none, hp w, fun _ => .inl rfl, fun _ _ e => by simp at e, .refl _, MapO.nil enc _, s⟩
theorem SO.makeMapO {d t ty : Nat} {p : String} {af : Array Edge} (enc : α → Value) (hd : Nat.blt d n = true)
    (h : ∀ v, SO P n Z w0 ops l ((d, v) :: ρ) (MapO enc v (some []) :: H)) : SO P n Z w0 ops (⟨some d, .makeMap t none, ty, p, af, none⟩ :: l) ρ H :=
  SO.makeMap enc hd fun b => (h (.map (some b))).sat fun _ s => s.weaken fun _ q => ⟨b, rfl, q⟩
theorem MapO.cases_SO {A : HProp} (h0 : o = none → v = .map none → SO P n Z w0 ops l ρ (MapO enc v o :: rest)) (h1 : ∀ b xs, o = some xs → v = .map (some b) → SO P n Z w0 ops l ρ (MapB enc b xs :: rest)) : SO P n Z w0 ops l ρ (MapO enc v o :: rest) := by
  intro a w q1 q2 q3 q4 q5
  cases o with
  | none =>
    obtain ⟨m, hm, hB⟩ := q4.head
    exact h0 rfl hB a w q1 q2 q3 q4 q5
  | some xs =>
    obtain ⟨m1, m2, d, s1, s2, ⟨b, hv, hB⟩, hr⟩ := q4
    exact h1 b xs rfl hv a w q1 q2 q3 ⟨m1, m2, d, s1, s2, hB, hr⟩ q5
theorem lookup_nil {w : World} {t kt et : TypeId} {k : Int} {z : Value} (ht : P.underlying t = some (.map kt et)) (hk : P.underlying kt = some (.int .i64)) (hz : ∀ w, (zeroValue et).run P w = .ok z w) (ok : Bool) :
    (Instr.lookup t (.map none) (.int .i64 k) ok).run P w = .ok (if ok then .tuple #[z, .bool false] else z) w := by
  have kk : IsKey (.int .i64) (.int .i64 k) := rfl
  have ck := fun e => MapKept.run_checkKey (w := w) hk kk e 9999
  have fk := MapKept.run_findKey (w := w) (l := []) hk (show Instr.findNow (.int .i64) (.int .i64 k) [] 0 = some none from rfl)
  cases ok <;> simp [Instr.lookup.eq_1, run_underlying ht, ck, hz, fk]
theorem MapO.toB {b : Nat} {xs : List (Int × α)} (h : SO P n Z w0 ops l ρ (MapO enc (.map (some b)) (some xs) :: rest)) : SO P n Z w0 ops l ρ (MapB enc b xs :: rest) := h.sat fun _ s => s.weaken fun _ q => ⟨b, rfl, q⟩
theorem SO.lookupOkO {d t ty : Nat} {kt et : TypeId} {x ix : Operand} {p : String} {af : Array Edge} {k : Int} {zx u : α} {c : Bool} (hd : Nat.blt d n = true) (ht : P.underlying t = some (.map kt et)) (hk : P.underlying kt = some (.int .i64)) (hz : ∀ w, (zeroValue et).run P w = .ok (enc zx) w) (hx : ev ρ x = some v) (hi : ev ρ ix = some (.int .i64 k)) (hl : lkO o k zx = some (u, c))
    (h : SO P n Z w0 ops l ((d, .tuple #[enc u, .bool c]) :: ρ) (MapO enc v o :: rest)) : SO P n Z w0 ops (⟨some d, .lookup t x ix true, ty, p, af, none⟩ :: l) ρ (MapO enc v o :: rest) := by
  injection hl with hl; injection hl with h1 h2
  subst h1 h2
  refine MapO.cases_SO (A := fun _ => True) ?_ ?_
  · rintro rfl rfl
    refine .raw hd fun r w hr hs => ⟨_, _, ρ, _, ?_, hs, .refl w, h, fun _ h => h⟩
    simp [execOp, hr x _ hx, hr ix _ hi, lookup_nil ht hk hz true, mfindO]
  · rintro b xs rfl rfl
    refine SO.lookupOk hd ht hk hz hx hi ?_
    refine MapO.toB ?_
    have e : ((mfind xs k).map enc).getD (enc zx) = enc ((mfindO (some xs) k).getD zx) := by
      simp only [mfindO, Option.bind_some]; cases mfind xs k <;> rfl
    rw [e]; exact h
theorem SO.lookup1O {d t ty : Nat} {kt et : TypeId} {x ix : Operand} {p : String} {af : Array Edge} {k : Int} {zx u : α} (hd : Nat.blt d n = true) (ht : P.underlying t = some (.map kt et)) (hk : P.underlying kt = some (.int .i64)) (hz : ∀ w, (zeroValue et).run P w = .ok (enc zx) w) (hx : ev ρ x = some v) (hi : ev ρ ix = some (.int .i64 k)) (hl : lk1 o k zx = some u)
    (h : SO P n Z w0 ops l ((d, enc u) :: ρ) (MapO enc v o :: rest)) : SO P n Z w0 ops (⟨some d, .lookup t x ix false, ty, p, af, none⟩ :: l) ρ (MapO enc v o :: rest) := by
  injection hl with hl
  subst hl
  refine MapO.cases_SO (A := fun _ => True) ?_ ?_
  · rintro rfl rfl
    refine .raw hd fun r w hr hs => ⟨_, _, ρ, _, ?_, hs, .refl w, h, fun _ h => h⟩
    simp [execOp, hr x _ hx, hr ix _ hi, lookup_nil ht hk hz false, mfindO]
  · rintro b xs rfl rfl
    refine SO.lookup1 hd ht hk hz hx hi ?_
    refine MapO.toB ?_
    have e : ((mfind xs k).map enc).getD (enc zx) = enc ((mfindO (some xs) k).getD zx) := by
      simp only [mfindO, Option.bind_some]; cases mfind xs k <;> rfl
    rw [e]; exact h
theorem SO.mapUpdateO {t ty : Nat} {kt et : TypeId} {x ix y : Operand} {p : String} {af : Array Edge} {k : Int} {u : α} (ht : P.underlying t = some (.map kt et)) (hk : P.underlying kt = some (.int .i64)) (hx : ev ρ x = some v) (hi : ev ρ ix = some (.int .i64 k)) (hy : ev ρ y = some (enc u)) (hm : mputO o k u = some ys)
    (h : SO P n Z w0 ops l ρ (MapO enc v ys :: rest)) : SO P n Z w0 ops (⟨none, .mapUpdate t x ix y, ty, p, af, none⟩ :: l) ρ (MapO enc v o :: rest) := by
  refine MapO.cases_SO (A := fun _ => True) ?_ ?_
  · rintro rfl rfl; cases hm
  · rintro b xs rfl rfl
    obtain ⟨zs, hz, rfl⟩ : ∃ zs, mput xs k u = some zs ∧ ys = some zs := by
      simp only [mputO, Option.bind_some] at hm
      cases hp : mput xs k u with
      | none => rw [hp] at hm; cases hm
      | some zs => rw [hp] at hm; injection hm with hm; exact ⟨zs, rfl, hm.symm⟩
    refine SO.mapUpdate ht hk hx hi hy hz ?_
    exact MapO.toB h
theorem SO.lenMapO {d t ty : Nat} {kt et : TypeId} {x : Operand} {p : String} {af : Array Edge} (hd : Nat.blt d n = true) (ht : P.underlying t = some (.map kt et)) (hx : ev ρ x = some v)
    (h : SO P n Z w0 ops l ((d, .int .i64 (mlenO o)) :: ρ) (MapO enc v o :: rest)) : SO P n Z w0 ops (⟨some d, .call ⟨.builtin .len, #[x], #[t]⟩, ty, p, af, none⟩ :: l) ρ (MapO enc v o :: rest) := by
  refine MapO.cases_SO (A := fun _ => True) ?_ ?_
  · rintro rfl rfl
    refine .raw hd fun r w hr hs => ⟨_, _, ρ, _, ?_, hs, .refl w, h, fun _ h => h⟩
    simp [execOp, resolve, Go.invoke, Go.builtin, hr x _ hx, Builtin.len_, run_underlying ht, goInt, mlenO]
  · rintro b xs rfl rfl
    exact SO.lenMap hd ht hx (MapO.toB h)
end
theorem cells1 {v : Value} (h : v.oneCell' = true) : v.cells.toList = [v] := by cases v <;> first | rfl | simp [Value.oneCell'] at h
section
variable {α : Type}
def skeysO (o : Option (List (Int × α))) : Option (List Int) := o.map skeys
theorem Ct.keysO {P : Program} {n : Nat} {g gk : FuncId} {T : TypeId} {enc : α → Value} (c : ∀ mb W, CallsIn Fence.wide n P g #[.map mb] W fun e w' => e = .returned (.func (.func gk) #[] #[.pointer (some ⟨W.heap.size, 0, none⟩)]) ∧ w' = W.alloc (.cells #[.map mb] T)) (v : Value) (o : Option (List (Int × α))) :
    Ct P g [v] (fun _ => True) [MapO enc v o] (fun u H' => ∃ bm, u = .func (.func gk) #[] #[bp bm 0] ∧ H' = [Box bm [v], MapO enc v o]) := by
  intro w F _ hs
  obtain ⟨mb, rfl⟩ : ∃ mb, v = .map mb := by
    obtain ⟨m, hm, hB⟩ := hs.head
    cases o with
    | none => exact ⟨none, hB⟩
    | some l => obtain ⟨b, hb, _⟩ := hB; exact ⟨some b, hb⟩
  refine (callsIn_wide (n := n)).1 ((c mb w).mono ?_)
  rintro e w' ⟨rfl, rfl⟩
  refine ⟨_, [Box w.heap.size [.map mb], MapO enc (.map mb) o], rfl, ⟨w.heap.size, rfl, rfl⟩, ?_, .alloc _ _⟩
  exact Sat.alloc hs _ _ ⟨T, by simp⟩
theorem Ct.sortedO {P : Program} {n : Nat} {g gk : FuncId} {E : TypeId} {k : TypeId} {enc : α → Value} (hk : P.underlying k = some (.int .i64))
    (c : ∀ (w : World) (bm b nn : Nat) (D0 : DataW Unit), bm < w.heap.size → w.cell? ⟨bm, 0, none⟩ = some (.map (some b)) → w.ownsMap P k anyR b nn D0 → Maps.size D0 ≤ 4294967296 →
      CallsIn Fence.wide n P g #[.func (.func gk) #[] #[.pointer (some ⟨bm, 0, none⟩)]] w fun e w' => ∃ (v : Value) (ss : List Int), e = .returned v ∧ ss.Perm (intKeys D0) ∧ w'.ownsRow w.heap.size E 1 v ss.length ((ss.mergeSort (fun x y => decide (x ≤ y))).map encZ) ∧ (v = .slice none 0 0 ↔ ss = []) ∧ Below w.heap.size w w')
    (bm : Nat) (v : Value) (o : Option (List (Int × α))) (ys : List Int) (ho : skeysO o = some ys) : Ct P g [.func (.func gk) #[] #[bp bm 0]] (fun _ => True) [Box bm [v], MapO enc v o] (fun u H' => ∃ r, u = r ∧ H' = [Own E (ekI .i64) r ys, Box bm [v], MapO enc v o]) := by
  cases o with
  | none => cases ho
  | some l =>
    injection ho with ho
    subst ho
    intro w F _ hs
    obtain ⟨m, hm, b, rfl, hB⟩ := (hs.drop).head
    have hs' : Sat w ([Box bm [.map (some b)], MapB enc b l] ++ [F]) := by
      refine (((hs.perm (.swap _ _ _)).weaken (B := MapB enc b l) fun m q => ?_).perm (.swap _ _ _))
      obtain ⟨b', e, q⟩ := q
      injection e with e; injection e with e; subst e; exact q
    refine (Ct.sorted hk c bm b l w F trivial hs').mono ?_
    rintro e w' ⟨u, H', rfl, ⟨r, rfl, rfl⟩, hs2, hk2⟩
    refine ⟨u, _, rfl, ⟨u, rfl, rfl⟩, ?_, hk2⟩
    have hs3 : Sat w' ([MapB enc b l] ++ [Own E (ekI .i64) u (skeys l), Box bm [.map (some b)], F]) := hs2.perm ((List.Perm.cons _ (.swap _ _ _)).trans (.swap _ _ _))
    exact (hs3.weaken (B := MapO enc (.map (some b)) (some l)) fun m q => ⟨b, rfl, q⟩).perm ((List.Perm.swap _ _ _).trans (.cons _ (.swap _ _ _)))
end
end Go.Sl
