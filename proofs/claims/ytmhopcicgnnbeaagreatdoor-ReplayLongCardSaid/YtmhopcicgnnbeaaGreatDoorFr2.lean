/- The resource logic, parts SlPtr, SlDr2, SlMapL, SlStm, SlLaw, SlNum, SlLens, SlWide. On no condition. -/
import Derived.Test.YtmhopcicgnnbeaaGreatDoorFr1
import Derived.Carry
import Derived.ProofKit
import Derived.OpenShut
import Derived.JoinedOf
set_option linter.all false
/-! Rows of pointers: each its own thing. -/
set_option linter.unusedVariables false
namespace Go.Sl
open Go.RowKit
def ekP : EK Nat := ⟨1, fun b => [bp b 0], fun _ => rfl, fun _ v hv => by simp at hv; subst hv; rfl, by decide⟩
section
variable {α : Type} (R : Nat → α → HProp)
def zipR : List Nat → List α → List HProp
  | b :: bs, x :: xs => R b x :: zipR bs xs
  | _, _ => []
def OwnPt (E : TypeId) (v : Value) (xs : List α) : HProp := fun m => ∃ bs : List Nat, bs.length = xs.length ∧ stars (Own E ekP v bs :: zipR R bs xs) m
/-- All but the i-th. -/
def OwnPH (E : TypeId) (v : Value) (bs : List Nat) (xs : List α) (i : Nat) : HProp := fun m => bs.length = xs.length ∧ stars (Own E ekP v bs :: (zipR R bs xs).eraseIdx i) m
theorem zipR_set : ∀ (bs : List Nat) (xs : List α) (i b : Nat) (x' : α), bs[i]? = some b → i < xs.length → (zipR R bs (xs.set i x')).Perm (R b x' :: (zipR R bs xs).eraseIdx i)
  | [], _, i, b, x', h, _ => by simp at h
  | _ :: _, [], i, b, x', _, h => by simp at h
  | c :: bs, x :: xs, 0, b, x', h, _ => by
    simp at h; subst h
    simp [zipR]
  | c :: bs, x :: xs, i + 1, b, x', h, hl => by
    have := zipR_set bs xs i b x' (by simpa using h) (by simpa using hl)
    simp only [List.set_cons_succ, zipR, List.eraseIdx_cons_succ]
    exact (List.Perm.cons _ this).trans (.swap _ _ _)
theorem set_self {xs : List α} {i : Nat} {x : α} (h : xs[i]? = some x) : xs.set i x = xs := by
  apply List.ext_getElem?
  intro j
  rw [List.getElem?_set]
  by_cases c : i = j
  · subst c
    have : i < xs.length := (List.getElem?_eq_some_iff.1 h).1
    rw [if_pos rfl, if_pos this, h]
  · rw [if_neg c]
theorem zipR_append : ∀ (bs : List Nat) (xs : List α) (cs : List Nat) (ys : List α), bs.length = xs.length → zipR R (bs ++ cs) (xs ++ ys) = zipR R bs xs ++ zipR R cs ys
  | [], [], _, _, _ => rfl
  | [], _ :: _, _, _, h => by simp at h
  | _ :: _, [], _, _, h => by simp at h
  | b :: bs, x :: xs, cs, ys, h => by
    simp only [List.cons_append, zipR, zipR_append bs xs cs ys (by simpa using h)]
end
theorem stars_flat {A : List HProp} {m : PH} {l : List HProp} (h : stars (stars A :: l) m) : stars (A ++ l) m := by
  obtain ⟨m1, m2, d, s1, s2, a, b⟩ := h
  exact (stars_append _ _ _).2 ⟨m1, m2, d, s1, s2, a, b⟩
theorem stars_unflat {A : List HProp} {m : PH} {l : List HProp} (h : stars (A ++ l) m) : stars (stars A :: l) m := by
  obtain ⟨m1, m2, d, s1, s2, a, b⟩ := (stars_append _ _ _).1 h
  exact ⟨m1, m2, d, s1, s2, a, b⟩
section
variable {α : Type} {R : Nat → α → HProp} {E : TypeId} {v : Value} {xs : List α} {w : World} {H : List HProp}
theorem Sat.focus {i : Int} {x : α} (hi : at_ xs i = some x) (h : Sat w (OwnPt R E v xs :: H)) : ∃ bs b, at_ bs i = some b ∧ bs.length = xs.length ∧ Rd ekP v bs (OwnPH R E v bs xs i.toNat) ∧ Sat w (R b x :: OwnPH R E v bs xs i.toNat :: H) := by
  obtain ⟨h0, hlt, hget⟩ := at_spec hi
  obtain ⟨m1, m2, d, s1, s2, ⟨bs, hl, hz⟩, hr⟩ := h
  have hb : i.toNat < bs.length := by omega
  have hbg : bs[i.toNat]? = some bs[i.toNat] := List.getElem?_eq_getElem hb
  have hpm : (zipR R bs xs).Perm (R bs[i.toNat] x :: (zipR R bs xs).eraseIdx i.toNat) := by
    have := zipR_set R bs xs i.toNat _ x hbg (by omega)
    rwa [set_self hget] at this
  have h1 : stars (R bs[i.toNat] x :: (Own E ekP v bs :: (zipR R bs xs).eraseIdx i.toNat)) m1 := stars_perm ((List.Perm.cons _ hpm).trans (.swap _ _ _)) hz
  refine ⟨bs, bs[i.toNat], ?_, hl, ?_, ?_⟩
  · unfold at_; rw [decide_eq_true h0, cond_true, hbg]
  · obtain ⟨n1, n2, _, _, _, ho, _⟩ := hz
    refine Rd.cov (Own.rd ho) fun m hm => ?_
    obtain ⟨_, q1, q2, _, t1, _, ho', _⟩ := hm
    exact ⟨q1, t1, ho'⟩
  · have h2 : stars ([R bs[i.toNat] x] ++ [OwnPH R E v bs xs i.toNat]) m1 := by
      obtain ⟨n1, n2, e, t1, t2, a, b⟩ := h1
      exact ⟨n1, n2, e, t1, t2, a, stars_singleton ⟨hl, b⟩⟩
    exact (stars_append [R bs[i.toNat] x, OwnPH R E v bs xs i.toNat] H (hp w)).2 ⟨m1, m2, d, s1, s2, h2, hr⟩
theorem Sat.unfocus {i : Int} {bs : List Nat} {b : Nat} {x x' : α} (hb : at_ bs i = some b) (hi : at_ xs i = some x) (h : Sat w (R b x' :: OwnPH R E v bs xs i.toNat :: H)) : Sat w (OwnPt R E v (xs.set i.toNat x') :: H) := by
  obtain ⟨h0, hlt, hget⟩ := at_spec hi
  obtain ⟨_, _, hbg⟩ := at_spec hb
  have h1 : stars ([R b x', OwnPH R E v bs xs i.toNat] ++ H) (hp w) := h
  obtain ⟨m1, m2, d, s1, s2, a, r⟩ := (stars_append _ _ _).1 h1
  obtain ⟨n1, n2, e, t1, t2, a1, n3, _, _, t3, _, ⟨hl, a2⟩, _⟩ := a
  refine ⟨m1, m2, d, s1, s2, ⟨bs, by simp [hl], ?_⟩, r⟩
  have h2 : stars (R b x' :: (Own E ekP v bs :: (zipR R bs xs).eraseIdx i.toNat)) m1 := ⟨n1, n2, e, t1, t2, a1, stars_mono _ t3 a2⟩
  exact stars_perm ((List.Perm.swap _ _ _).trans (List.Perm.cons _ (zipR_set R bs xs i.toNat b x' hbg (by omega)).symm)) h2
theorem Sat.unfocus0 {i : Int} {bs : List Nat} {b : Nat} {x : α} (hb : at_ bs i = some b) (hi : at_ xs i = some x) (h : Sat w (R b x :: OwnPH R E v bs xs i.toNat :: H)) : Sat w (OwnPt R E v xs :: H) := by
  have := Sat.unfocus hb hi h
  rwa [set_self (at_spec hi).2.2] at this
theorem OwnPt.nil (m : PH) : OwnPt R E (.slice none 0 0) ([] : List α) m := ⟨[], rfl, stars_singleton (Own.nil _ _ _)⟩
theorem Sat.openPt (h : Sat w (OwnPt R E v xs :: H)) : ∃ bs, bs.length = xs.length ∧ Sat w (Own E ekP v bs :: stars (zipR R bs xs) :: H) := by
  obtain ⟨m1, m2, d, s1, s2, ⟨bs, hl, n1, n2, e, t1, t2, ho, hz⟩, hr⟩ := h
  refine ⟨bs, hl, ?_⟩
  have h2 : stars ([Own E ekP v bs] ++ [stars (zipR R bs xs)]) m1 := ⟨n1, n2, e, t1, t2, ho, stars_singleton hz⟩
  exact (stars_append [Own E ekP v bs, stars (zipR R bs xs)] H (hp w)).2 ⟨m1, m2, d, s1, s2, h2, hr⟩
theorem Sat.closePt {bs : List Nat} (hl : bs.length = xs.length) (h : Sat w (Own E ekP v bs :: stars (zipR R bs xs) :: H)) : Sat w (OwnPt R E v xs :: H) := by
  have h1 : stars ([Own E ekP v bs, stars (zipR R bs xs)] ++ H) (hp w) := h
  obtain ⟨m1, m2, d, s1, s2, ⟨n1, n2, e, t1, t2, ho, n3, _, _, t3, _, hz, _⟩, r⟩ := (stars_append _ _ _).1 h1
  exact ⟨m1, m2, d, s1, s2, ⟨bs, hl, n1, n2, e, t1, t2, ho, stars_mono _ t3 hz⟩, r⟩
end
section
variable {P : Program} {f : FuncId} {Rr : Ending → World → Prop} {k : List Item} {n : Nat} {Z : Act → World → Prop} {w0 : Beg} {ρ : Env} {H rest : List HProp} {ops : Array Oper} {l : List Oper} {α : Type} {R : Nat → α → HProp} {E : TypeId} {v : Value} {xs : List α}
theorem SO.focus {i : Int} {x : α} (hi : at_ xs i = some x) (h : ∀ bs b, at_ bs i = some b → bs.length = xs.length → Rd ekP v bs (OwnPH R E v bs xs i.toNat) → SO P n Z w0 ops l ρ (R b x :: OwnPH R E v bs xs i.toNat :: rest)) : SO P n Z w0 ops l ρ (OwnPt R E v xs :: rest) := fun a w h1 h2 h3 h4 h5 => by
  obtain ⟨bs, b, q1, q2, q3, q4⟩ := h4.focus hi
  exact h bs b q1 q2 q3 a w h1 h2 h3 q4 h5
theorem S.focus {i : Int} {x : α} (hi : at_ xs i = some x) (h : ∀ bs b, at_ bs i = some b → bs.length = xs.length → Rd ekP v bs (OwnPH R E v bs xs i.toNat) → S P f n Rr w0 k ρ (R b x :: OwnPH R E v bs xs i.toNat :: rest)) : S P f n Rr w0 k ρ (OwnPt R E v xs :: rest) := fun a w h1 h2 h3 h4 h5 => by
  obtain ⟨bs, b, q1, q2, q3, q4⟩ := h4.focus hi
  exact h bs b q1 q2 q3 a w h1 h2 h3 q4 h5
theorem SO.unfocus {i : Int} {bs : List Nat} {b : Nat} {x x' : α} (hb : at_ bs i = some b) (hi : at_ xs i = some x) (h : SO P n Z w0 ops l ρ (OwnPt R E v (xs.set i.toNat x') :: rest)) : SO P n Z w0 ops l ρ (R b x' :: OwnPH R E v bs xs i.toNat :: rest) := h.sat fun _ s => s.unfocus hb hi
theorem SO.unfocus0 {i : Int} {bs : List Nat} {b : Nat} {x : α} (hb : at_ bs i = some b) (hi : at_ xs i = some x) (h : SO P n Z w0 ops l ρ (OwnPt R E v xs :: rest)) : SO P n Z w0 ops l ρ (R b x :: OwnPH R E v bs xs i.toNat :: rest) := h.sat fun _ s => s.unfocus0 hb hi
theorem S.unfocus {i : Int} {bs : List Nat} {b : Nat} {x x' : α} (hb : at_ bs i = some b) (hi : at_ xs i = some x) (h : S P f n Rr w0 k ρ (OwnPt R E v (xs.set i.toNat x') :: rest)) : S P f n Rr w0 k ρ (R b x' :: OwnPH R E v bs xs i.toNat :: rest) := h.sat fun _ s => s.unfocus hb hi
theorem S.unfocus0 {i : Int} {bs : List Nat} {b : Nat} {x : α} (hb : at_ bs i = some b) (hi : at_ xs i = some x) (h : S P f n Rr w0 k ρ (OwnPt R E v xs :: rest)) : S P f n Rr w0 k ρ (R b x :: OwnPH R E v bs xs i.toNat :: rest) := h.sat fun _ s => s.unfocus0 hb hi
theorem SO.newOwnP (E : TypeId) (R : Nat → α → HProp) (h : SO P n Z w0 ops l ρ (OwnPt R E (.slice none 0 0) ([] : List α) :: H)) : SO P n Z w0 ops l ρ H :=
  h.sat fun w s => show stars (OwnPt R E (.slice none 0 0) ([] : List α) :: H) (hp w) from ⟨fun _ => none, hp w, fun _ => .inl rfl, fun _ _ e => by simp at e, .refl _, OwnPt.nil _, s⟩
theorem S.newOwnP (E : TypeId) (R : Nat → α → HProp) (h : S P f n Rr w0 k ρ (OwnPt R E (.slice none 0 0) ([] : List α) :: H)) : S P f n Rr w0 k ρ H :=
  h.sat fun w s => show stars (OwnPt R E (.slice none 0 0) ([] : List α) :: H) (hp w) from ⟨fun _ => none, hp w, fun _ => .inl rfl, fun _ _ e => by simp at e, .refl _, OwnPt.nil _, s⟩
theorem SO.openPt (h : ∀ bs, bs.length = xs.length → SO P n Z w0 ops l ρ (Own E ekP v bs :: stars (zipR R bs xs) :: rest)) : SO P n Z w0 ops l ρ (OwnPt R E v xs :: rest) := fun a w h1 h2 h3 h4 h5 => by
  obtain ⟨bs, q1, q2⟩ := h4.openPt
  exact h bs q1 a w h1 h2 h3 q2 h5
theorem SO.closePt {bs : List Nat} (hl : bs.length = xs.length) (h : SO P n Z w0 ops l ρ (OwnPt R E v xs :: rest)) : SO P n Z w0 ops l ρ (Own E ekP v bs :: stars (zipR R bs xs) :: rest) := h.sat fun _ s => s.closePt hl
/-- A row of one. -/
theorem SO.packPt1 {b : Nat} {x : α} (h : SO P n Z w0 ops l ρ (OwnPt R E v [x] :: rest)) : SO P n Z w0 ops l ρ (Own E ekP v [b] :: R b x :: rest) := h.sat fun w s => by
  refine Sat.closePt (bs := [b]) (xs := [x]) rfl ?_
  have s2 := s.perm (List.Perm.swap _ _ _)
  have s3 := s2.weaken (B := stars (zipR R [b] [x])) fun m q => stars_singleton q
  exact s3.perm (List.Perm.swap _ _ _)
theorem stars_merge {A B : List HProp} {m : PH} {l : List HProp} (h : stars (stars A :: stars B :: l) m) : stars (stars (A ++ B) :: l) m := by
  have h1 : stars ([stars A, stars B] ++ l) m := h
  obtain ⟨m1, m2, d, s1, s2, a, r⟩ := (stars_append _ _ _).1 h1
  refine ⟨m1, m2, d, s1, s2, ?_, r⟩
  have h2 := stars_flat a
  have h3 : stars ([stars B] ++ A) m1 := stars_perm List.perm_append_comm h2
  have h4 : stars (B ++ A) m1 := stars_flat h3
  exact stars_perm List.perm_append_comm h4
theorem SO.mergeZ {A B : List HProp} (h : SO P n Z w0 ops l ρ (stars (A ++ B) :: rest)) : SO P n Z w0 ops l ρ (stars A :: stars B :: rest) := h.sat fun _ s => stars_merge s
theorem SO.appendPt {ys zs : List α} {d t ty e : Nat} {x y : Operand} {p : String} {af : Array Edge} {i : TypeInfo} {z : Value} {bytes : Nat} {u : Value} (hd : Nat.blt d n = true) (ht : P.underlying t = some (.slice e)) (hi : P.info? e = some i) (hz : i.zero = some z) (hsize : i.size = 1) (hby : i.bytes = bytes) (hbl : bytes ≤ 4096) (hzs : z.cells.size = 1)
    (hx : ev ρ x = some v) (hy : ev ρ y = some u) (ha : app xs ys = some zs)
    (h : ∀ v', SO P n Z w0 ops l ((d, v') :: ρ) (OwnPt R e v' zs :: rest)) : SO P n Z w0 ops (⟨some d, .call ⟨.builtin .append, #[x, y], #[t, t]⟩, ty, p, af, none⟩ :: l) ρ (OwnPt R e v xs :: OwnPt R e u ys :: rest) := by
  refine SO.openPt fun bs hb => ?_
  refine SO.b2 (SO.openPt fun cs hc => ?_)
  obtain ⟨hlen, rfl⟩ := app_spec ha
  refine SO.rd fun hr => ?_
  refine SO.b2 ?_
  have hap : app bs cs = some (bs ++ cs) := by unfold app; rw [decide_eq_true (by omega)]; rfl
  refine SO.append (K := ekP) hd ht ht hi hz hsize hby hbl hzs hx hy (Rd.head hr) hap fun v' => ?_
  refine SO.b1 (SO.drop ?_)
  -- the row, what the second has, what the first has
  refine SO.b2 (SO.b2 (SO.b1 ?_))
  refine SO.mergeZ ?_
  rw [← zipR_append R bs xs cs ys hb]
  refine SO.b1 ?_
  exact SO.closePt (by simp [hb, hc]) (h v')
theorem SO.lenPt {d t ty : Nat} {e : TypeId} {x : Operand} {p : String} {af : Array Edge} (hd : Nat.blt d n = true) (ht : P.underlying t = some (.slice e)) (hx : ev ρ x = some v)
    (h : SO P n Z w0 ops l ((d, .int .i64 (xs.length : Int)) :: ρ) (OwnPt R E v xs :: rest)) : SO P n Z w0 ops (⟨some d, .call ⟨.builtin .len, #[x], #[t]⟩, ty, p, af, none⟩ :: l) ρ (OwnPt R E v xs :: rest) := by
  refine SO.openPt fun bs hb => ?_
  refine SO.rd fun hr => ?_
  refine SO.v hd (opv_lenR rfl ht hr hx) ?_
  rw [hb]
  exact SO.closePt hb h
theorem opv_lenPH {A : HProp} {bs : List Nat} {x : Operand} {tys : Array TypeId} {t e : TypeId} (ht0 : tys[0]? = some t) (ht : P.underlying t = some (.slice e)) (hR : Rd ekP v bs A) (hl : bs.length = xs.length) (hx : ev ρ x = some v) : OpV P ρ (.call ⟨.builtin .len, #[x], tys⟩) (.int .i64 (xs.length : Int)) := by
  have := opv_lenR (ρ := ρ) ht0 ht hR hx
  rwa [hl] at this
theorem SO.onePt (h : v.oneCell' = true → SO P n Z w0 ops l ρ (OwnPt R E v xs :: rest)) : SO P n Z w0 ops l ρ (OwnPt R E v xs :: rest) := by
  refine SO.openPt fun bs hb => ?_
  exact SO.rd fun hr => SO.closePt hb (h (Rd.one hr))
theorem opv_eqlSN {t t2 e : TypeId} {x : Operand} {a : Option Addr} {ln cp : Nat} (ht : P.underlying t = some (.slice e)) (hx : ev ρ x = some (.slice a ln cp)) : OpV P ρ (.binOp .eql t x (.const (.slice none 0 0)) t2) (.bool a.isNone) :=
  fun r w d t' p af g hr => by
    have h0 : r (.const (.slice none 0 0)) = .slice none 0 0 := hr _ _ rfl
    have key : ∀ d, (Op.equalIn (d + 2) t (.slice a ln cp) (.slice none 0 0)).run P w = .ok a.isNone w := fun d => by
      cases a <;> simp [Op.equalIn, run_underlying ht]
    simp [execOp, hr x _ hx, h0, eqGuard, binOp, eql_run w key]
end
end Go.Sl
/-! Regions that draw their order: what is taken and left, told in full (checked by the kernel). -/
set_option linter.unusedVariables false
namespace Go.Sl
section
variable {P : Program} {f : FuncId} {n : Nat} {R : Ending → World → Prop} {w0 : Beg} {k : List Item} {ρ : Env} {H : List HProp} {l : List Oper} {T : List Tok} {D : List Dat} {ini fin : List Nat} {bf : List (List Nat)}
theorem S.draw2 {Y Z : (Env → List HProp → Prop) → Prop} {rid : Nat} (hm : P.follows .mixedOrders = true) (hok : okD l T D ini fin bf = true) (hI : ∀ Q, postQ T Q ini [] [] = Y Q) (hini : ∀ x w, EnvOk x ρ → Sat w H → Y (fun ρ' H' => EnvAll x ρ' ∧ Sat w (H' ++ [])))
    (hE : ∀ Q, preQ T Q fin [] [] = Z Q) (hsp : Specs P l.toArray T n w0 l D) (hfin : Z (fun ρ' H' => S P f n R w0 k ρ' H')) (hu : w0.rd = none := by rfl) : S P f n R w0 (.code (.region rid l.toArray true) :: k) ρ H :=
  S.draw' hm hok (fun x w h1 h2 => by rw [hI]; exact hini x w h1 h2) hE hsp hfin hu
theorem spec2 {ops : Array Oper} {o : Oper} {d : Dat} {L : List Nat} {X : (Env → List HProp → Prop) → Prop} (hX : ∀ Q, preQ T Q L [] [] = X Q) (h : ∀ Fr, X (fun ρ H => SO P n (PZ T d n w0 Fr) w0 ops [o] ρ (H ++ [Fr]))) :
    ∀ Fr, preQ T (fun ρ H => SO P n (PZ T d n w0 Fr) w0 ops [o] ρ (H ++ [Fr])) L [] [] := fun Fr => by rw [hX]; exact h Fr
theorem PZ.of2 {d : Dat} {Fr : HProp} {a : Act} {w : World} {Y : (Env → List HProp → Prop) → Prop} (hY : ∀ Q, postQ T Q d.post [] [] = Y Q) (h1 : a.tmps.size = n) (h3 : a.defers = w0.ds) (h5 : Keep w0.w w) (h : Y (fun ρ H => EnvAll a.tmps ρ ∧ Sat w (H ++ [Fr]))) : PZ T d n w0 Fr a w := .of h1 h3 h5 (by rw [hY]; exact h)
end
end Go.Sl
/-! Maps with integer keys of which nothing is asked: any keys, and as many as there are. -/
set_option linter.unusedVariables false
namespace Go.Sl
open Go.RowKit Go.MapKept
section
variable {α : Type}
def MapL (enc : α → Value) (b : Nat) (l : List (Int × α)) : HProp := fun m => ∃ es clock, m b = some (.map es clock) ∧ Stamped es clock ∧ es.toList.map (fun e => (e.key, e.val)) = ents enc l
theorem MapB.toL {enc : α → Value} {b : Nat} {l : List (Int × α)} {m : PH} (h : MapB enc b l m) : MapL enc b l m := by
  obtain ⟨es, clock, e1, e2, e3, _, _⟩ := h
  exact ⟨es, clock, e1, e2, e3⟩
/-- A map whose keys are ones of their kind, and few. -/
def fewB (l : List (Int × α)) : Bool := (l.all fun p => (Lit.int .i64 p.1).wf) && decide (l.length ≤ 4294967296)
theorem MapL.toB {enc : α → Value} {b : Nat} {l : List (Int × α)} {m : PH} (h : MapL enc b l m) (hf : fewB l = true) : MapB enc b l m := by
  obtain ⟨es, clock, e1, e2, e3⟩ := h
  simp only [fewB, Bool.and_eq_true, List.all_eq_true, decide_eq_true_eq] at hf
  exact ⟨es, clock, e1, e2, e3, hf.1, hf.2⟩
end
section
variable {P : Program} {n : Nat} {Z : Act → World → Prop} {w0 : Beg} {ρ : Env} {H rest : List HProp} {ops : Array Oper} {l : List Oper} {α : Type}
theorem lookup_runL {enc : α → Value} {b : Nat} {xs : List (Int × α)} {m : PH} {w : World} {t kt et : TypeId} {k : Int} {z : Value} (hm : m.Sub (hp w)) (hb : MapL enc b xs m) (ht : P.underlying t = some (.map kt et)) (hk : P.underlying kt = some (.int .i64)) (hz : ∀ w, (zeroValue et).run P w = .ok z w) (ok : Bool) :
    (Instr.lookup t (.map (some b)) (.int .i64 k) ok).run P w = .ok (if ok then .tuple #[((mfind xs k).map enc).getD z, .bool (mfind xs k).isSome] else ((mfind xs k).map enc).getD z) w := by
  obtain ⟨es, clock, e1, e2, e3⟩ := hb
  have hh : w.heap[b]? = some (.map es clock) := hm b _ e1
  have kk : IsKey (.int .i64) (.int .i64 k) := rfl
  have ck := fun e => MapKept.run_checkKey (w := w) hk kk e 9999
  rcases findNow_ents enc k es.toList xs 0 e3 with ⟨j, x, a1, a2, _⟩ | ⟨a1, a2, _⟩
  · have fk := MapKept.run_findKey (w := w) hk a1
    cases ok <;> simp [Instr.lookup.eq_1, run_underlying ht, MapKept.run_getObj_map hh, ck, fk, a2]
  · have fk := MapKept.run_findKey (w := w) hk a1
    cases ok <;> simp [Instr.lookup.eq_1, run_underlying ht, MapKept.run_getObj_map hh, ck, fk, a2, hz]
theorem SO.lookupOkL {d t ty : Nat} {kt et : TypeId} {x ix : Operand} {p : String} {af : Array Edge} {enc : α → Value} {b : Nat} {xs : List (Int × α)} {k : Int} {z : Value} (hd : Nat.blt d n = true) (ht : P.underlying t = some (.map kt et)) (hk : P.underlying kt = some (.int .i64)) (hz : ∀ w, (zeroValue et).run P w = .ok z w) (hx : ev ρ x = some (.map (some b))) (hi : ev ρ ix = some (.int .i64 k))
    (h : SO P n Z w0 ops l ((d, .tuple #[((mfind xs k).map enc).getD z, .bool (mfind xs k).isSome]) :: ρ) (MapL enc b xs :: rest)) : SO P n Z w0 ops (⟨some d, .lookup t x ix true, ty, p, af, none⟩ :: l) ρ (MapL enc b xs :: rest) := by
  refine .raw hd fun r w hr hs => ⟨_, _, ρ, _, ?_, hs, .refl w, h, fun _ h => h⟩
  obtain ⟨m, hm, hb⟩ := hs.head
  simp [execOp, hr x _ hx, hr ix _ hi, lookup_runL hm hb ht hk hz true]
theorem SO.lookup1L {d t ty : Nat} {kt et : TypeId} {x ix : Operand} {p : String} {af : Array Edge} {enc : α → Value} {b : Nat} {xs : List (Int × α)} {k : Int} {z : Value} (hd : Nat.blt d n = true) (ht : P.underlying t = some (.map kt et)) (hk : P.underlying kt = some (.int .i64)) (hz : ∀ w, (zeroValue et).run P w = .ok z w) (hx : ev ρ x = some (.map (some b))) (hi : ev ρ ix = some (.int .i64 k))
    (h : SO P n Z w0 ops l ((d, ((mfind xs k).map enc).getD z) :: ρ) (MapL enc b xs :: rest)) : SO P n Z w0 ops (⟨some d, .lookup t x ix false, ty, p, af, none⟩ :: l) ρ (MapL enc b xs :: rest) := by
  refine .raw hd fun r w hr hs => ⟨_, _, ρ, _, ?_, hs, .refl w, h, fun _ h => h⟩
  obtain ⟨m, hm, hb⟩ := hs.head
  simp [execOp, hr x _ hx, hr ix _ hi, lookup_runL hm hb ht hk hz false]
theorem update_runL {enc : α → Value} {b : Nat} {xs : List (Int × α)} {m : PH} {w : World} {t kt et : TypeId} {k : Int} {v : α} (hm : m.Sub (hp w)) (hb : MapL enc b xs m) (ht : P.underlying t = some (.map kt et)) (hk : P.underlying kt = some (.int .i64)) :
    ∃ es clock, (Instr.mapUpdate t (.map (some b)) (.int .i64 k) (enc v)).run P w = .ok () { w with heap := w.heap.setIfInBounds b (.map es clock) } ∧ Stamped es clock ∧ es.toList.map (fun e => (e.key, e.val)) = ents enc (mset xs k v) := by
  obtain ⟨es, clock, e1, e2, e3⟩ := hb
  have hh : w.heap[b]? = some (.map es clock) := hm b _ e1
  have kk : IsKey (.int .i64) (.int .i64 k) := rfl
  have ck := fun e => MapKept.run_checkKey (w := w) hk kk e 9999
  rcases findNow_ents enc k es.toList xs 0 e3 with ⟨j, x, a1, a2, a3, a4⟩ | ⟨a1, a2, a3, a4⟩
  · have fk := MapKept.run_findKey (w := w) hk a1
    rw [Array.getElem?_toList] at a3
    have ks : ∀ w, (Instr.keyThatStays (.int .i64 k) (.int .i64 k)).run P w = .ok (.int .i64 k) w := fun w => by
      simp [Instr.keyThatStays, Instr.sameBits]
    refine ⟨es.modify j fun e => { e with key := .int .i64 k, val := enc v }, clock, ?_, ?_, ?_⟩
    · have so := MapKept.run_setObj_map (P := P) (.map (es.modify j fun e => { e with key := .int .i64 k, val := enc v }) clock) hh
      simp [Instr.mapUpdate.eq_1, run_underlying ht, MapKept.run_getObj_map hh, ck, fk, a3, ks, so]
    · refine stamped_modify e2 j _ (fun _ _ => rfl) (fun e _ he => ?_)
      rw [he] at a3
      injection a3 with a3
      exact a3.symm
    · rw [a4 v]
      have hj : j < es.size := by
        rcases Nat.lt_or_ge j es.size with z | z
        · exact z
        · rw [Array.getElem?_eq_none z] at a3; cases a3
      apply List.ext_getElem?
      intro q
      have e3q := congrArg (fun l => l[q]?) e3
      simp only [ents, List.getElem?_map, Array.getElem?_toList] at e3q
      simp only [ents, List.getElem?_map, Array.getElem?_toList, Array.getElem?_modify, List.getElem?_set]
      by_cases c : j = q
      · subst c
        have hl : j < xs.length := by
          have := congrArg List.length e3
          simp [ents] at this
          omega
        rw [if_pos rfl, if_pos rfl, if_pos hl, Array.getElem?_eq_getElem hj]; rfl
      · rw [if_neg c, if_neg c]; exact e3q
  · have fk := MapKept.run_findKey (w := w) hk a1
    refine ⟨es.push { key := .int .i64 k, val := enc v, born := clock }, clock + 1, ?_, stamped_push e2 a3, ?_⟩
    · have so := MapKept.run_setObj_map (P := P) (.map (es.push { key := .int .i64 k, val := enc v, born := clock }) (clock + 1)) hh
      simp [Instr.mapUpdate.eq_1, run_underlying ht, MapKept.run_getObj_map hh, ck, fk, so]
    · rw [a4 v]
      simp [ents, e3]
theorem SO.mapUpdateL {t ty : Nat} {kt et : TypeId} {x ix y : Operand} {p : String} {af : Array Edge} {enc : α → Value} {b : Nat} {xs : List (Int × α)} {k : Int} {v : α} (ht : P.underlying t = some (.map kt et)) (hk : P.underlying kt = some (.int .i64)) (hx : ev ρ x = some (.map (some b))) (hi : ev ρ ix = some (.int .i64 k)) (hy : ev ρ y = some (enc v))
    (h : SO P n Z w0 ops l ρ (MapL enc b (mset xs k v) :: rest)) : SO P n Z w0 ops (⟨none, .mapUpdate t x ix y, ty, p, af, none⟩ :: l) ρ (MapL enc b xs :: rest) := by
  refine .raw0 fun r w hr hs => ?_
  obtain ⟨m, hm', hb⟩ := hs.head
  obtain ⟨es, clock, hrun, hst, hen⟩ := update_runL (v := v) hm' hb ht hk (k := k)
  refine ⟨_, MapL enc b (mset xs k v) :: rest, ?_, ?_, Keep.putObj w b (.map es clock), h⟩
  · simp [execOp, hr x _ hx, hr ix _ hi, hr y _ hy, hrun]
  · refine Sat.putObj hs fun q hq _ => ?_
    obtain ⟨es0, c0, f1, f2, f3⟩ := hq
    exact ⟨⟨_, f1⟩, es, clock, by simp, hst, hen⟩
end
end Go.Sl
/-! Things by their boxes' numbers: a list of boxes beside what lies in each; rows whose elements begin with a pointer. -/
set_option linter.unusedVariables false
namespace Go.Sl
open Go.RowKit
theorem at_len {α β : Type} {xs : List α} {ys : List β} {i : Int} {y : β} (hl : xs.length = ys.length) (h : at_ ys i = some y) : ∃ x, at_ xs i = some x := by
  obtain ⟨h0, h1, h2⟩ := at_spec h
  have hb : i.toNat < xs.length := by omega
  refine ⟨xs[i.toNat], ?_⟩
  unfold at_; rw [decide_eq_true h0, cond_true, List.getElem?_eq_getElem hb]
theorem at_of {α : Type} {xs : List α} {i : Int} {x : α} (h0 : 0 ≤ i) (h : xs[i.toNat]? = some x) : at_ xs i = some x := by
  unfold at_; rw [decide_eq_true h0, cond_true, h]
theorem at_zip {α β : Type} {xs : List α} {ys : List β} {i : Int} {x : α} {y : β} (h1 : at_ xs i = some x) (h2 : at_ ys i = some y) : at_ (xs.zip ys) i = some (x, y) := by
  obtain ⟨h0, _, a⟩ := at_spec h1
  obtain ⟨_, _, b⟩ := at_spec h2
  exact at_of h0 (by simp [List.getElem?_zip_eq_some, a, b])
theorem len_zip {α β : Type} {xs : List α} {ys : List β} (h : xs.length = ys.length) : (xs.zip ys).length = ys.length := by simp [h]
def ZipR {α : Type} (R : Nat → α → HProp) (bs : List Nat) (xs : List α) : HProp := stars (zipR R bs xs)
def ZipH {α : Type} (R : Nat → α → HProp) (bs : List Nat) (xs : List α) (i : Nat) : HProp := stars ((zipR R bs xs).eraseIdx i)
section
variable {α : Type} {R : Nat → α → HProp} {bs : List Nat} {xs : List α} {w : World} {H : List HProp}
theorem Sat.focusZ {i : Int} {b : Nat} {x : α} (hb : at_ bs i = some b) (hi : at_ xs i = some x) (h : Sat w (ZipR R bs xs :: H)) : Sat w (R b x :: ZipH R bs xs i.toNat :: H) := by
  obtain ⟨h0, hlt, hget⟩ := at_spec hi
  obtain ⟨_, hb1, hbg⟩ := at_spec hb
  obtain ⟨m1, m2, d, s1, s2, hz, hr⟩ := h
  have hpm : (zipR R bs xs).Perm (R b x :: (zipR R bs xs).eraseIdx i.toNat) := by
    have := zipR_set R bs xs i.toNat b x hbg (by omega)
    rwa [set_self hget] at this
  have h1 : stars (R b x :: (zipR R bs xs).eraseIdx i.toNat) m1 := stars_perm hpm hz
  obtain ⟨n1, n2, e, t1, t2, a, c⟩ := h1
  have h2 : stars ([R b x] ++ [ZipH R bs xs i.toNat]) m1 := ⟨n1, n2, e, t1, t2, a, stars_singleton c⟩
  exact (stars_append [R b x, ZipH R bs xs i.toNat] H (hp w)).2 ⟨m1, m2, d, s1, s2, h2, hr⟩
theorem Sat.unfocusZ {i : Int} {b : Nat} {x x' : α} (hb : at_ bs i = some b) (hi : at_ xs i = some x) (h : Sat w (R b x' :: ZipH R bs xs i.toNat :: H)) : Sat w (ZipR R bs (xs.set i.toNat x') :: H) := by
  obtain ⟨h0, hlt, hget⟩ := at_spec hi
  obtain ⟨_, _, hbg⟩ := at_spec hb
  have h1 : stars ([R b x', ZipH R bs xs i.toNat] ++ H) (hp w) := h
  obtain ⟨m1, m2, d, s1, s2, a, r⟩ := (stars_append _ _ _).1 h1
  obtain ⟨n1, n2, e, t1, t2, a1, n3, _, _, t3, _, a2, _⟩ := a
  refine ⟨m1, m2, d, s1, s2, ?_, r⟩
  have h2 : stars (R b x' :: (zipR R bs xs).eraseIdx i.toNat) m1 := ⟨n1, n2, e, t1, t2, a1, stars_mono _ t3 a2⟩
  exact stars_perm (zipR_set R bs xs i.toNat b x' hbg (by omega)).symm h2
theorem Sat.unfocusZ0 {i : Int} {b : Nat} {x : α} (hb : at_ bs i = some b) (hi : at_ xs i = some x) (h : Sat w (R b x :: ZipH R bs xs i.toNat :: H)) : Sat w (ZipR R bs xs :: H) := by
  have := Sat.unfocusZ hb hi h
  rwa [set_self (at_spec hi).2.2] at this
/-- One more, at the end. -/
theorem Sat.snocZ {b : Nat} {x : α} (hl : bs.length = xs.length) (h : Sat w (R b x :: ZipR R bs xs :: H)) : Sat w (ZipR R (bs ++ [b]) (xs ++ [x]) :: H) := by
  have h1 : stars ([R b x, ZipR R bs xs] ++ H) (hp w) := h
  obtain ⟨m1, m2, d, s1, s2, a, r⟩ := (stars_append _ _ _).1 h1
  obtain ⟨n1, n2, e, t1, t2, a1, n3, _, _, t3, _, a2, _⟩ := a
  refine ⟨m1, m2, d, s1, s2, ?_, r⟩
  have h2 : stars (R b x :: zipR R bs xs) m1 := ⟨n1, n2, e, t1, t2, a1, stars_mono _ t3 a2⟩
  show stars (zipR R (bs ++ [b]) (xs ++ [x])) m1
  rw [zipR_append R bs xs [b] [x] hl]
  exact stars_perm (List.perm_append_comm (l₁ := [R b x]) (l₂ := zipR R bs xs)) h2
theorem ZipR.nil (m : PH) : ZipR R [] [] m := trivial
end
section
variable {P : Program} {f : FuncId} {Rr : Ending → World → Prop} {k : List Item} {n : Nat} {Z : Act → World → Prop} {w0 : Beg} {ρ : Env} {H rest : List HProp} {ops : Array Oper} {l : List Oper} {α : Type} {R : Nat → α → HProp} {E : TypeId} {v : Value} {bs : List Nat} {xs : List α}
theorem SO.focusZ {i : Int} {b : Nat} {x : α} (hb : at_ bs i = some b) (hi : at_ xs i = some x) (h : SO P n Z w0 ops l ρ (R b x :: ZipH R bs xs i.toNat :: rest)) : SO P n Z w0 ops l ρ (ZipR R bs xs :: rest) := h.sat fun _ s => s.focusZ hb hi
theorem S.focusZ {i : Int} {b : Nat} {x : α} (hb : at_ bs i = some b) (hi : at_ xs i = some x) (h : S P f n Rr w0 k ρ (R b x :: ZipH R bs xs i.toNat :: rest)) : S P f n Rr w0 k ρ (ZipR R bs xs :: rest) := h.sat fun _ s => s.focusZ hb hi
theorem SO.unfocusZ {i : Int} {b : Nat} {x x' : α} (hb : at_ bs i = some b) (hi : at_ xs i = some x) (h : SO P n Z w0 ops l ρ (ZipR R bs (xs.set i.toNat x') :: rest)) : SO P n Z w0 ops l ρ (R b x' :: ZipH R bs xs i.toNat :: rest) := h.sat fun _ s => s.unfocusZ hb hi
theorem S.unfocusZ {i : Int} {b : Nat} {x x' : α} (hb : at_ bs i = some b) (hi : at_ xs i = some x) (h : S P f n Rr w0 k ρ (ZipR R bs (xs.set i.toNat x') :: rest)) : S P f n Rr w0 k ρ (R b x' :: ZipH R bs xs i.toNat :: rest) := h.sat fun _ s => s.unfocusZ hb hi
theorem SO.unfocusZ0 {i : Int} {b : Nat} {x : α} (hb : at_ bs i = some b) (hi : at_ xs i = some x) (h : SO P n Z w0 ops l ρ (ZipR R bs xs :: rest)) : SO P n Z w0 ops l ρ (R b x :: ZipH R bs xs i.toNat :: rest) := h.sat fun _ s => s.unfocusZ0 hb hi
theorem S.unfocusZ0 {i : Int} {b : Nat} {x : α} (hb : at_ bs i = some b) (hi : at_ xs i = some x) (h : S P f n Rr w0 k ρ (ZipR R bs xs :: rest)) : S P f n Rr w0 k ρ (R b x :: ZipH R bs xs i.toNat :: rest) := h.sat fun _ s => s.unfocusZ0 hb hi
theorem SO.snocZ {b : Nat} {x : α} (hl : bs.length = xs.length) (h : SO P n Z w0 ops l ρ (ZipR R (bs ++ [b]) (xs ++ [x]) :: rest)) : SO P n Z w0 ops l ρ (R b x :: ZipR R bs xs :: rest) := h.sat fun _ s => s.snocZ hl
theorem S.snocZ {b : Nat} {x : α} (hl : bs.length = xs.length) (h : S P f n Rr w0 k ρ (ZipR R (bs ++ [b]) (xs ++ [x]) :: rest)) : S P f n Rr w0 k ρ (R b x :: ZipR R bs xs :: rest) := h.sat fun _ s => s.snocZ hl
theorem opv_lenZ {β : Type} {ys : List β} {K : EK (Nat × β)} {A : HProp} {x : Operand} {tys : Array TypeId} {t e : TypeId} (hl : bs.length = ys.length) (ht0 : tys[0]? = some t) (ht : P.underlying t = some (.slice e)) (hR : Rd K v (bs.zip ys) A) (hx : ev ρ x = some v) : OpV P ρ (.call ⟨.builtin .len, #[x], tys⟩) (.int .i64 (ys.length : Int)) := by
  have := opv_lenR (ρ := ρ) ht0 ht hR hx
  rwa [len_zip hl] at this
/-- Rows of pairs: one more, at the end. -/
theorem app_zip {β : Type} {ys zs : List β} {b : Nat} {y : β} (hl : bs.length = ys.length) (h : app ys [y] = some zs) : app (bs.zip ys) [(b, y)] = some ((bs ++ [b]).zip zs) := by
  obtain ⟨h1, rfl⟩ := app_spec h
  rw [List.zip_append hl]
  unfold app; rw [decide_eq_true (by rw [len_zip hl]; simpa using h1)]; rfl
end
theorem perm_idx {α : Type _} (l : List α) (d : α) (idx : List Nat) (h : List.isPerm idx (List.range l.length) = true) : l.Perm (idx.map fun i => l.getD i d) := by
  have h1 : (List.range l.length).map (fun i => l.getD i d) = l := by
    apply List.ext_getElem
    · simp
    · intro i h1 h2
      simp [List.getD_eq_getElem?_getD, List.getElem?_eq_getElem h2]
  have h2 := (List.isPerm_iff.1 h).map (fun i => l.getD i d)
  rw [h1] at h2
  exact h2.symm
/-- Some of them, in this order. -/
theorem Sat.re {w : World} {l : List HProp} (h : Sat w l) (idx : List Nat) (hp : List.isPerm (idx ++ (List.range l.length).filter fun i => !idx.contains i) (List.range l.length) = true) : Sat w (idx.map fun i => l.getD i (fun _ => True)) := by
  have h1 := h.perm (perm_idx l (fun _ => True) _ hp)
  rw [List.map_append] at h1
  obtain ⟨m1, m2, _, s1, _, a, _⟩ := (stars_append _ _ _).1 h1
  exact stars_mono _ s1 a
theorem Ct.use {P : Program} {g : FuncId} {vals : List Value} {rd : HProp → Prop} {pre : List HProp} {post : Value → List HProp → Prop} (hct : Ct P g vals rd pre post) {w : World} {l : List HProp} (hs : Sat w (pre ++ l)) (hr : rd (stars l)) :
    Calls P g vals.toArray w (fun e w' => ∃ v H', e = .returned v ∧ post v H' ∧ Sat w' (H' ++ l) ∧ Keep w w') :=
  (hct w _ hr hs.pack).mono fun _ _ ⟨v, H', h1, h2, h3, h4⟩ => ⟨v, H', h1, h2, h3.unpack, h4⟩
theorem stars_map0 {α : Type} {A B : Nat → α → HProp} (h : ∀ b x m, A b x m → B b x m) : ∀ (bs : List Nat) (xs : List α) (m : PH), stars (zipR A bs xs) m → stars (zipR B bs xs) m
  | [], [], _, h1 => h1
  | [], _ :: _, _, h1 => h1
  | _ :: _, [], _, h1 => h1
  | b :: bs, x :: xs, m, h1 => by
    obtain ⟨m1, m2, d, s1, s2, a, r⟩ := h1
    exact ⟨m1, m2, d, s1, s2, h _ _ _ a, stars_map0 h bs xs _ r⟩
theorem stars_map {α : Type} {A B : Nat → α → HProp} (h : ∀ b x m, A b x m → B b x m) : ∀ (bs : List Nat) (xs : List α) (i : Nat) (m : PH), stars ((zipR A bs xs).eraseIdx i) m → stars ((zipR B bs xs).eraseIdx i) m
  | [], [], _, _, h1 => h1
  | [], _ :: _, _, _, h1 => h1
  | _ :: _, [], _, _, h1 => h1
  | b :: bs, x :: xs, 0, m, h1 => stars_map0 h bs xs m h1
  | b :: bs, x :: xs, i + 1, m, h1 => by
    obtain ⟨m1, m2, d, s1, s2, a, r⟩ := h1
    exact ⟨m1, m2, d, s1, s2, h _ _ _ a, stars_map h bs xs i _ r⟩
/-! Lists of lists of lists that came in. -/
def Rd3 {α : Type} (K : EK α) (v : Value) (xss : List (List (List α))) (A : HProp) : Prop :=
  ∃ vs : List SV, Rd ekS v vs A ∧ vs.length = xss.length ∧ ∀ (i : Nat) (x : SV) (l : List (List α)), vs[i]? = some x → xss[i]? = some l → Rd2 K x.1 l A
theorem Rd3.at_ {α : Type} {K : EK α} {xss : List (List (List α))} {A : HProp} {vs : List SV} {i : Int} {l : List (List α)} (hl : vs.length = xss.length) (hR : ∀ (i : Nat) (x : SV) (l : List (List α)), vs[i]? = some x → xss[i]? = some l → Rd2 K x.1 l A) (h : Go.Sl.at_ xss i = some l) : ∃ y : SV, Go.Sl.at_ vs i = some y ∧ Rd2 K y.1 l A := by
  obtain ⟨h1, h2, h3⟩ := at_spec h
  have h4 : vs[i.toNat]? = some (vs[i.toNat]'(by omega)) := List.getElem?_eq_getElem (by omega)
  exact ⟨vs[i.toNat]'(by omega), at_of h1 h4, hR _ _ _ h4 h3⟩
theorem opv_len3 {P : Program} {ρ : Env} {α : Type} {A : HProp} {vs : List SV} {xss : List α} {v : Value} {x : Operand} {tys : Array TypeId} {t e : TypeId} (ht0 : tys[0]? = some t) (ht : P.underlying t = some (.slice e)) (hR : Rd ekS v vs A) (hl : vs.length = xss.length) (hx : ev ρ x = some v) :
    OpV P ρ (.call ⟨.builtin .len, #[x], tys⟩) (.int .i64 (xss.length : Int)) := by
  rw [← hl]; exact opv_lenR ht0 ht hR hx
theorem Rd3.cov3 {α : Type} {K : EK α} {v : Value} {xss : List (List (List α))} {A A' : HProp} (h : Rd3 K v xss A) (c : Cov A' A) : Rd3 K v xss A' := by
  obtain ⟨vs, h1, h2, h3⟩ := h
  exact ⟨vs, h1.cov c, h2, fun i x l e1 e2 => (h3 i x l e1 e2).cov2 c⟩
theorem Rd3.head {α : Type} {K : EK α} {v : Value} {xss : List (List (List α))} {A : HProp} {l : List HProp} (h : Rd3 K v xss A) : Rd3 K v xss (stars (A :: l)) := Rd3.cov3 h Cov.head
theorem Rd3.tail {α : Type} {K : EK α} {v : Value} {xss : List (List (List α))} {A : HProp} {l : List HProp} (h : Rd3 K v xss (stars l)) : Rd3 K v xss (stars (A :: l)) := Rd3.cov3 h Cov.tail
end Go.Sl
/-! From a contract to a row that says 'true, whatever the input'. -/
namespace Go.Sl
open Go.RowKit Go.ChangeShapes Go.WideShapes Go.ChangeAt

/-- All that lies in a world. -/
def Whole (W : World) : HProp := fun m => ∀ b o, W.heap[b]? = some o → m b = some o
theorem Sat.whole (W : World) : Sat W [Whole W] := ⟨hp W, fun _ => none, fun _ => .inr rfl, .refl _, fun _ _ e => by simp at e, fun _ _ h => h, trivial⟩
theorem Ct.law {P : Program} {g : FuncId} {vals : List Value} {rd : HProp → Prop} {v : Value} (h : Ct P g vals rd [] (fun u H' => u = v ∧ H' = [])) {W : World} (hr : rd (Whole W)) :
    Calls P g vals.toArray W (fun e w' => e = .returned v ∧ Below W.heap.size W w') := by
  refine (h W _ hr (Sat.whole W)).mono ?_
  rintro e w' ⟨u, H', rfl, ⟨rfl, rfl⟩, hs, hk⟩
  refine ⟨rfl, hk.os, hk.tape, hk.output, hk.size, fun k hk' => ?_⟩
  obtain ⟨m, hm, ha⟩ := Sat.head hs
  rw [Array.getElem?_eq_getElem hk']
  exact hm _ _ (ha k _ (Array.getElem?_eq_getElem hk'))

section
variable {H : Type} {enc : TypeId × Value → H} {P : Program}
theorem carryAll (hl : laidOutB P = true) {W W' : World} (hb : Below W.heap.size W W') {sp : Nat → Bool} : ∀ {ts : List TypeId} {vs : List Value} {ds : List (DataW H)} {ps : List MemPlace}, (∀ t ∈ ts, P.readableRec t = true ∧ t < P.types.size) →
    DataW.TrodAll enc P W 0 (fun _ => true) true ts vs ds ps → (∀ x ∈ ps, x.block < W.heap.size) → (∀ x ∈ ps, sp x.block = true) → DataW.TrodAll enc P W' 0 sp true ts vs ds ps
  | [], [], [], _, _, h, _, _ => h
  | _ :: _, _ :: _, _ :: _, _, hT, ⟨p, q, h1, h2, e⟩, hlt, hs =>
    ⟨p, q, WideElems.Trod_stays hl (hT _ (List.mem_cons.2 (Or.inl rfl))).1 (hT _ (List.mem_cons.2 (Or.inl rfl))).2 h1 (fun x hx => hb.same (hlt x (by rw [e]; exact List.mem_append_left _ hx))) (fun x hx => hs x (by rw [e]; exact List.mem_append_left _ hx)),
      carryAll hl hb (fun t ht => hT t (List.mem_cons.2 (Or.inr ht))) h2 (fun x hx => hlt x (by rw [e]; exact List.mem_append_right _ hx)) (fun x hx => hs x (by rw [e]; exact List.mem_append_right _ hx)), e⟩

theorem law_post {f : Func} {s : ChangeSpec} {apart : Bool} {W W' : World} {args : Array Value} {ds : List (DataW H)} {before : List MemPlace} {t : TypeId}
    (hW : DataW.Whole enc P f.params.toList s.vars apart W args.toList ds [] before) (hl : laidOutB P = true) (hts : (f.params.toList.all fun t => P.readableRec t && decide (t < P.types.size)) = true)
    (hb : Below W.heap.size W W') (hr : f.resultTypes = #[t]) (ht : P.underlying t = some .bool) (hv : s.vars = [])
    (hfn : s.fn H (ds ++ []) = { results := [.lit (.bool true)], args := ds }) : s.post enc P f apart true false false W args (.bool true) W' := by
  have hlt : ∀ p ∈ before, p.block < W.heap.size := fun p hp => by simpa using hW.lt p hp
  have hold : ∀ p ∈ before, (fun b => decide (b < W.heap.size)) p.block = true := fun p hp => by simpa using hW.lt p hp
  have hW2 := hW
  obtain ⟨p, q, hA, hV, rfl, hz, hn⟩ := hW
  rw [hv] at hV
  obtain ⟨-, rfl⟩ := trodVars_none hV
  simp only [List.append_nil] at hlt hold hz hn hW2
  have hT : ∀ t ∈ f.params.toList, P.readableRec t = true ∧ t < P.types.size := fun t ht => by
    have := List.all_eq_true.1 hts t ht
    simpa using this
  have ha : ∀ sp : Nat → Bool, (∀ x ∈ p, sp x.block = true) → DataW.TrodAll enc P W' 0 sp true f.params.toList args.toList (s.fn H (ds ++ [])).args p := fun sp hs => by
    rw [hfn]; exact carryAll hl hb hT hA hlt hs
  have hvv : ∀ sp : Nat → Bool, DataW.TrodVars enc P W' sp s.vars (s.fn H (ds ++ [])).vars [] := fun sp => by rw [hfn, hv]; rfl
  have hres : ∀ (b : Nat) (sp : Nat → Bool) (hd : Bool), DataW.TrodAll enc P W' b sp hd f.resultTypes.toList ((Value.bool true).resultList f.resultTypes.size) (s.fn H (ds ++ [])).results [] := fun b sp hd => by
    rw [hfn, hr]; exact trodAll_mk1 (shut_bool ht true)
  refine ⟨ds, [], p, [], p, [], hW2, hres _ _ _, ha _ hold, hvv _, hb.frame _, fun _ => ?_⟩
  refine ⟨ok_one hr rfl (okWide_bool_mk ht true), _, _, ([] ++ p) ++ [], ⟨[] ++ p, [], trodAll_append (ha _ (fun _ _ => rfl)) (hres _ _ _), hvv _, rfl, ?_, ?_⟩, ?_⟩
  · intro b off hp
    have hp' : MemPlace.cell b off ∈ p := by simpa using hp
    rw [hb.frozen (p := ⟨b, off, none⟩) (hlt _ hp')]
    exact hz b off hp'
  · intro h
    simpa using hn h
  · intro x hx _
    simpa using hx
end

/-! ### Arguments, opened -/
/-- What reads as data at this type has these cells. -/
def Parse {α : Type} (P : Program) (t : TypeId) (en : α → List Value) (wf : α → Prop) : Prop :=
  ∀ {H : Type} (enc : TypeId × Value → H) (w : World) (base : Nat) (sp : Nat → Bool) (hd : Bool) (n : Nat) (cs : List Value) (x : DataW H × List MemPlace), DataW.trod enc P w base sp hd n t cs = some x → ∃ a, cs = en a ∧ wf a
def fits (k : IntKind) (n : Int) : Prop := (Lit.int k n).wf = true
theorem parse_int {P : Program} {t : TypeId} {k : IntKind} (ht : P.underlying t = some (.int k)) : Parse P t (fun x => [Value.int k x]) (fits k) := by
  intro H enc w base sp hd n cs x h
  obtain ⟨a, h1, -, h2⟩ := DataW.trod_int ht h
  exact ⟨a, h1, h2⟩
theorem parse_bool {P : Program} {t : TypeId} (ht : P.underlying t = some .bool) : Parse P t (fun x => [Value.bool x]) (fun _ => True) := by
  intro H enc w base sp hd n cs x h
  obtain ⟨a, h1, -⟩ := DataW.trod_bool ht h
  exact ⟨a, h1, trivial⟩
/-- A field of a struct. -/
theorem parse_field {α H : Type} {P : Program} {enc : TypeId × Value → H} {w : World} {base : Nat} {sp : Nat → Bool} {hd : Bool} {n i o sz : Nat} {cs : List Value} {fs : Array Field} {fd : Field} {xs : List (DataW H × List MemPlace)} {en : α → List Value} {wf : α → Prop}
    (hx : xs.length = fs.size) (hall : ∀ (i : Nat) (f : Field), fs[i]? = some f → DataW.trod enc P w base sp hd n f.type ((cs.drop f.offset).take (P.cellsOf f.type)) = xs[i]?)
    {tt : TypeId} (hp : Parse P tt en wf) (hi : fs[i]? = some fd) (ht : fd.type = tt) (ho : fd.offset = o) (hc : P.cellsOf tt = sz) : ∃ a, (cs.drop o).take sz = en a ∧ wf a := by
  subst ht ho hc
  have h := hall i fd hi
  have hlt : i < fs.size := (Array.getElem?_eq_some_iff.1 hi).1
  rw [List.getElem?_eq_getElem (by omega : i < xs.length)] at h
  exact hp _ _ _ _ _ _ _ _ h

section
variable {H : Type} {enc : TypeId × Value → H} {P : Program} {W : World} {b0 : Nat} {sp : Nat → Bool} {hd : Bool} {r : Reach} {t e : TypeId} {v : Value} {d : DataW H} {ps : List MemPlace}
theorem open_st {α : Type} {en : α → List Value} {wf : α → Prop} {fs : Array Field} (hp : Parse P t en wf) (ht : P.underlying t = some (.struct fs)) (hval : Value.okWide P W r b0 t v) (h : DataW.Trod enc P W 0 sp hd t v d ps) : ∃ a, v = .agg (en a).toArray ∧ wf a := by
  obtain ⟨cs, rfl, -⟩ := okWide_struct ht hval
  obtain ⟨n, h⟩ := h
  obtain ⟨a, h1, h2⟩ := hp _ _ _ _ _ _ _ _ h
  refine ⟨a, ?_, h2⟩
  rw [← h1]; simp [Value.cells]
theorem cell_whole {a : Addr} {u : Value} (h : W.cell? a = some u) : a.spot = none ∧ ∃ all E fr, W.heap[a.block]? = some (.cells all E fr) ∧ all[a.off]? = some u := by
  unfold World.cell? at h
  split at h
  · rename_i c E fr hc
    split at h
    · cases h
    · rename_i hs
      exact ⟨by simpa using hs, c, E, fr, hc, h⟩
  · cases h
theorem open_slW {α : Type} {K : EK α} {wf : α → Prop} {n : Nat} {x : DataW H × List MemPlace} (hp : ∀ n cs x, DataW.trod enc P W 0 sp hd n e cs = some x → ∃ a, cs = K.enc a ∧ wf a) (ht : P.underlying t = some (.slice e)) (hc : P.cellsOf e = K.sz) (h : DataW.trod enc P W 0 sp hd n t [v] = some x) :
    ∃ xs : List α, Rd K v xs (Whole W) ∧ (∀ x ∈ xs, wf x) ∧ xs.length ≤ maxLen := by
  rcases DataW.trod_slice ht h with ⟨h0, -⟩ | ⟨a, len, cap, elems, rest, m, -, h0, -, -, hl, hm, hlen, hel, -, -⟩
  · injection h0 with h0; subst h0
    exact ⟨[], ⟨none, 0, ⟨rfl, Nat.le_refl _⟩, fun i x hx => by simp at hx⟩, fun x hx => by simp at hx, by simp⟩
  · injection h0 with h0; subst h0
    have each : ∀ i, i < len → ∃ z, W.cells? 0 (a.add (i * P.cellsOf e)) (P.cellsOf e) = some (K.enc z) ∧ wf z := by
      intro i hi
      have h1 := hel i hi
      rw [List.getElem?_eq_getElem (by omega : i < elems.length)] at h1
      simp only [Option.bind_eq_some_iff] at h1
      obtain ⟨cs, h1, h2⟩ := h1
      obtain ⟨z, rfl, hz⟩ := hp _ _ _ h2
      exact ⟨z, h1, hz⟩
    let F : Fin len → α := fun i => Classical.choose (each i i.2)
    have hF : ∀ (i : Nat) (hi : i < len), W.cells? 0 (a.add (i * P.cellsOf e)) (P.cellsOf e) = some (K.enc (F ⟨i, hi⟩)) ∧ wf (F ⟨i, hi⟩) := fun i hi => Classical.choose_spec (each i hi)
    refine ⟨List.ofFn F, ⟨some a, cap, ⟨by simp, by simp; omega⟩, fun i x hx => ?_⟩, fun x hx => ?_, by simp; omega⟩
    · rw [List.getElem?_eq_some_iff] at hx
      obtain ⟨hi, hx⟩ := hx
      simp only [List.length_ofFn] at hi
      simp only [List.getElem_ofFn] at hx
      obtain ⟨hcs, -⟩ := hF i hi
      rw [hx] at hcs
      obtain ⟨-, hlen', hcell⟩ := World.cells?_some hcs
      have key : ∀ j, j < K.sz → ∃ u, (K.enc x)[j]? = some u ∧ W.cell? ((a.add (i * P.cellsOf e)).add j) = some u := fun j hj => by
        have := hcell j (by omega)
        have hj2 : j < (K.enc x).length := by rw [K.len]; exact hj
        rw [List.getElem?_eq_getElem hj2] at this
        exact ⟨_, List.getElem?_eq_getElem hj2, this⟩
      have hspot : a.spot = none := by
        obtain ⟨hcs0, -⟩ := hF 0 (by omega)
        obtain ⟨-, -, hcell0⟩ := World.cells?_some hcs0
        have h0 := hcell0 0 (by rw [hc]; exact K.pos)
        have hj2 : 0 < (K.enc (F ⟨0, by omega⟩)).length := by rw [K.len]; exact K.pos
        rw [List.getElem?_eq_getElem hj2] at h0
        have := (cell_whole h0).1
        simpa [Addr.add] using this
      obtain ⟨blk, off, spot⟩ := a
      simp only at hspot
      subst hspot
      obtain ⟨u0, -, hu0⟩ := key 0 K.pos
      rw [add_plain, add_plain] at hu0
      obtain ⟨-, all, E, fr, hall, -⟩ := cell_whole hu0
      refine ⟨blk, off, rfl, fun mm hmm => ⟨all, E, fr, hmm _ _ hall, fun j hj => ?_⟩⟩
      obtain ⟨u, hu1, hu2⟩ := key j hj
      rw [add_plain, add_plain] at hu2
      obtain ⟨-, all2, E2, fr2, hall2, hu3⟩ := cell_whole hu2
      have : all2 = all := by
        have e1 : W.heap[blk]? = some (.cells all2 E2 fr2) := hall2
        have e2 : W.heap[blk]? = some (.cells all E fr) := hall
        rw [e1] at e2; injection e2 with e2; injection e2
      subst this
      rw [hu1, ← hu3, hc]
      simp [Nat.add_assoc]
    · obtain ⟨i, rfl⟩ := List.mem_ofFn.1 hx
      exact (hF i.1 i.2).2
theorem open_sl {α : Type} {K : EK α} {wf : α → Prop} (hp : Parse P e K.enc wf) (ht : P.underlying t = some (.slice e)) (hc : P.cellsOf e = K.sz) (hval : Value.okWide P W r b0 t v) (h : DataW.Trod enc P W 0 sp hd t v d ps) :
    ∃ xs : List α, Rd K v xs (Whole W) ∧ (∀ x ∈ xs, wf x) ∧ xs.length ≤ maxLen := by
  obtain ⟨n, h⟩ := h
  have hv1 : v.cells.toList = [v] := by
    cases v <;> first | rfl | (simp [Value.okWide, ht, Cell.okWide, Cell.ok] at hval)
  rw [hv1] at h
  exact open_slW (fun _ _ _ h => hp _ _ _ _ _ _ _ _ h) ht hc h
end
end Go.Sl
/-! Numbers: wraps that change nothing. -/
namespace Go.Sl
theorem w64_id {x : Int} (h1 : -9223372036854775808 ≤ x) (h2 : x ≤ 9223372036854775807) : w64 x = x := by
  simp only [IntKind.wrap, IntKind.signed, IntKind.bits]; simp; omega
theorem wu64_id {x : Int} (h1 : 0 ≤ x) (h2 : x ≤ 18446744073709551615) : wu64 x = x := by
  simp only [IntKind.wrap, IntKind.signed, IntKind.bits]; simp; omega
theorem wu32_id {x : Int} (h1 : 0 ≤ x) (h2 : x ≤ 4294967295) : wu32 x = x := by
  simp only [IntKind.wrap, IntKind.signed, IntKind.bits]; simp; omega
theorem fits_i64 {n : Int} (h : (Lit.int .i64 n).wf = true) : -9223372036854775808 ≤ n ∧ n ≤ 9223372036854775807 := bounds_i64 h
theorem fits_u64 {n : Int} (h : (Lit.int .u64 n).wf = true) : 0 ≤ n ∧ n ≤ 18446744073709551615 := bounds_u64 h
end Go.Sl
/-! Rows of slices of which the lengths alone are told; steps whose value is reckoned out. -/
set_option linter.unusedVariables false
namespace Go.Sl
open Go.RowKit
def lenS (v : Value) (n : Nat) : Prop := ∃ a cap, v = .slice a n cap ∧ n ≤ cap
theorem lenS.nil : lenS (.slice none 0 0) 0 := ⟨none, 0, rfl, Nat.le_refl _⟩
theorem lenS.of_rd {α : Type} {K : EK α} {v : Value} {xs : List α} {A : HProp} (h : Rd K v xs A) : lenS v xs.length := by
  obtain ⟨a, cap, ⟨h1, h2⟩, _⟩ := h
  exact ⟨a, cap, h1, h2⟩
theorem lenS.rd0 {α : Type} {K : EK α} {v : Value} {A : HProp} (h : lenS v 0) : Rd K v [] A := by
  obtain ⟨a, cap, h1, h2⟩ := h
  exact ⟨a, cap, ⟨h1, h2⟩, fun i x hx => by simp at hx⟩
theorem lenS.one {v : Value} {n : Nat} (h : lenS v n) : v.oneCell' = true := by
  obtain ⟨a, cap, h1, _⟩ := h
  rw [h1]; rfl
def LensR (E : TypeId) (v : Value) (ns : List Nat) : HProp := fun m => ∃ xs : List SV, xs.length = ns.length ∧ (∀ (i : Nat) (x : SV) (n : Nat), xs[i]? = some x → ns[i]? = some n → lenS x.1 n) ∧ Own E ekS v xs m
theorem LensR.nil (E : TypeId) (m : PH) : LensR E (.slice none 0 0) [] m := ⟨[], rfl, fun i x n h => by simp at h, Own.nil _ _ _⟩
section
variable {P : Program} {f : FuncId} {n : Nat} {R : Ending → World → Prop} {Z : Act → World → Prop} {w0 : Beg} {ρ : Env} {rest : List HProp} {ops : Array Oper} {l : List Oper} {k : List Item} {E : TypeId} {v : Value} {ns : List Nat}
theorem SO.openLens (h : ∀ xs : List SV, xs.length = ns.length → (∀ (i : Nat) (x : SV) (n : Nat), xs[i]? = some x → ns[i]? = some n → lenS x.1 n) → SO P n Z w0 ops l ρ (Own E ekS v xs :: rest)) : SO P n Z w0 ops l ρ (LensR E v ns :: rest) := by
  intro a w h1 h2 h3 h4 h5
  obtain ⟨m1, m2, d, s1, s2, ⟨xs, e1, e2, hx⟩, hr⟩ := h4
  exact h xs e1 e2 a w h1 h2 h3 ⟨m1, m2, d, s1, s2, hx, hr⟩ h5
theorem SO.closeLens {xs : List SV} (e1 : xs.length = ns.length) (e2 : ∀ (i : Nat) (x : SV) (n : Nat), xs[i]? = some x → ns[i]? = some n → lenS x.1 n) (h : SO P n Z w0 ops l ρ (LensR E v ns :: rest)) : SO P n Z w0 ops l ρ (Own E ekS v xs :: rest) :=
  h.sat fun w hs => by
    obtain ⟨m1, m2, d, s1, s2, a, r⟩ := hs
    exact ⟨m1, m2, d, s1, s2, ⟨xs, e1, e2, a⟩, r⟩
theorem SO.nilLens (E : TypeId) (h : SO P n Z w0 ops l ρ (LensR E (.slice none 0 0) [] :: rest)) : SO P n Z w0 ops l ρ rest := h.sat fun w hs => show stars (_ :: rest) (hp w) from ⟨fun _ => none, hp w, fun _ => .inl rfl, fun _ _ e => by simp at e, .refl _, LensR.nil E _, hs⟩
theorem S.nilLens (E : TypeId) (h : S P f n R w0 k ρ (LensR E (.slice none 0 0) [] :: rest)) : S P f n R w0 k ρ rest := h.sat fun w hs => show stars (_ :: rest) (hp w) from ⟨fun _ => none, hp w, fun _ => .inl rfl, fun _ _ e => by simp at e, .refl _, LensR.nil E _, hs⟩
theorem SO.lenLens {d t0 e t : Nat} {x : Operand} {tys : Array TypeId} {p : String} {af : Array Edge} (hd : Nat.blt d n = true) (ht0 : tys[0]? = some t0) (ht : P.underlying t0 = some (.slice e)) (hx : ev ρ x = some v) (h : SO P n Z w0 ops l ((d, .int .i64 (ns.length : Int)) :: ρ) (LensR E v ns :: rest)) :
    SO P n Z w0 ops (⟨some d, .call ⟨.builtin .len, #[x], tys⟩, t, p, af, none⟩ :: l) ρ (LensR E v ns :: rest) := by
  refine SO.openLens fun xs e1 e2 => ?_
  refine SO.rd fun hr => ?_
  refine SO.v hd (opv_lenR ht0 ht hr hx) ?_
  rw [e1]
  exact SO.closeLens e1 e2 h
theorem SO.lensFact (h : lenS v ns.length → SO P n Z w0 ops l ρ (LensR E v ns :: rest)) : SO P n Z w0 ops l ρ (LensR E v ns :: rest) := by
  refine SO.openLens fun xs e1 e2 => ?_
  refine SO.rd fun hr => ?_
  have := lenS.of_rd hr
  rw [e1] at this
  exact SO.closeLens e1 e2 (h this)
theorem opv_lenS {q t0 e : Nat} {x : Operand} {tys : Array TypeId} {v : Value} (hl : lenS v q) (ht0 : tys[0]? = some t0) (ht : P.underlying t0 = some (.slice e)) (hx : ev ρ x = some v) : OpV P ρ (.call ⟨.builtin .len, #[x], tys⟩) (.int .i64 (q : Int)) := by
  obtain ⟨a, cap, rfl, _⟩ := hl
  exact opv_len ht0 ht hx
theorem SO.veq {d t : Nat} {o : Op} {p : String} {af : Array Edge} {v v' : Value} (hd : Nat.blt d n = true) (ho : OpV P ρ o v) (e : v = v') (h : SO P n Z w0 ops l ((d, v') :: ρ) rest) :
    SO P n Z w0 ops (⟨some d, o, t, p, af, none⟩ :: l) ρ rest := by
  subst e; exact SO.v hd ho h
end
theorem fillV {u : Value} (h : u.oneCell' = true) : Instr.fill (fun i => some (i * ekS.sz, ekS.sz)) ((Array.range (1 * ekS.sz)).map ((Value.slice none 0 0).cells[· % (Value.slice none 0 0).cells.size]!)) [(0, u)] = some [u].toArray := by
  cases u <;> first | (simp [Value.oneCell'] at h; done) | kernel_rfl
theorem lens_app {xs : List SV} {ns zs : List Nat} {y : SV} {q : Nat} (e1 : xs.length = ns.length) (e2 : ∀ (i : Nat) (x : SV) (n : Nat), xs[i]? = some x → ns[i]? = some n → lenS x.1 n) (hy : lenS y.1 q) (h : app ns [q] = some zs) :
    app xs [y] = some (xs ++ [y]) ∧ (xs ++ [y]).length = zs.length ∧ ∀ (i : Nat) (x : SV) (n : Nat), (xs ++ [y])[i]? = some x → zs[i]? = some n → lenS x.1 n := by
  obtain ⟨h1, rfl⟩ := app_spec h
  refine ⟨?_, by simp [e1], fun i x n hx hn => ?_⟩
  · unfold app; rw [decide_eq_true (by simp at h1 ⊢; omega)]; rfl
  · by_cases c : i < xs.length
    · rw [List.getElem?_append_left c] at hx
      rw [List.getElem?_append_left (by omega)] at hn
      exact e2 i x n hx hn
    · have hi : i = xs.length := by
        have := (List.getElem?_eq_some_iff.1 hx).1
        simp at this; omega
      subst hi
      simp at hx
      rw [e1] at hn
      simp at hn
      subst hx; subst hn; exact hy
theorem lens_at {xs : List SV} {ns : List Nat} {i : Int} {q : Nat} (e1 : xs.length = ns.length) (e2 : ∀ (i : Nat) (x : SV) (n : Nat), xs[i]? = some x → ns[i]? = some n → lenS x.1 n) (h : at_ ns i = some q) : ∃ y : SV, at_ xs i = some y ∧ lenS y.1 q := by
  obtain ⟨h0, h1, h2⟩ := at_spec h
  have hx : xs[i.toNat]? = some (xs[i.toNat]'(by omega)) := List.getElem?_eq_getElem (by omega)
  exact ⟨_, at_of h0 hx, e2 _ _ _ hx h2⟩
theorem lens_rep (q : Nat) : (List.replicate q (⟨.slice none 0 0, rfl⟩ : SV)).length = (List.replicate q 0).length ∧ ∀ (i : Nat) (x : SV) (n : Nat), (List.replicate q (⟨.slice none 0 0, rfl⟩ : SV))[i]? = some x → (List.replicate q 0)[i]? = some n → lenS x.1 n := by
  refine ⟨by simp, fun i x n hx hn => ?_⟩
  rw [List.getElem?_replicate] at hx hn
  split at hx
  · rename_i c
    rw [if_pos c] at hn
    injection hx with hx; injection hn with hn
    subst hx; subst hn; exact lenS.nil
  · cases hx
end Go.Sl
/-! Appends of rows that are as long as any that may come in. -/
set_option linter.unusedVariables false
namespace Go.Sl
open Go.RowKit
/-- A copy of a row of 8-byte elements: of at most 2^47 bytes. -/
def appW {α : Type} (ys : List α) : Option (List α) := bif decide (ys.length ≤ 17592186044416) then some ys else none
theorem appW_spec {α : Type} {ys zs : List α} (h : appW ys = some zs) : ys.length ≤ 17592186044416 ∧ zs = ys := by
  unfold appW at h
  cases hd : decide (ys.length ≤ 17592186044416) with
  | false => rw [hd] at h; cases h
  | true => rw [hd] at h; exact ⟨of_decide_eq_true hd, (Option.some.inj h).symm⟩
section
variable {P : Program} {f : FuncId} {n : Nat} {Z : Act → World → Prop} {R : Ending → World → Prop} {w0 : Beg} {k : List Item} {ρ ρ' : Env} {H H' pre rest : List HProp} {ops : Array Oper} {l : List Oper}
variable {α : Type} {K : EK α} {v : Value} {xs : List α}
/-- An append to a slice of one's own, of another slice's elements. -/
theorem SO.appendB {ys : List α} {d t t2 e2 ty e : Nat} {x y : Operand} {p : String} {af : Array Edge} {i : TypeInfo} {z : Value} {bytes : Nat} {u : Value} {zs : List α} (hd : Nat.blt d n = true) (ht : P.underlying t = some (.slice e)) (ht2 : P.underlying t2 = some (.slice e2)) (hi : P.info? e = some i) (hz : i.zero = some z) (hsize : i.size = K.sz) (hby : i.bytes = bytes) (hzs : z.cells.size = K.sz)
    (hx : ev ρ x = some v) (hy : ev ρ y = some u) (hR : Rd K u ys (stars rest)) (hlen : xs.length + ys.length ≤ maxLen) (hbb : (xs.length + ys.length) * bytes ≤ 140737488355328) (ha : zs = xs ++ ys)
    (h : ∀ v', SO P n Z w0 ops l ((d, v') :: ρ) (Own e K v' zs :: rest)) : SO P n Z w0 ops (⟨some d, .call ⟨.builtin .append, #[x, y], #[t, t2]⟩, ty, p, af, none⟩ :: l) ρ (Own e K v xs :: rest) := by
  subst ha
  refine .raw hd fun r w hr hs => ?_
  obtain ⟨m, hm, hown⟩ := hs.head
  have hrow := hown.row hm
  obtain ⟨ua, ucap, ⟨rfl, _⟩, hR⟩ := hR
  have hrun : ∀ v' w', (Builtin.append_ #[t, t] ty #[v, .slice ua ys.length ucap]).run P w = .ok v' w' → (execOp r ⟨some d, .call ⟨.builtin .append, #[x, y], #[t, t2]⟩, ty, p, af, none⟩).run P w = .ok (.value v') w' := by
    intro v' w' h
    simp [execOp, resolve, Go.invoke, Go.builtin, hr x _ hx, hr y _ hy, append_ty ht ht2 hi, h]
  have key : ∃ v' w', (Builtin.append_ #[t, t] ty #[v, .slice ua ys.length ucap]).run P w = .ok v' w' ∧ w'.ownsRow 0 e K.sz v' (xs ++ ys).length (K.flat (xs ++ ys)) ∧ w.grownBy w' v.ownBlock ∧ ∀ g, v'.ownBlock = some g → v.ownBlock = some g ∨ w.heap.size ≤ g := by
    by_cases hy0 : ys = []
    · subst hy0
      cases ua with
      | none =>
        refine ⟨v, w, ?_, by simpa using hrow, ⟨rfl, rfl, rfl, Nat.le_refl _, fun _ _ _ => rfl⟩, fun _ h => .inl h⟩
        rcases hrow.2 with ⟨rfl, h0⟩ | ⟨g, cap, cur, rfl, _, _, hnc, _⟩
        · simp [Builtin.append_, run_underlying ht, sizeOf, typeInfo, hi, Builtin.lenOf, Builtin.firstCells, h0]
        · simp [Builtin.append_, run_underlying ht, sizeOf, typeInfo, hi, Builtin.lenOf, Builtin.firstCells, hnc, storeCells]
      | some a =>
        obtain ⟨v', w', h1, h2, h3, h4⟩ := append_block (P := P) w t ty e i z K.sz bytes ht hi hz hsize hby hzs K.pos v xs.length (K.flat xs) hrow a 0 ucap [] (by simp) (by simp) (by simp) (by simpa using hlen) (by simpa using hbb)
        exact ⟨v', w', h1, by simpa using h2, h3, h4⟩
    · obtain ⟨y0, hy1⟩ : ∃ y0, ys[0]? = some y0 := by cases ys with | nil => exact absurd rfl hy0 | cons a l => exact ⟨a, rfl⟩
      obtain ⟨b, off, rfl, _⟩ := hR 0 y0 hy1
      have hnews : ∀ j q, (K.flat ys)[j]? = some q → w.cell? ((⟨b, off, none⟩ : Addr).add j) = some q := by
        intro j q hj
        have hjl : j < ys.length * K.sz := by
          rcases Nat.lt_or_ge j (ys.length * K.sz) with h | h
          · exact h
          · rw [List.getElem?_eq_none (by rw [EK.length_flat]; exact h)] at hj; cases hj
        have hdm : j = (j / K.sz) * K.sz + j % K.sz := by rw [Nat.mul_comm]; exact (Nat.div_add_mod j K.sz).symm
        have hmod : j % K.sz < K.sz := Nat.mod_lt _ K.pos
        have hdl : j / K.sz < ys.length := Nat.div_lt_of_lt_mul (by rw [Nat.mul_comm]; exact hjl)
        obtain ⟨b', off', e1, hR1⟩ := hR (j / K.sz) ys[j / K.sz] (List.getElem?_eq_getElem hdl)
        injection e1 with e1; injection e1 with e1 e2 _; subst e1; subst e2
        obtain ⟨m1, m2, dj, s1, s2, _, hrest⟩ := hs
        obtain ⟨all, E, fr, hb, hc⟩ := hR1 _ hrest
        have hc1 := hc (j % K.sz) hmod
        rw [← EK.flat_get K ys _ _ _ (List.getElem?_eq_getElem hdl) hmod, ← hdm, hj] at hc1
        have hbw : w.heap[b]? = some (.cells all E fr) := s2 _ _ hb
        have : (⟨b, off, none⟩ : Addr).add j = ⟨b, off + j, none⟩ := by
          unfold Addr.add; split
          · rename_i h; simp [h]
          · rfl
        rw [this, cell_of_blk hbw, hc1]
      obtain ⟨v', w', h1, h2, h3, h4⟩ := append_block (P := P) w t ty e i z K.sz bytes ht hi hz hsize hby hzs K.pos v xs.length (K.flat xs) hrow ⟨b, off, none⟩ ys.length ucap (K.flat ys) (K.length_flat ys) hnews K.flat_one hlen hbb
      exact ⟨v', w', h1, by rw [K.flat_append, List.length_append]; exact h2, h3, h4⟩
  obtain ⟨v', w', hr1, hrow', hg, hblk⟩ := key
  refine ⟨v', w', ρ, Own e K v' (xs ++ ys) :: rest, hrun _ _ hr1, ?_, ⟨hg.os, hg.tape, hg.output, hg.size⟩, h v', fun _ h => h⟩
  refine hs.update fun m1 hm1 hsub hbig => ⟨_, Own.of_row hrow', fun b o e1 => ?_, fun b hb hlt => ?_, fun b hlt hb => ?_⟩
  · have e' : (if some b = v'.ownBlock then w'.heap[b]? else none) = some o := e1
    split at e'
    · exact e'
    · cases e'
  · show (if some b = v'.ownBlock then w'.heap[b]? else none) = none
    split
    · rename_i hb'
      exfalso
      rcases hblk b hb'.symm with h9 | h9
      · rcases hm1 with ⟨rfl, _⟩ | ⟨g, cap, cur, rfl, hgm, _⟩
        · simp [Value.ownBlock] at h9
        · simp only [Value.ownBlock, Option.some.injEq] at h9; subst h9; simp [hgm] at hb
      · omega
    · rfl
  · refine hg.block b hlt fun e1 => ?_
    rcases hm1 with ⟨rfl, _⟩ | ⟨g, cap, cur, rfl, hgm, _⟩
    · simp [Value.ownBlock] at e1
    · simp only [Value.ownBlock, Option.some.injEq] at e1; subst e1; simp [hgm] at hb
theorem SO.appendW {ys : List α} {d t t2 e2 ty e : Nat} {x y : Operand} {p : String} {af : Array Edge} {i : TypeInfo} {z : Value} {u : Value} {zs : List α} (hd : Nat.blt d n = true) (ht : P.underlying t = some (.slice e)) (ht2 : P.underlying t2 = some (.slice e2)) (hi : P.info? e = some i) (hz : i.zero = some z) (hsize : i.size = K.sz) (hby : i.bytes = 8) (hzs : z.cells.size = K.sz)
    (hx : ev ρ x = some v) (hy : ev ρ y = some u) (hR : Rd K u ys (stars rest)) (ha : appW ys = some zs)
    (h : ∀ v', SO P n Z w0 ops l ((d, v') :: ρ) (Own e K v' zs :: rest)) : SO P n Z w0 ops (⟨some d, .call ⟨.builtin .append, #[x, y], #[t, t2]⟩, ty, p, af, none⟩ :: l) ρ (Own e K v ([] : List α) :: rest) := by
  obtain ⟨h1, rfl⟩ := appW_spec ha
  exact SO.appendB (xs := []) hd ht ht2 hi hz hsize hby hzs hx hy hR (by simp only [maxLen, List.length_nil]; omega) (by simp only [List.length_nil]; omega) rfl h
end
end Go.Sl
