/- Plain laws of what IrqPlays reaches, part P19IsQ. On no condition. -/
import Derived.Test.YtehlmdihimmanaaP19QueueIrqPlays
set_option linter.all false
/-! What lies in a queue. -/
set_option linter.unusedVariables false
namespace Go.Proofs
open Go.Sl
def Lnk (F : Int → Int) : List Int → Prop
  | [] => True
  | [t] => F t = 0
  | t :: u :: l => F t = u + 1 ∧ Lnk F (u :: l)
theorem Lnk.congr {F F' : Int → Int} : ∀ {l : List Int}, (∀ x ∈ l, F' x = F x) → Lnk F l → Lnk F' l
  | [], _, _ => trivial
  | [t], h, k => by show F' t = 0; rw [h t List.mem_cons_self]; exact k
  | t :: u :: l, h, k => ⟨by rw [h t List.mem_cons_self]; exact k.1, Lnk.congr (fun x hx => h x (List.mem_cons_of_mem _ hx)) k.2⟩
theorem Lnk.tail {F : Int → Int} : ∀ {t : Int} {l : List Int}, Lnk F (t :: l) → Lnk F l
  | _, [], _ => trivial
  | _, _ :: _, h => h.2
theorem Lnk.head {F : Int → Int} {t : Int} {l : List Int} (h : Lnk F (t :: l)) : F t = match l with | [] => 0 | u :: _ => u + 1 := by
  cases l with
  | nil => exact h
  | cons u l => exact h.1
theorem Lnk.head' {F : Int → Int} {t : Int} {l : List Int} (h : Lnk F (t :: l)) : F t = hd l := by
  rw [h.head]; cases l <;> rfl
theorem Lnk.snoc {F F' : Int → Int} {t : Int} : ∀ {l : List Int} {z : Int}, l.getLast? = some z → (l ++ [t]).Nodup → Lnk F l → (∀ x ∈ l, x ≠ z → F' x = F x) → F' z = t + 1 → F' t = 0 → Lnk F' (l ++ [t])
  | [], _, h, _, _, _, _, _ => by simp at h
  | [x], z, h, _, _, _, h1, h2 => by
    simp at h; subst h
    exact ⟨h1, h2⟩
  | x :: u :: l, z, h, hn, hk, hF, h1, h2 => by
    have h' : (u :: l).getLast? = some z := by simpa [List.getLast?_cons_cons] using h
    have hz : z ∈ u :: l := List.mem_of_getLast? h'
    have hx : x ≠ z := by
      intro e; subst e
      have := (List.nodup_cons.1 (show (x :: ((u :: l) ++ [t])).Nodup from hn)).1
      exact this (List.mem_append_left _ hz)
    refine ⟨by rw [hF x List.mem_cons_self hx]; exact hk.1, ?_⟩
    exact Lnk.snoc (l := u :: l) h' (List.nodup_cons.1 (show (x :: ((u :: l) ++ [t])).Nodup from hn)).2 hk.2 (fun y hy => hF y (List.mem_cons_of_mem _ hy)) h1 h2
/-- An object's queue. -/
structure IsQ (s : List Int) (o : Int) (l : List Int) : Prop where
  first : fld s o 2 = hd l
  last : fld s o 3 = la l
  lnk : Lnk (fun t => fld s t 2) l
theorem chain_of {s : List Int} : ∀ (n : Nat) (l : List Int), l.length ≤ n → (∀ x ∈ l, 0 ≤ x ∧ x < 32) → Lnk (fun t => fld s t 2) l → chain s n l.head? = l
  | 0, [], _, _, _ => rfl
  | 0, _ :: _, h, _, _ => by simp at h
  | n + 1, [], _, _, _ => rfl
  | n + 1, t :: l, h, hr, hk => by
    have e : nxt s t = l.head? := by
      have := hk.head
      unfold nxt
      cases l with
      | nil => simp only at this; rw [this]; rfl
      | cons u l =>
        simp only at this
        have := hr u (by simp)
        rw [if_pos (by omega)]
        simp only [List.head?_cons]; congr 1; omega
    simp only [List.head?_cons, chain, e]
    rw [chain_of n l (by simpa using h) (fun x hx => hr x (List.mem_cons_of_mem _ hx)) hk.tail]
theorem IsQ.nxt {s : List Int} {o : Int} {l : List Int} (h : IsQ s o l) (hr : ∀ x ∈ l, 0 ≤ x ∧ x < 32) : nxt s o = l.head? := by
  unfold Go.Proofs.nxt
  rw [h.first]
  cases l with
  | nil => rfl
  | cons t l =>
    have := hr t List.mem_cons_self
    show (if 1 ≤ t + 1 ∧ t + 1 ≤ 32 then some (t + 1 - 1) else none) = some t
    rw [if_pos (by omega)]; congr 1; omega
theorem IsQ.list {s : List Int} {o : Int} {l : List Int} (h : IsQ s o l) (hr : ∀ x ∈ l, 0 ≤ x ∧ x < 32) (hl : l.length ≤ 32) : qlist s o = l := by
  unfold qlist
  rw [h.nxt hr]
  exact chain_of 32 l hl hr h.lnk
theorem IsQ.congr {s s' : List Int} {o : Int} {l : List Int} (h : IsQ s o l) (h2 : fld s' o 2 = fld s o 2) (h3 : fld s' o 3 = fld s o 3) (hl : ∀ x ∈ l, fld s' x 2 = fld s x 2) : IsQ s' o l :=
  ⟨h2.trans h.first, h3.trans h.last, h.lnk.congr hl⟩
/-- Put elsewhere. -/
theorem IsQ.put {s : List Int} (g : Good s) {o : Int} {l : List Int} (h : IsQ s o l) {i f n : Int} (hn : n ≤ 4611686018427387904) (h1 : ¬ (i = o ∧ (f = 2 ∨ f = 3))) (h2 : ¬ (i ∈ l ∧ f = 2)) : IsQ (put s i f n) o l := by
  refine h.congr ?_ ?_ fun x hx => ?_
  · rw [fld_put g i f n o 2 hn, if_neg (by rintro ⟨rfl, rfl, _⟩; exact h1 ⟨rfl, .inl rfl⟩)]
  · rw [fld_put g i f n o 3 hn, if_neg (by rintro ⟨rfl, rfl, _⟩; exact h1 ⟨rfl, .inr rfl⟩)]
  · rw [fld_put g i f n x 2 hn, if_neg (by rintro ⟨rfl, rfl, _⟩; exact h2 ⟨hx, rfl⟩)]
theorem la_snoc (l : List Int) (t : Int) : la (l ++ [t]) = t + 1 := by simp [la]
theorem hd_snoc (l : List Int) (t : Int) (h : l ≠ []) : hd (l ++ [t]) = hd l := by cases l with | nil => exact absurd rfl h | cons a l => rfl
/-- The fields behind a push. -/
theorem fld_pushTo {s : List Int} (g : Good s) {o t : Int} {l : List Int} (h : IsQ s o l) (ho : 0 ≤ o ∧ o < 32) (ht : 0 ≤ t ∧ t < 32) (hr : ∀ x ∈ l, 0 ≤ x ∧ x < 32) (i f : Int) :
    fld (pushTo s o t) i f = if i = o ∧ f = 3 then t + 1 else if l = [] ∧ i = o ∧ f = 2 then t + 1 else if l.getLast? = some i ∧ f = 2 then t + 1 else if i = t ∧ f = 2 then 0 else fld s i f := by
  have g1 := good_put g t 2 0
  have i1 : InObj t 2 := ⟨ht.1, ht.2, by omega, by omega⟩
  have i2 : InObj o 2 := ⟨ho.1, ho.2, by omega, by omega⟩
  have i3 : InObj o 3 := ⟨ho.1, ho.2, by omega, by omega⟩
  have hla : fld (put s t 2 0) o 3 = la l := by
    rw [fld_put g t 2 0 o 3 (by omega), if_neg (by omega)]; exact h.last
  unfold pushTo
  rw [hla]
  cases hz : l.getLast? with
  | none =>
    have hl : l = [] := List.getLast?_eq_none_iff.1 hz
    have : la l = 0 := by unfold la; rw [hz]
    rw [this, if_neg (by omega)]
    rw [fld_put (good_put g1 _ _ _) o 3 (t + 1) i f (by omega), fld_put g1 o 2 (t + 1) i f (by omega), fld_put g t 2 0 i f (by omega)]
    simp only [i1, i2, i3, (by omega : 0 ≤ t + 1), true_and, and_true, hl, reduceCtorEq, false_and, if_false, Int.le_refl]
    simp only [eq_comm (a := o) (b := i), eq_comm (a := t) (b := i), eq_comm (a := (3 : Int)) (b := f), eq_comm (a := (2 : Int)) (b := f)]
  | some z =>
    have hl : l ≠ [] := by intro e; subst e; simp at hz
    have hzr := hr z (List.mem_of_getLast? hz)
    have iz : InObj z 2 := ⟨hzr.1, hzr.2, by omega, by omega⟩
    have : la l = z + 1 := by unfold la; rw [hz]
    rw [this, if_pos (by omega), show z + 1 - 1 = z by omega]
    rw [fld_put (good_put g1 _ _ _) o 3 (t + 1) i f (by omega), fld_put g1 z 2 (t + 1) i f (by omega), fld_put g t 2 0 i f (by omega)]
    simp only [i1, i3, iz, (by omega : 0 ≤ t + 1), true_and, and_true, hl, Option.some.injEq, false_and, if_false, Int.le_refl]
    simp only [eq_comm (a := o) (b := i), eq_comm (a := t) (b := i), eq_comm (a := z) (b := i), eq_comm (a := (3 : Int)) (b := f), eq_comm (a := (2 : Int)) (b := f)]
theorem IsQ.push {s : List Int} (g : Good s) {o t : Int} {l : List Int} (h : IsQ s o l) (ho : 0 ≤ o ∧ o < 32) (ht : 0 ≤ t ∧ t < 32) (hr : ∀ x ∈ l, 0 ≤ x ∧ x < 32) (hol : o ∉ l) (hto : t ≠ o) (hn : (l ++ [t]).Nodup) : IsQ (pushTo s o t) o (l ++ [t]) := by
  have F := fld_pushTo g h ho ht hr
  have htl : t ∉ l := by
    intro q
    have := List.nodup_append.1 hn
    exact this.2.2 t q t (by simp) rfl
  refine ⟨?_, ?_, ?_⟩
  · rw [F, if_neg (by omega)]
    cases l with
    | nil => rw [if_pos ⟨rfl, rfl, rfl⟩]; rfl
    | cons a l =>
      rw [if_neg (by simp), if_neg, if_neg (by omega), h.first]; rfl
      rintro ⟨q, _⟩; exact hol (List.mem_of_getLast? q)
  · rw [F, if_pos ⟨rfl, rfl⟩, la_snoc]
  · cases hz : l.getLast? with
    | none =>
      have hl : l = [] := List.getLast?_eq_none_iff.1 hz
      subst hl
      show fld (pushTo s o t) t 2 = 0
      rw [F, if_neg (by omega), if_neg (by rintro ⟨_, q, _⟩; exact hto q), if_neg (by simp), if_pos ⟨rfl, rfl⟩]
    | some z =>
      have hl : l ≠ [] := by intro e; subst e; simp at hz
      have hzl := List.mem_of_getLast? hz
      refine h.lnk.snoc hz hn (fun x hx hxz => ?_) ?_ ?_
      · show fld (pushTo s o t) x 2 = fld s x 2
        rw [F, if_neg (by omega), if_neg (fun q => hl q.1), if_neg (by rw [hz]; rintro ⟨q, _⟩; exact hxz (by injection q with q; exact q.symm)), if_neg (by rintro ⟨rfl, _⟩; exact htl hx)]
      · show fld (pushTo s o t) z 2 = t + 1
        rw [F, if_neg (by omega), if_neg (fun q => hl q.1), if_pos ⟨hz, rfl⟩]
      · show fld (pushTo s o t) t 2 = 0
        rw [F, if_neg (by omega), if_neg (fun q => hl q.1), if_neg (by rw [hz]; rintro ⟨q, _⟩; injection q with q; subst q; exact htl hzl), if_pos ⟨rfl, rfl⟩]
/-- The fields behind a pop. -/
theorem fld_popTo {s : List Int} (g : Good s) {o t : Int} {l : List Int} (h : IsQ s o (t :: l)) (ho : 0 ≤ o ∧ o < 32) (hr : ∀ x ∈ t :: l, 0 ≤ x ∧ x < 32) (hto : t ≠ o) (i f : Int) :
    fld (popTo s o t) i f = if i = o ∧ f = 2 then hd l else if l = [] ∧ i = o ∧ f = 3 then 0 else if i = t ∧ f = 2 then 0 else fld s i f := by
  have ht := hr t List.mem_cons_self
  have hft : fld s t 2 = hd l := h.lnk.head'
  have hhd : 0 ≤ hd l ∧ hd l ≤ 32 := by
    cases l with
    | nil => exact ⟨Int.le_refl _, by decide⟩
    | cons u l => have := hr u (by simp); show 0 ≤ u + 1 ∧ u + 1 ≤ 32; omega
  have g1 := good_put g o 2 (hd l)
  have i1 : InObj t 2 := ⟨ht.1, ht.2, by omega, by omega⟩
  have i2 : InObj o 2 := ⟨ho.1, ho.2, by omega, by omega⟩
  have i3 : InObj o 3 := ⟨ho.1, ho.2, by omega, by omega⟩
  have hn1 : fld (put s o 2 (hd l)) t 2 = hd l := by
    rw [fld_put g o 2 (hd l) t 2 (by omega), if_neg (by rintro ⟨q, _⟩; exact hto q.symm)]; exact hft
  unfold popTo
  simp only [hft]
  have hnx : nxt (put s o 2 (hd l)) t = l.head? := by
    unfold nxt; rw [hn1]
    cases l with
    | nil => rfl
    | cons u l =>
      have := hr u (by simp)
      show (if 1 ≤ u + 1 ∧ u + 1 ≤ 32 then some (u + 1 - 1) else none) = some u
      rw [if_pos (by omega)]; congr 1; omega
  rw [hnx]
  cases l with
  | nil =>
    rw [if_pos (show ([] : List Int).head? = none from rfl)]
    have g2 := good_put g1 o 2 0
    have g3 := good_put g2 o 3 0
    rw [fld_put g3 t 2 0 i f (by omega), fld_put g2 o 3 0 i f (by omega), fld_put g1 o 2 0 i f (by omega), fld_put g o 2 _ i f (by omega)]
    simp only [i1, i2, i3, Int.le_refl, true_and, and_true]
    show _ = if i = o ∧ f = 2 then 0 else if i = o ∧ f = 3 then 0 else if i = t ∧ f = 2 then 0 else fld s i f
    by_cases e1 : t = i ∧ 2 = f
    · rw [if_pos e1]; obtain ⟨rfl, rfl⟩ := e1; rw [if_neg (fun q => hto q.1), if_neg (by omega), if_pos ⟨rfl, rfl⟩]
    · rw [if_neg e1]
      by_cases e2 : o = i ∧ 3 = f
      · rw [if_pos e2]; obtain ⟨rfl, rfl⟩ := e2; rw [if_neg (by omega), if_pos ⟨rfl, rfl⟩]
      · rw [if_neg e2]
        by_cases e3 : o = i ∧ 2 = f
        · rw [if_pos e3]; obtain ⟨rfl, rfl⟩ := e3; rw [if_pos ⟨rfl, rfl⟩]
        · rw [if_neg e3, if_neg (show ¬ (o = i ∧ 2 = f ∧ 0 ≤ hd []) from fun q => e3 ⟨q.1, q.2.1⟩), if_neg (fun q => e3 ⟨q.1.symm, q.2.symm⟩), if_neg (fun q => e2 ⟨q.1.symm, q.2.symm⟩), if_neg (fun q => e1 ⟨q.1.symm, q.2.symm⟩)]
  | cons u l =>
    rw [if_neg (by simp), fld_put g1 t 2 0 i f (by omega), fld_put g o 2 _ i f (by omega)]
    simp only [i1, i2, Int.le_refl, true_and, and_true, reduceCtorEq, false_and, if_false]
    by_cases e1 : t = i ∧ 2 = f
    · rw [if_pos e1]; obtain ⟨rfl, rfl⟩ := e1; rw [if_neg (fun q => hto q.1), if_pos ⟨rfl, rfl⟩]
    · rw [if_neg e1, if_neg (fun q : i = t ∧ f = 2 => e1 ⟨q.1.symm, q.2.symm⟩)]
      by_cases e3 : o = i ∧ 2 = f
      · rw [if_pos ⟨e3.1, e3.2, hhd.1⟩, if_pos ⟨e3.1.symm, e3.2.symm⟩]
      · rw [if_neg (fun q => e3 ⟨q.1, q.2.1⟩), if_neg (fun q => e3 ⟨q.1.symm, q.2.symm⟩)]
theorem IsQ.pop {s : List Int} (g : Good s) {o t : Int} {l : List Int} (h : IsQ s o (t :: l)) (ho : 0 ≤ o ∧ o < 32) (hr : ∀ x ∈ t :: l, 0 ≤ x ∧ x < 32) (hol : o ∉ t :: l) (hn : (t :: l).Nodup) : IsQ (popTo s o t) o l := by
  have hto : t ≠ o := fun e => hol (by rw [e]; exact List.mem_cons_self)
  have F := fld_popTo g h ho hr hto
  refine ⟨?_, ?_, h.lnk.tail.congr fun x hx => ?_⟩
  · rw [F, if_pos ⟨rfl, rfl⟩]
  · rw [F, if_neg (by omega)]
    cases l with
    | nil => rw [if_pos ⟨rfl, rfl, rfl⟩]; rfl
    | cons u l => rw [if_neg (by simp), if_neg (by omega), h.last]; simp [la, List.getLast?_cons_cons]
  · show fld (popTo s o t) x 2 = fld s x 2
    rw [F, if_neg (by rintro ⟨rfl, _⟩; exact hol (List.mem_cons_of_mem _ hx)), if_neg (by omega), if_neg]
    rintro ⟨rfl, _⟩
    exact (List.nodup_cons.1 hn).1 hx
end Go.Proofs
