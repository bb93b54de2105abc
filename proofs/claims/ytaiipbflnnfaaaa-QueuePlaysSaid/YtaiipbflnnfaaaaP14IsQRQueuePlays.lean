/- Plain laws of what QueuePlays reaches, part P14IsQR. On no condition. -/
import Derived.Test.YtaiipbflnnfaaaaP14IsQQueuePlays
import Derived.Test.YtaiipbflnnfaaaaP14RemoveQueuePlays
set_option linter.all false
/-! One is removed: the queue then. -/
set_option linter.unusedVariables false
namespace Go.Proofs
open Go.Sl
theorem layQ_fld : ∀ (l : List Int) (s : List Int), Good s → l.Nodup → (∀ x ∈ l, 0 ≤ x ∧ x < 32) → Lnk (fun t => fld (layQ s l) t 2) l ∧ ∀ i f, ¬ (i ∈ l ∧ f = 2) → fld (layQ s l) i f = fld s i f
  | [], s, g, _, _ => ⟨trivial, fun _ _ _ => rfl⟩
  | [t], s, g, _, hr => by
    have ht := hr t List.mem_cons_self
    have it : InObj t 2 := ⟨ht.1, ht.2, by omega, by omega⟩
    refine ⟨?_, fun i f h => ?_⟩
    · show fld (put s t 2 0) t 2 = 0
      rw [fld_put g t 2 0 t 2 (by omega), if_pos ⟨rfl, rfl, it, by omega⟩]
    · show fld (put s t 2 0) i f = _
      rw [fld_put g t 2 0 i f (by omega), if_neg]
      rintro ⟨rfl, rfl, _⟩; exact h ⟨List.mem_cons_self, rfl⟩
  | t :: u :: l, s, g, hn, hr => by
    have ht := hr t List.mem_cons_self
    have hu := hr u (by simp)
    have it : InObj t 2 := ⟨ht.1, ht.2, by omega, by omega⟩
    have g1 := good_put g t 2 (u + 1)
    have hn' := List.nodup_cons.1 hn
    obtain ⟨h1, h2⟩ := layQ_fld (u :: l) (put s t 2 (u + 1)) g1 hn'.2 (fun x hx => hr x (List.mem_cons_of_mem _ hx))
    refine ⟨⟨?_, h1⟩, fun i f h => ?_⟩
    · show fld (layQ (put s t 2 (u + 1)) (u :: l)) t 2 = u + 1
      rw [h2 t 2 (fun q => hn'.1 q.1), fld_put g t 2 (u + 1) t 2 (by omega), if_pos ⟨rfl, rfl, it, by omega⟩]
    · show fld (layQ (put s t 2 (u + 1)) (u :: l)) i f = _
      rw [h2 i f (fun q => h ⟨List.mem_cons_of_mem _ q.1, q.2⟩), fld_put g t 2 (u + 1) i f (by omega), if_neg]
      rintro ⟨rfl, rfl, _⟩; exact h ⟨List.mem_cons_self, rfl⟩
theorem la_rg {l : List Int} (hr : ∀ x ∈ l, 0 ≤ x ∧ x < 32) : 0 ≤ la l ∧ la l ≤ 32 := by
  unfold la
  cases hz : l.getLast? with
  | none => exact ⟨Int.le_refl _, by decide⟩
  | some z => have := hr z (List.mem_of_getLast? hz); show 0 ≤ z + 1 ∧ z + 1 ≤ 32; omega
theorem hd_rg {l : List Int} (hr : ∀ x ∈ l, 0 ≤ x ∧ x < 32) : 0 ≤ hd l ∧ hd l ≤ 32 := by
  cases l with
  | nil => exact ⟨Int.le_refl _, by decide⟩
  | cons t l => have := hr t List.mem_cons_self; show 0 ≤ t + 1 ∧ t + 1 ≤ 32; omega
theorem qput_eq (s : List Int) (o : Int) (l : List Int) : qput s o l = put (put (layQ s l) o 2 (hd l)) o 3 (la l) := by
  cases l with
  | nil => rfl
  | cons t r =>
    have : la (t :: r) = (t :: r).getLast (by simp) + 1 := by unfold la; rw [List.getLast?_eq_some_getLast (by simp)]
    rw [this]; rfl
theorem fld_qput {s : List Int} (g : Good s) {o : Int} {l : List Int} (ho : 0 ≤ o ∧ o < 32) (hn : l.Nodup) (hr : ∀ x ∈ l, 0 ≤ x ∧ x < 32) (i f : Int) : fld (qput s o l) i f = if i = o ∧ f = 3 then la l else if i = o ∧ f = 2 then hd l else fld (layQ s l) i f := by
  have h1 := la_rg hr
  have h2 := hd_rg hr
  have g1 := good_layQ (l := l) g
  have i2 : InObj o 2 := ⟨ho.1, ho.2, by omega, by omega⟩
  have i3 : InObj o 3 := ⟨ho.1, ho.2, by omega, by omega⟩
  rw [qput_eq, fld_put (good_put g1 _ _ _) o 3 (la l) i f (by omega), fld_put g1 o 2 (hd l) i f (by omega)]
  simp only [i2, i3, h1.1, h2.1, true_and, and_true, eq_comm (a := o) (b := i), eq_comm (a := (3 : Int)) (b := f), eq_comm (a := (2 : Int)) (b := f)]
/-- The fields behind a removal. -/
theorem fld_removeTo {s : List Int} (g : Good s) {o t : Int} {l : List Int} (h : IsQ s o l) (ho : 0 ≤ o ∧ o < 32) (hr : ∀ x ∈ l, 0 ≤ x ∧ x < 32) (hl : l.length ≤ 32) (hn : l.Nodup) (ht : t ∈ l) (hol : o ∉ l) :
    (∀ i f, ¬ (i ∈ l ∧ f = 2) → fld (removeTo s o t) i f = if i = o ∧ f = 3 then la (l.erase t) else if i = o ∧ f = 2 then hd (l.erase t) else fld s i f) ∧ fld (removeTo s o t) t 2 = 0 ∧ IsQ (removeTo s o t) o (l.erase t) := by
  have htr := hr t ht
  have it : InObj t 2 := ⟨htr.1, htr.2, by omega, by omega⟩
  have hto : t ≠ o := fun e => hol (e ▸ ht)
  have hrem : removeTo s o t = put (qput s o (l.erase t)) t 2 0 := by
    unfold removeTo
    rw [h.list hr hl, List.erase_eq_eraseIdx_of_idxOf rfl]
  have hn' : (l.erase t).Nodup := hn.erase t
  have hr' : ∀ x ∈ l.erase t, 0 ≤ x ∧ x < 32 := fun x hx => hr x (List.mem_of_mem_erase hx)
  have hte : t ∉ l.erase t := fun q => by
    rw [List.Nodup.mem_erase_iff hn] at q; exact q.1 rfl
  obtain ⟨lk, lf⟩ := layQ_fld (l.erase t) s g hn' hr'
  have F := fld_qput g ho hn' hr'
  have gq := good_qput g o (l.erase t)
  have P : ∀ i f, fld (removeTo s o t) i f = if t = i ∧ 2 = f then 0 else fld (qput s o (l.erase t)) i f := fun i f => by
    rw [hrem, fld_put gq t 2 0 i f (by omega)]
    simp only [it, Int.le_refl, and_true]
  refine ⟨fun i f hif => ?_, ?_, ⟨?_, ?_, ?_⟩⟩
  · rw [P, if_neg (by rintro ⟨rfl, rfl⟩; exact hif ⟨ht, rfl⟩), F]
    by_cases e1 : i = o ∧ f = 3
    · rw [if_pos e1, if_pos e1]
    · rw [if_neg e1, if_neg e1]
      by_cases e2 : i = o ∧ f = 2
      · rw [if_pos e2, if_pos e2]
      · rw [if_neg e2, if_neg e2, lf i f (fun q => hif ⟨List.mem_of_mem_erase q.1, q.2⟩)]
  · rw [P, if_pos ⟨rfl, rfl⟩]
  · rw [P, if_neg (fun q => hto q.1), F, if_neg (by omega), if_pos ⟨rfl, rfl⟩]
  · rw [P, if_neg (by omega), F, if_pos ⟨rfl, rfl⟩]
  · refine lk.congr fun x hx => ?_
    show fld (removeTo s o t) x 2 = _
    rw [P, if_neg (by rintro ⟨rfl, _⟩; exact hte hx), F, if_neg (by omega), if_neg]
    rintro ⟨rfl, _⟩; exact hol (List.mem_of_mem_erase hx)
end Go.Proofs
