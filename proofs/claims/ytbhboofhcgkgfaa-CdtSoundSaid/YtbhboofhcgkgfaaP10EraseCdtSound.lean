/- Plain laws of what CdtSound reaches, part P10Erase. On no condition. -/
import Derived.Test.YtbhboofhcgkgfaaP10WFCdtSound
set_option linter.all false
/-! One less in a list: who follows, who comes before. -/
set_option linter.unusedVariables false
namespace Go.Proofs
open Go.Sl
theorem hd_pos {l : List Int} (h : ∀ x ∈ l, 0 ≤ x) {y : Int} (hy : 0 ≤ y) : hd l = y + 1 ↔ l.head? = some y := by
  cases l with
  | nil => exact ⟨fun z => by have : (0 : Int) = y + 1 := z; omega, fun z => by cases z⟩
  | cons b r => exact ⟨fun z => by have : b + 1 = y + 1 := z; show some b = some y; congr 1; omega, fun z => by have : b = y := Option.some.inj z; show b + 1 = y + 1; omega⟩
theorem nextOf_mem {y : Int} (hy : 0 ≤ y) : ∀ {l : List Int} {x : Int}, nextOf l x = y + 1 → y ∈ l
  | [], x, h => by have : (0 : Int) = y + 1 := h; omega
  | b :: r, x, h => by
    have h : (if x = b then hd r else nextOf r x) = y + 1 := h
    split at h
    · cases r with
      | nil => have : (0 : Int) = y + 1 := h; omega
      | cons c r => have : c + 1 = y + 1 := h; have : c = y := by omega
                    rw [this]; exact List.mem_cons_of_mem _ List.mem_cons_self
    · exact List.mem_cons_of_mem _ (nextOf_mem hy h)
theorem erase_hd {l : List Int} {k : Int} (hk : k ∈ l) (hn : l.Nodup) : hd (l.erase k) = if l.head? = some k then nextOf l k else hd l := by
  cases l with
  | nil => cases hk
  | cons b r =>
    by_cases e : b = k
    · subst e
      rw [List.head?_cons, if_pos rfl, List.erase_cons_head]
      show _ = if b = b then hd r else _
      rw [if_pos rfl]
    · rw [List.head?_cons, if_neg (fun z => e (Option.some.inj z)), List.erase_cons_tail (by simpa using e)]; rfl
theorem erase_next {k : Int} (k0 : 0 ≤ k) : ∀ {l : List Int} {x : Int}, (∀ y ∈ l, 0 ≤ y) → l.Nodup → k ∈ l → x ∈ l → x ≠ k → nextOf (l.erase k) x = if nextOf l x = k + 1 then nextOf l k else nextOf l x
  | [], _, _, _, h, _, _ => by cases h
  | b :: r, x, h0, hn, hk, hx, hxk => by
    have hn2 := List.nodup_cons.1 hn
    by_cases e : b = k
    · subst e
      have hxr : x ∈ r := by rcases List.mem_cons.1 hx with z | z; exact absurd z hxk; exact z
      rw [List.erase_cons_head]
      have e1 : nextOf (b :: r) x = nextOf r x := by show (if x = b then _ else _) = _; rw [if_neg hxk]
      rw [e1, if_neg (fun z => hn2.1 (nextOf_mem k0 z))]
    · have hkr : k ∈ r := by rcases List.mem_cons.1 hk with z | z; exact absurd z.symm e; exact z
      rw [List.erase_cons_tail (by simpa using e)]
      have e2 : nextOf (b :: r) k = nextOf r k := by show (if k = b then _ else _) = _; rw [if_neg (fun z => e z.symm)]
      rw [e2]
      by_cases ex : x = b
      · subst ex
        have e1 : nextOf (x :: r) x = hd r := by show (if x = x then _ else _) = _; rw [if_pos rfl]
        have e3 : nextOf (x :: r.erase k) x = hd (r.erase k) := by show (if x = x then _ else _) = _; rw [if_pos rfl]
        rw [e1, e3, erase_hd hkr hn2.2]
        have := hd_pos (fun y hy => h0 y (List.mem_cons_of_mem _ hy)) (l := r) k0
        by_cases c : r.head? = some k
        · rw [if_pos c, if_pos (this.2 c)]
        · rw [if_neg c, if_neg (fun z => c (this.1 z))]
      · have hxr : x ∈ r := by rcases List.mem_cons.1 hx with z | z; exact absurd z ex; exact z
        have e1 : nextOf (b :: r) x = nextOf r x := by show (if x = b then _ else _) = _; rw [if_neg ex]
        have e3 : nextOf (b :: r.erase k) x = nextOf (r.erase k) x := by show (if x = b then _ else _) = _; rw [if_neg ex]
        rw [e1, e3]
        exact erase_next k0 (fun y hy => h0 y (List.mem_cons_of_mem _ hy)) hn2.2 hkr hxr hxk
theorem prv_acc {l : List Int} {y a a' : Int} (hy : y ∈ l) (hh : l.head? ≠ some y) : prv a l y = prv a' l y := by
  cases l with
  | nil => cases hy
  | cons b r =>
    have : y ≠ b := fun z => hh (by rw [z]; rfl)
    show (if y = b then a else prv (b + 1) r y) = if y = b then a' else prv (b + 1) r y
    rw [if_neg this, if_neg this]
theorem erase_prv {k : Int} (k0 : 0 ≤ k) : ∀ {l : List Int} {y a : Int}, (∀ y ∈ l, 0 ≤ y) → l.Nodup → k ∈ l → y ∈ l → y ≠ k → prv a (l.erase k) y = if nextOf l k = y + 1 then prv a l k else prv a l y
  | [], _, _, _, _, h, _, _ => by cases h
  | b :: r, y, a, h0, hn, hk, hy, hyk => by
    have hn2 := List.nodup_cons.1 hn
    have h0r : ∀ y ∈ r, 0 ≤ y := fun y hy => h0 y (List.mem_cons_of_mem _ hy)
    have y0 := h0 y hy
    by_cases e : b = k
    · subst e
      have hyr : y ∈ r := by rcases List.mem_cons.1 hy with z | z; exact absurd z hyk; exact z
      rw [List.erase_cons_head]
      have e1 : nextOf (b :: r) b = hd r := by show (if b = b then _ else _) = _; rw [if_pos rfl]
      have e2 : prv a (b :: r) b = a := by show (if b = b then _ else _) = _; rw [if_pos rfl]
      have e3 : prv a (b :: r) y = prv (b + 1) r y := by show (if y = b then _ else _) = _; rw [if_neg hyk]
      rw [e1, e2, e3]
      have hp := hd_pos h0r y0
      by_cases c : r.head? = some y
      · rw [if_pos (hp.2 c)]
        cases r with
        | nil => cases c
        | cons d r =>
          have : d = y := Option.some.inj c
          show (if y = d then a else _) = a
          rw [if_pos this.symm]
      · rw [if_neg (fun z => c (hp.1 z))]
        exact prv_acc hyr c
    · have hkr : k ∈ r := by rcases List.mem_cons.1 hk with z | z; exact absurd z.symm e; exact z
      rw [List.erase_cons_tail (by simpa using e)]
      have e2 : nextOf (b :: r) k = nextOf r k := by show (if k = b then _ else _) = _; rw [if_neg (fun z => e z.symm)]
      have e4 : prv a (b :: r) k = prv (b + 1) r k := by show (if k = b then _ else _) = _; rw [if_neg (fun z => e z.symm)]
      rw [e2, e4]
      by_cases ey : y = b
      · subst ey
        have e1 : prv a (y :: r.erase k) y = a := by show (if y = y then _ else _) = _; rw [if_pos rfl]
        have e3 : prv a (y :: r) y = a := by show (if y = y then _ else _) = _; rw [if_pos rfl]
        rw [e1, e3, if_neg (fun z => hn2.1 (nextOf_mem y0 z))]
      · have hyr : y ∈ r := by rcases List.mem_cons.1 hy with z | z; exact absurd z ey; exact z
        have e1 : prv a (b :: r.erase k) y = prv (b + 1) (r.erase k) y := by show (if y = b then _ else _) = _; rw [if_neg ey]
        have e3 : prv a (b :: r) y = prv (b + 1) r y := by show (if y = b then _ else _) = _; rw [if_neg ey]
        rw [e1, e3]
        exact erase_prv k0 h0r hn2.2 hkr hyr hyk
end Go.Proofs
