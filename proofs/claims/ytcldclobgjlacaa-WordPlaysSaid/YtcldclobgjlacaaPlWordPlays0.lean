/- Plain laws of what is reached, parts Ps8WOps, Ps8Code. On no condition. -/
import Derived.Test.YtcldclobgjlacaaFnWordPlays0
import Derived.Test.YtcldclobgjlacaaFr1
set_option linter.all false
/-! A store's operations, and the reference's. -/
set_option linter.unusedVariables false
namespace Go.Proofs
open Go.Sl
theorem fits_u32 {n : Int} (h : (Lit.int .u32 n).wf = true) : 0 ≤ n ∧ n ≤ 4294967295 := by
  simp [Lit.wf, IntKind.min, IntKind.max, IntKind.signed, IntKind.bits] at h
  omega
theorem at_in {α : Type} {l : List α} {i : Int} (h0 : 0 ≤ i) (h1 : i < (l.length : Int)) : ∃ x, at_ l i = some x ∧ l[i.toNat]? = some x ∧ x ∈ l := by
  have h : i.toNat < l.length := by omega
  refine ⟨l[i.toNat], ?_, List.getElem?_eq_getElem h, List.getElem_mem h⟩
  unfold at_
  rw [decide_eq_true h0, cond_true, List.getElem?_eq_getElem h]
theorem at_set_ {α : Type} {l : List α} {i : Int} (h0 : 0 ≤ i) (h1 : i < (l.length : Int)) (x : α) : at_ (l.set i.toNat x) i = some x := by
  unfold at_
  rw [decide_eq_true h0, cond_true, List.getElem?_set_self (by omega)]
def In (L : List api_Cell) (i : Int) : Prop := 0 ≤ i ∧ i < (L.length : Int)
instance (L : List api_Cell) (i : Int) : Decidable (In L i) := inferInstanceAs (Decidable (_ ∧ _))
theorem has_ok (L : List api_Cell) (lim i : Int) : word_Store_has.f ⟨L, lim⟩ i = some (decide (In L i)) := by
  unfold word_Store_has.f In
  by_cases h : 0 ≤ i
  · simp [h]
  · simp [h]
theorem rhas_ok (L : List api_Cell) (lim i : Int) : ref01_Store_has.f ⟨L, lim⟩ i = some (decide (In L i)) := by
  unfold ref01_Store_has.f In
  by_cases h : 0 ≤ i
  · simp [h]
  · simp [h]
theorem wread_in {L : List api_Cell} (lim : Int) {i : Int} {c : api_Cell} (h : In L i) (hc : at_ L i = some c) : word_Store_Read.f ⟨L, lim⟩ i = some (c, none) := by
  unfold word_Store_Read.f
  rw [has_ok, decide_eq_true h, Option.bind_some, Bool.not_true, cond_false, hc]; rfl
theorem wread_out {L : List api_Cell} (lim : Int) {i : Int} (h : ¬ In L i) : word_Store_Read.f ⟨L, lim⟩ i = some (⟨0, 0, 0⟩, some 2) := by
  unfold word_Store_Read.f
  rw [has_ok, decide_eq_false h]; rfl
theorem reserve_ok (L : List api_Cell) (lim i v m : Int) : ∃ n L', word_Store_Reserve.f ⟨L, lim⟩ i v m = some (if n = 0 then none else some n, ⟨L', lim⟩) ∧ ref01_Store_Reserve.f ⟨L, lim⟩ i v m = some (n, ⟨L', lim⟩) ∧ (0 ≤ n ∧ n ≤ 14) ∧ (L' = L ∨ ∃ c, at_ L i = some c ∧ L' = L.set i.toNat { c with Mark := m }) := by
  unfold word_Store_Reserve.f ref01_Store_Reserve.f
  rw [has_ok, rhas_ok, Option.bind_some, Option.bind_some]
  by_cases h : In L i
  · obtain ⟨c, hc, _, _⟩ := at_in h.1 h.2
    rw [decide_eq_true h, Bool.not_true, cond_false, cond_false]
    by_cases hm : m < 1
    · rw [decide_eq_true hm]
      exact ⟨1, L, rfl, rfl, by decide, .inl rfl⟩
    · have e : (bif c.Mark != 0 then (some (c.Mark != m)) else (some false)) = some ((c.Mark != 0) && (c.Mark != m)) := by
        cases (c.Mark != 0) <;> rfl
      simp only [decide_eq_false hm, cond_false, hc, Option.bind_some, e]
      cases (c.Mark != 0) && (c.Mark != m) with
      | true => exact ⟨12, L, rfl, rfl, by decide, .inl rfl⟩
      | false =>
        simp only [cond_false]
        cases (c.Version != v) with
        | true => exact ⟨10, L, rfl, rfl, by decide, .inl rfl⟩
        | false => exact ⟨0, _, rfl, rfl, by decide, .inr ⟨c, rfl, rfl⟩⟩
  · rw [decide_eq_false h]
    exact ⟨2, L, rfl, rfl, by decide, .inl rfl⟩
theorem own_in {L : List api_Cell} (lim : Int) {i : Int} {c : api_Cell} (m : Int) (h : In L i) (hc : at_ L i = some c) : word_Store_own.f ⟨L, lim⟩ i m = some (if m < 1 ∨ c.Mark ≠ m then some 12 else none) := by
  unfold word_Store_own.f
  rw [has_ok, decide_eq_true h, Option.bind_some, Bool.not_true, cond_false, hc]
  by_cases hm : m < 1
  · rw [decide_eq_true hm, if_pos (.inl hm)]; rfl
  · rw [decide_eq_false hm, cond_false, Option.bind_some, Option.bind_some]
    by_cases e : c.Mark = m
    · rw [if_neg (by omega), e, bne_self_eq_false]; rfl
    · rw [if_pos (.inr e), show (c.Mark != m) = true by simpa using e]; rfl
theorem release_ok (L : List api_Cell) (lim i m : Int) : ∃ n L', word_Store_Release.f ⟨L, lim⟩ i m = some (if n = 0 then none else some n, ⟨L', lim⟩) ∧ ref01_Store_Release.f ⟨L, lim⟩ i m = some (n, ⟨L', lim⟩) ∧ (0 ≤ n ∧ n ≤ 14) ∧ (L' = L ∨ ∃ c, at_ L i = some c ∧ L' = L.set i.toNat { c with Mark := 0 }) := by
  unfold word_Store_Release.f ref01_Store_Release.f
  rw [rhas_ok, Option.bind_some]
  by_cases h : In L i
  · obtain ⟨c, hc, _, _⟩ := at_in h.1 h.2
    simp only [own_in lim m h hc, decide_eq_true h, Bool.not_true, cond_false, hc, Option.bind_some]
    by_cases hm : m < 1
    · rw [decide_eq_true hm, if_pos (.inl hm)]
      exact ⟨12, L, rfl, rfl, by decide, .inl rfl⟩
    · simp only [decide_eq_false hm, cond_false, Option.bind_some]
      by_cases e : c.Mark = m
      · rw [if_neg (by omega), e, bne_self_eq_false]
        exact ⟨0, _, rfl, rfl, by decide, .inr ⟨c, rfl, rfl⟩⟩
      · rw [if_pos (.inr e), show (c.Mark != m) = true by simpa using e]
        exact ⟨12, L, rfl, rfl, by decide, .inl rfl⟩
  · have o : word_Store_own.f ⟨L, lim⟩ i m = some (some 2) := by
      unfold word_Store_own.f
      rw [has_ok, decide_eq_false h]; rfl
    rw [o, decide_eq_false h]
    exact ⟨2, L, rfl, rfl, by decide, .inl rfl⟩
theorem put_ok (L : List api_Cell) (lim i m x : Int) : ∃ n L', word_Store_Put.f ⟨L, lim⟩ i m x = some (if n = 0 then none else some n, ⟨L', lim⟩) ∧ ref01_Store_Put.f ⟨L, lim⟩ i m x = some (n, ⟨L', lim⟩) ∧ (0 ≤ n ∧ n ≤ 14) ∧ (n ≠ 0 → L' = L) ∧ (n = 0 → ∃ c, at_ L i = some c ∧ c.Mark = m ∧ c.Version ≠ lim ∧ L' = L.set i.toNat ⟨x, wu32 (c.Version + 1), 0⟩) := by
  unfold word_Store_Put.f ref01_Store_Put.f
  rw [rhas_ok, Option.bind_some]
  by_cases h : In L i
  · obtain ⟨c, hc, _, _⟩ := at_in h.1 h.2
    simp only [own_in lim m h hc, decide_eq_true h, Bool.not_true, cond_false, hc, Option.bind_some]
    by_cases hm : m < 1
    · rw [decide_eq_true hm, if_pos (.inl hm)]
      exact ⟨12, L, rfl, rfl, by decide, fun _ => rfl, fun z => absurd z (by decide)⟩
    · simp only [decide_eq_false hm, cond_false, Option.bind_some]
      by_cases e : c.Mark = m
      · rw [if_neg (by omega), show (c.Mark != m) = false by simpa using e]
        simp only [Option.isSome_none, cond_false, Option.bind_some]
        by_cases q : c.Version = lim
        · rw [show (c.Version == lim) = true by simpa using q]
          exact ⟨11, L, rfl, rfl, by decide, fun _ => rfl, fun z => absurd z (by decide)⟩
        · simp only [show (c.Version == lim) = false by simpa using q, cond_false, at_set_ h.1 h.2, Option.bind_some, List.set_set]
          exact ⟨0, _, rfl, rfl, by decide, fun z => absurd rfl z, fun _ => ⟨c, rfl, e, q, rfl⟩⟩
      · rw [if_pos (.inr e), show (c.Mark != m) = true by simpa using e]
        exact ⟨12, L, rfl, rfl, by decide, fun _ => rfl, fun z => absurd z (by decide)⟩
  · have o : word_Store_own.f ⟨L, lim⟩ i m = some (some 2) := by
      unfold word_Store_own.f
      rw [has_ok, decide_eq_false h]; rfl
    rw [o, decide_eq_false h]
    exact ⟨2, L, rfl, rfl, by decide, fun _ => rfl, fun z => absurd z (by decide)⟩
theorem set_ok (L : List api_Cell) (lim i x : Int) : ∃ n L', word_Store_Set.f ⟨L, lim⟩ i x = some (if n = 0 then none else some n, ⟨L', lim⟩) ∧ ref01_Store_Set.f ⟨L, lim⟩ i x = some (n, ⟨L', lim⟩) ∧ (0 ≤ n ∧ n ≤ 14) ∧ (L' = L ∨ ∃ c, at_ L i = some c ∧ c.Mark = 0 ∧ L' = L.set i.toNat { c with Value := x }) := by
  unfold word_Store_Set.f ref01_Store_Set.f
  rw [has_ok, rhas_ok, Option.bind_some, Option.bind_some]
  by_cases h : In L i
  · obtain ⟨c, hc, _, _⟩ := at_in h.1 h.2
    simp only [decide_eq_true h, Bool.not_true, cond_false, hc, Option.bind_some]
    by_cases e : c.Mark = 0
    · rw [show (c.Mark != 0) = false by simpa using e]
      exact ⟨0, _, rfl, rfl, by decide, .inr ⟨c, rfl, e, rfl⟩⟩
    · rw [show (c.Mark != 0) = true by simpa using e]
      exact ⟨12, L, rfl, rfl, by decide, .inl rfl⟩
  · rw [decide_eq_false h]
    exact ⟨2, L, rfl, rfl, by decide, .inl rfl⟩
theorem set_same {L : List api_Cell} {i : Int} {c : api_Cell} (hc : at_ L i = some c) : L.set i.toNat c = L := by
  obtain ⟨h0, h1, h2⟩ := at_spec hc
  have hl : i.toNat < L.length := by omega
  rw [List.getElem?_eq_getElem hl] at h2
  injection h2 with h2
  rw [← h2]
  exact List.set_getElem_self hl
theorem pick_some (c : Int) : ∃ p, law01_pick.f c 5 = some p := by
  unfold law01_pick.f
  have hc : chk (decide ((5 : Int) ≠ 0)) = some () := rfl
  rw [hc, Option.bind_some, Option.bind_some]
  cases decide (c < 0) <;> exact ⟨_, rfl⟩
end Go.Proofs
/-! The number of an error. -/
set_option linter.unusedVariables false
namespace Go.Proofs
open Go.Sl
theorem code_l1 {n : Int} (hn : 1 ≤ n ∧ n ≤ 14) : ∀ (m k : Nat) (i : Int), 1 ≤ i → i ≤ n → n - i = m → m < k → law00_Code.l1 (some n) k i = some (Brk.ret n) := by
  intro m
  induction m with
  | zero =>
    intro k i h1 h2 h3 hk
    obtain ⟨k, rfl⟩ : ∃ z, k = z + 1 := ⟨k - 1, by omega⟩
    obtain rfl : i = n := by omega
    unfold law00_Code.l1
    rw [decide_eq_true (by omega), cond_true]
    have : (some i == some i) = true := by simp
    rw [this, cond_true]
  | succ m ih =>
    intro k i h1 h2 h3 hk
    obtain ⟨k, rfl⟩ : ∃ z, k = z + 1 := ⟨k - 1, by omega⟩
    unfold law00_Code.l1
    rw [decide_eq_true (by omega), cond_true]
    have : (some n == some i) = false := by simp; omega
    rw [this, cond_false, w64_id (by omega) (by omega)]
    exact ih k (i + 1) (by omega) (by omega) (by omega) (by omega)
theorem code_ok {n : Int} (hn : 0 ≤ n ∧ n ≤ 14) {k : Nat} (hk : 20 ≤ k) : law00_Code.f k (if n = 0 then none else some n) = some n := by
  unfold law00_Code.f
  by_cases h : n = 0
  · rw [if_pos h, h]; rfl
  · rw [if_neg h, code_l1 (by omega) (n - 1).toNat k 1 (by decide) (by omega) (by omega) (by omega)]; rfl
end Go.Proofs
