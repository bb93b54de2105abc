/- Plain laws of what CdtSound reaches, part P10WF. On no condition. -/
import Derived.Test.YtbhboofhcgkgfaaP10VBCdtSound
import Derived.Test.YtbhboofhcgkgfaaP10CapWCdtSound
import Derived.Test.YtbhboofhcgkgfaaP10SBCdtSound
import Derived.Test.YtbhboofhcgkgfaaFnCdtSound1
import Derived.Test.YtbhboofhcgkgfaaFnCdtSound0
set_option linter.all false
/-! What all words of a state are: the state that may be, the words by definition. -/
set_option linter.unusedVariables false
namespace Go.Proofs
open Go.Sl
def nextOf : List Int → Int → Int
  | [], _ => 0
  | a :: l, x => if x = a then hd l else nextOf l x
def prv : Int → List Int → Int → Int
  | _, [], _ => 0
  | a, b :: l, x => if x = b then a else prv (b + 1) l x
def slt (st : ref10_State) (i : Int) : ref10_Slot := st.Slots.getD i.toNat default
def obt (st : ref10_State) (i : Int) : ref10_Obj := st.Objs.getD i.toNat default
def _root_.Go.Sl.A4.nth (a : A4) (p : Int) : Int := if p = 0 then a.a0 else if p = 1 then a.a1 else if p = 2 then a.a2 else a.a3
theorem _root_.Go.Sl.A4.get_nth (a : A4) {p : Int} (h : 0 ≤ p ∧ p < 4) : a.get p = some (a.nth p) := by
  have : p = 0 ∨ p = 1 ∨ p = 2 ∨ p = 3 := by omega
  rcases this with rfl | rfl | rfl | rfl <;> rfl
/-- An object that may be. -/
structure OW (o : ref10_Obj) : Prop where
  kind : 0 ≤ o.Kind ∧ o.Kind ≤ 8
  size : 0 ≤ o.Size ∧ o.Size ≤ 1000000000000
  used : 0 ≤ o.Used ∧ o.Used ≤ o.Size
  first : 0 ≤ o.First ∧ o.First ≤ 1000
  radix : 0 ≤ o.Radix ∧ o.Radix ≤ 5
  wait : 0 ≤ o.Wait ∧ o.Wait ≤ 2
  word : 0 ≤ o.Word ∧ o.Word ≤ 1000000000000
  state : 0 ≤ o.State ∧ o.State ≤ 6
  owing : -1 ≤ o.Owing ∧ o.Owing < 32
  badge : 0 ≤ o.Badge ∧ o.Badge ≤ 1000000000000
  prio : 0 ≤ o.Prio ∧ o.Prio < 256
  on : -1 ≤ o.On ∧ o.On < 32
  owes : -1 ≤ o.Owes ∧ o.Owes < 32
  root : CapMay o.Root
  pages : ∀ p, 0 ≤ p → p < 4 → -1 ≤ o.Pages.nth p ∧ o.Pages.nth p < 32
  right : ∀ p, 0 ≤ p → p < 4 → 0 ≤ o.Right.nth p ∧ o.Right.nth p < 8
  inn : -1 ≤ o.In ∧ o.In < 32
  page : 0 ≤ o.Page ∧ o.Page < 4
  bound : -1 ≤ o.Bound ∧ o.Bound < 32
  mask : 0 ≤ o.Mask ∧ o.Mask ≤ 1
structure WF (st : ref10_State) : Prop where
  ls : st.Slots.length = 96
  lo : st.Objs.length = 32
  cap : ∀ i, 0 ≤ i → i < 96 → CapMay (slt st i).Cap
  par : ∀ i, 0 ≤ i → i < 96 → -1 ≤ (slt st i).Parent ∧ (slt st i).Parent < 96
  kid : ∀ i, 0 ≤ i → i < 96 → ∀ x ∈ (slt st i).Kids, 0 ≤ x ∧ x < 96 ∧ (slt st x).Parent = i
  all : ∀ x, 0 ≤ x → x < 96 → 0 ≤ (slt st x).Parent → x ∈ (slt st (slt st x).Parent).Kids
  nodk : ∀ i, 0 ≤ i → i < 96 → (slt st i).Kids.Nodup
  irr : ∀ i, 0 ≤ i → i < 96 → (slt st i).Parent ≠ i
  obj : ∀ i, 0 ≤ i → i < 32 → OW (obt st i)
  que : ∀ i, 0 ≤ i → i < 32 → ∀ t ∈ (obt st i).Queue, 0 ≤ t ∧ t < 32 ∧ (obt st t).Kind = 5 ∧ (obt st t).On = i ∧ (obt st t).Owing = -1
  qk : ∀ i, 0 ≤ i → i < 32 → (obt st i).Queue ≠ [] → (obt st i).Kind = 3 ∨ (obt st i).Kind = 4
  onq : ∀ t, 0 ≤ t → t < 32 → (obt st t).Kind = 5 → 0 ≤ (obt st t).On → t ∈ (obt st (obt st t).On).Queue
  nodq : ∀ i, 0 ≤ i → i < 32 → (obt st i).Queue.Nodup
  ns : 0 ≤ st.NS ∧ st.NS ≤ 1000
  no : 0 ≤ st.NO ∧ st.NO ≤ 1000
/-- What a space's page is as a word. -/
def pgw (o : ref10_Obj) (p : Int) : Int := if 0 ≤ o.Pages.nth p then 8 * (o.Pages.nth p + 1) + o.Right.nth p else 0
def own (o : ref10_Obj) (f : Int) : Int :=
  if f = 0 then o.Kind
  else if o.Kind = 1 then (if f = 1 then o.Size else if f = 2 then o.Used else 0)
  else if o.Kind = 2 then (if f = 1 then o.First else if f = 2 then o.Radix else 0)
  else if o.Kind = 3 then (if f = 1 then o.Wait else 0)
  else if o.Kind = 4 then (if f = 1 then o.Word else 0)
  else if o.Kind = 5 then (if f = 1 then o.State else if f = 2 then o.Owing + 1 else if f = 3 then o.Word else if f = 4 then o.Badge else if f = 5 then o.Prio + 256 * (o.On + 1) else if f = 6 then o.Owes + 1 else capWord o.Root)
  else if o.Kind = 6 then (if f = 1 then o.In + 1 else if f = 2 then o.Page else 0)
  else if o.Kind = 7 then (if 1 ≤ f ∧ f ≤ 4 then pgw o (f - 1) else 0)
  else if o.Kind = 8 then (if f = 1 then o.Bound + 1 else if f = 2 then o.Badge else if f = 3 then o.Mask else 0)
  else 0
def ob (st : ref10_State) (i f : Int) : Int :=
  if f = 2 ∧ (obt st i).Kind = 5 ∧ 0 ≤ (obt st i).On then nextOf (obt st (obt st i).On).Queue i
  else if f = 2 ∧ (obt st i).Queue ≠ [] then hd (obt st i).Queue
  else if f = 3 ∧ (obt st i).Queue ≠ [] then la (obt st i).Queue
  else own (obt st i) f
def sl (st : ref10_State) (i f : Int) : Int :=
  if f = 0 then capWord (slt st i).Cap
  else if f = 1 then (slt st i).Parent + 1
  else if f = 2 then hd (slt st i).Kids
  else if 0 ≤ (slt st i).Parent then (if f = 3 then nextOf (slt st (slt st i).Parent).Kids i else prv 0 (slt st (slt st i).Parent).Kids i)
  else 0
structure IsW (st : ref10_State) (w : List Int) : Prop where
  len : w.length = 738
  slot : ∀ i f, 0 ≤ i → i < 96 → 0 ≤ f → f < 5 → w.getD (5 * i + f).toNat 0 = sl st i f
  obj : ∀ i f, 0 ≤ i → i < 32 → 0 ≤ f → f < 8 → w.getD (480 + 8 * i + f).toNat 0 = ob st i f
  ns : w.getD 736 0 = st.NS
  no : w.getD 737 0 = st.NO
theorem IsW.uniq {st : ref10_State} {a b : List Int} (ha : IsW st a) (hb : IsW st b) : a = b := by
  refine List.ext_getElem (by rw [ha.len, hb.len]) fun j h1 h2 => ?_
  have e : a.getD j 0 = b.getD j 0 := by
    have hl := ha.len
    by_cases q : j < 480
    · have h := (ha.slot (j / 5 : Nat) (j % 5 : Nat) (by omega) (by omega) (by omega) (by omega)).trans (hb.slot (j / 5 : Nat) (j % 5 : Nat) (by omega) (by omega) (by omega) (by omega)).symm
      rwa [show (5 * ((j / 5 : Nat) : Int) + ((j % 5 : Nat) : Int)).toNat = j by omega] at h
    · by_cases q2 : j < 736
      · have h := (ha.obj ((j - 480) / 8 : Nat) ((j - 480) % 8 : Nat) (by omega) (by omega) (by omega) (by omega)).trans (hb.obj ((j - 480) / 8 : Nat) ((j - 480) % 8 : Nat) (by omega) (by omega) (by omega) (by omega)).symm
        rwa [show (480 + 8 * (((j - 480) / 8 : Nat) : Int) + (((j - 480) % 8 : Nat) : Int)).toNat = j by omega] at h
      · have : j = 736 ∨ j = 737 := by omega
        rcases this with rfl | rfl
        · exact ha.ns.trans hb.ns.symm
        · exact ha.no.trans hb.no.symm
  simpa [List.getD, List.getElem?_eq_getElem h1, List.getElem?_eq_getElem h2] using e
theorem at_getD {α : Type} [Inhabited α] {l : List α} {i : Int} (h : 0 ≤ i) (h2 : i < (l.length : Int)) : at_ l i = some (l.getD i.toNat default) := by
  unfold at_
  rw [decide_eq_true h, cond_true, List.getD, List.getElem?_eq_getElem (by omega)]; rfl
theorem at_w {l : List Int} {i : Int} (h : 0 ≤ i) (h2 : i < (l.length : Int)) : at_ l i = some (l.getD i.toNat 0) := at_getD h h2
theorem same_l1 (a : List Int) (hl : a.length ≤ 100000) : ∀ (m k : Nat) (i : Int), 0 ≤ i → i ≤ a.length → (a.length : Int) - i = m → m < k → ref10_Same.l1 a a k i = some (Brk.nx ()) := by
  intro m
  induction m with
  | zero =>
    intro k i h0 h1 h2 hk
    obtain ⟨k, rfl⟩ : ∃ q, k = q + 1 := ⟨k - 1, by omega⟩
    unfold ref10_Same.l1
    rw [decide_eq_false (by omega), cond_false]
  | succ m ih =>
    intro k i h0 h1 h2 hk
    obtain ⟨k, rfl⟩ : ∃ q, k = q + 1 := ⟨k - 1, by omega⟩
    unfold ref10_Same.l1
    rw [decide_eq_true (by omega), cond_true, at_w h0 (by omega), Option.bind_some, Option.bind_some, bne_self_eq_false, cond_false, w64_id (by omega) (by omega)]
    exact ih k (i + 1) (by omega) (by omega) (by omega) (by omega)
theorem same_ok {a : List Int} (hl : a.length = 738) {k : Nat} (hk : 740 ≤ k) : ref10_Same.f k a a = some true := by
  unfold ref10_Same.f
  rw [bne_self_eq_false, cond_false, same_l1 a (by omega) 738 k 0 (by decide) (by omega) (by omega) (by omega)]; rfl
theorem hd_rg {n : Int} (hn : 0 ≤ n) : ∀ {l : List Int}, (∀ x ∈ l, 0 ≤ x ∧ x < n) → 0 ≤ hd l ∧ hd l ≤ n
  | [], _ => ⟨by decide, hn⟩
  | a :: l, h => by have := h a List.mem_cons_self; show 0 ≤ a + 1 ∧ a + 1 ≤ n; omega
theorem nextOf_rg {n : Int} (hn : 0 ≤ n) (x : Int) : ∀ {l : List Int}, (∀ x ∈ l, 0 ≤ x ∧ x < n) → 0 ≤ nextOf l x ∧ nextOf l x ≤ n
  | [], _ => ⟨by show (0 : Int) ≤ 0; decide, hn⟩
  | a :: l, h => by
    unfold nextOf
    split
    · exact hd_rg hn fun y hy => h y (List.mem_cons_of_mem _ hy)
    · exact nextOf_rg hn x fun y hy => h y (List.mem_cons_of_mem _ hy)
theorem prv_rg {n : Int} (hn : 0 ≤ n) (x : Int) : ∀ {l : List Int} {a : Int}, 0 ≤ a → a ≤ n → (∀ x ∈ l, 0 ≤ x ∧ x < n) → 0 ≤ prv a l x ∧ prv a l x ≤ n
  | [], a, _, _, _ => ⟨by show (0 : Int) ≤ 0; decide, hn⟩
  | b :: l, a, h1, h2, h => by
    have := h b List.mem_cons_self
    unfold prv
    split
    · omega
    · exact prv_rg hn x (by omega) (by omega) fun y hy => h y (List.mem_cons_of_mem _ hy)
theorem la_rg {n : Int} (hn : 0 ≤ n) {l : List Int} (h : ∀ x ∈ l, 0 ≤ x ∧ x < n) : 0 ≤ la l ∧ la l ≤ n := by
  unfold la
  split
  · omega
  · rename_i t e
    have := h t (List.mem_of_getLast? e); omega
theorem nodup_len : ∀ (n : Nat) {l : List Int}, l.Nodup → (∀ x ∈ l, 0 ≤ x ∧ x < n) → l.length ≤ n
  | 0, l, _, h => by
    cases l with
    | nil => simp
    | cons a l => have := h a List.mem_cons_self; omega
  | n + 1, l, hn, h => by
    have h1 := nodup_len n (l := l.erase (n : Int)) (hn.erase _) fun x hx => by
      have := h x (List.mem_of_mem_erase hx)
      have : x ≠ (n : Int) := fun e => by subst e; exact (List.Nodup.not_mem_erase hn) hx
      omega
    have h2 := List.length_erase (a := (n : Int)) (l := l)
    split at h2 <;> omega
end Go.Proofs
