/- Plain laws of what is reached, parts P12VB, P12CapW, P12SB, P12WF, P12Words, P12WordsO, P12WordsF, P12IsW, P12Small, P12St, P12SlotB, P12Tree, P12Erase, P12TreeU, P12Rep. On no condition. -/
import Derived.Test.YtdmhpmnbcbjneaaFnDeriveLess0
import Derived.Test.YtdmhpmnbcbjneaaFr1
import Derived.Test.YtdmhpmnbcbjneaaFnDeriveLess1
import Derived.Test.YtdmhpmnbcbjneaaFnDeriveLess2
import Derived.Test.YtdmhpmnbcbjneaaFnDeriveLess3
set_option linter.all false
/-! Lists of words: fields, views run on a list. -/
set_option linter.unusedVariables false
namespace Go.Proofs
open Go.Sl
def InObj (i f : Int) : Prop := 0 ≤ i ∧ i < 32 ∧ 0 ≤ f ∧ f < 8
instance (i f : Int) : Decidable (InObj i f) := inferInstanceAs (Decidable (_ ∧ _))
theorem prd {s : List Int} {i : Int} (h : 0 ≤ i ∧ i < (s.length : Int)) : plainI.rd s i = (s.getD i.toNat 0, s) := by
  show ((view_Plain_Read.f s i).getD 0, s) = _
  unfold view_Plain_Read.f view_Plain_has.f
  have h2 : s[i.toNat]? = some s[i.toNat] := List.getElem?_eq_getElem (by omega)
  have h1 : (decide (0 ≤ i) && decide (i < (s.length : Int))) = true := by simp; omega
  have h3 : at_ s i = some s[i.toNat] := by unfold at_; rw [decide_eq_true h.1, cond_true, h2]
  simp only [h1, Option.bind_some, Bool.not_true, cond_false, h3, Option.getD_some, List.getD, h2]
theorem pwr {s : List Int} {i x : Int} (h : 0 ≤ i ∧ i < (s.length : Int)) : plainI.wr s i x = s.set i.toNat x := by
  show (view_Plain_Write.f s i x).getD s = _
  unfold view_Plain_Write.f view_Plain_has.f
  have h2 : s[i.toNat]? = some s[i.toNat] := List.getElem?_eq_getElem (by omega)
  have h1 : (decide (0 ≤ i) && decide (i < (s.length : Int))) = true := by simp; omega
  have h3 : at_ s i = some s[i.toNat] := by unfold at_; rw [decide_eq_true h.1, cond_true, h2]
  simp only [h1, Option.bind_some, cond_true, h3, Option.getD_some]
theorem runB {α β : Type} (x : VM α) (g : α → VM β) (s : List Int) : VM.run plainI (x.bind g) s = (VM.run plainI x s).bind fun p => VM.run plainI (g p.1) p.2 := VM.run_bind plainI x g s
theorem runR {α : Type} (a : α) (s : List Int) : VM.run plainI (VM.ret a) s = some (a, s) := rfl
theorem runO {α : Type} (x : Option α) (s : List Int) : VM.run plainI (VM.opt x) s = x.map fun a => (a, s) := by cases x <;> rfl
theorem runC {α : Type} (c : Bool) (x y : VM α) (s : List Int) : VM.run plainI (bif c then x else y) s = bif c then VM.run plainI x s else VM.run plainI y s := by cases c <;> rfl
theorem runRd {α : Type} {i : Int} (g : Int → VM α) {s : List Int} (h : 0 ≤ i ∧ i < (s.length : Int)) : VM.run plainI (VM.rd i g) s = VM.run plainI (g (s.getD i.toNat 0)) s := by
  show VM.run plainI (g (plainI.rd s i).1) (plainI.rd s i).2 = _
  have e := prd h
  exact congrArg (fun p : Int × List Int => VM.run plainI (g p.1) p.2) e
theorem runWr {α : Type} {i x : Int} (g : VM α) {s : List Int} (h : 0 ≤ i ∧ i < (s.length : Int)) : VM.run plainI (VM.wr i x g) s = VM.run plainI g (s.set i.toNat x) := by
  show VM.run plainI g (plainI.wr s i x) = _
  exact congrArg (fun p : List Int => VM.run plainI g p) (pwr h)
/-- As many words as there are, none below 0. -/
def Good (s : List Int) : Prop := s.length = 738 ∧ ∀ j, 0 ≤ s.getD j 0
def goodB (s : List Int) : Bool := s.length == 738 && s.all fun x => decide (0 ≤ x)
theorem good_of {s : List Int} (h : goodB s = true) : Good s := by
  simp only [goodB, Bool.and_eq_true, beq_iff_eq, List.all_eq_true, decide_eq_true_eq] at h
  refine ⟨h.1, fun j => ?_⟩
  rw [List.getD]
  cases e : s[j]? with
  | none => simp
  | some x => simpa using h.2 x (List.mem_of_getElem? e)
def numb (w : Int) : Int := if 4611686018427387904 < w then 0 else w
theorem numb_nn {w : Int} (h : 0 ≤ w) : 0 ≤ numb w := by unfold numb; split <;> omega
theorem numb_le {w : Int} : numb w ≤ 4611686018427387904 := by unfold numb; split <;> omega
theorem numb_id {w : Int} (h : w ≤ 4611686018427387904) : numb w = w := by unfold numb; rw [if_neg (by omega)]
def fld (s : List Int) (i f : Int) : Int := if InObj i f then numb (s.getD (480 + 8 * i + f).toNat 0) else 0
def put (s : List Int) (i f n : Int) : List Int := if InObj i f ∧ 0 ≤ n then s.set (480 + 8 * i + f).toNat n else s
theorem fld_nn {s : List Int} (h : Good s) (i f : Int) : 0 ≤ fld s i f := by
  unfold fld; split
  · exact numb_nn (h.2 _)
  · omega
theorem fld_le (s : List Int) (i f : Int) : fld s i f ≤ 4611686018427387904 := by
  unfold fld; split
  · exact numb_le
  · omega
theorem getD_set (s : List Int) (a b : Nat) (v : Int) : (s.set a v).getD b 0 = if a = b ∧ b < s.length then v else s.getD b 0 := by
  simp only [List.getD]
  by_cases e : a = b
  · subst e
    by_cases h : a < s.length
    · rw [List.getElem?_set_self h]; simp [h]
    · rw [List.getElem?_eq_none (by simpa using h)]
      rw [List.getElem?_eq_none (by omega)]; simp [h]
  · rw [List.getElem?_set_ne e]; simp [e]
theorem put_len (s : List Int) (i f n : Int) : (put s i f n).length = s.length := by unfold put; split <;> simp
theorem good_put {s : List Int} (h : Good s) (i f n : Int) : Good (put s i f n) := by
  refine ⟨by rw [put_len]; exact h.1, fun j => ?_⟩
  unfold put
  split
  · rename_i hn
    rw [getD_set]; split
    · omega
    · exact h.2 j
  · exact h.2 j
theorem fld_put {s : List Int} (h : Good s) (i f n i' f' : Int) (hn : n ≤ 4611686018427387904) : fld (put s i f n) i' f' = if i = i' ∧ f = f' ∧ InObj i f ∧ 0 ≤ n then n else fld s i' f' := by
  unfold put fld
  by_cases h1 : InObj i f ∧ 0 ≤ n
  · rw [if_pos h1]
    by_cases h2 : InObj i' f'
    · rw [if_pos h2, if_pos h2, getD_set, h.1]
      have a := h1.1
      unfold InObj at a h2
      by_cases e : i = i' ∧ f = f'
      · obtain ⟨rfl, rfl⟩ := e
        rw [if_pos ⟨rfl, by omega⟩, if_pos ⟨rfl, rfl, h1.1, h1.2⟩, numb_id hn]
      · rw [if_neg (by omega), if_neg (fun e' => e ⟨e'.1, e'.2.1⟩)]
    · rw [if_neg h2, if_neg h2, if_neg]
      rintro ⟨rfl, rfl, q, _⟩; exact h2 q
  · rw [if_neg h1]
    have : ¬ (i = i' ∧ f = f' ∧ InObj i f ∧ 0 ≤ n) := fun e => h1 e.2.2
    rw [if_neg this]
theorem band_65535 {x : Int} (h : 0 ≤ x) (h2 : x < 9223372036854775808) : band .i64 x 65535 = x % 65536 := by
  have := band_mod_i64 (x := x) 16 (by decide) h (by omega)
  simpa using this
theorem at_some {α : Type} {l : List α} {i : Int} (h : 0 ≤ i) (h2 : i < (l.length : Int)) : ∃ x, at_ l i = some x ∧ x ∈ l := by
  have h3 : l[i.toNat]? = some (l[i.toNat]'(by omega)) := List.getElem?_eq_getElem (by omega)
  refine ⟨l[i.toNat]'(by omega), ?_, List.getElem_mem _⟩
  unfold at_; rw [decide_eq_true h, cond_true, h3]
def hd : List Int → Int
  | [] => 0
  | t :: _ => t + 1
def la (l : List Int) : Int := match l.getLast? with | none => 0 | some t => t + 1
end Go.Proofs
/-! The capability as a word. -/
namespace Go.Proofs
open Go.Sl
def CapMay (c : api_Cap) : Prop := 0 ≤ c.Kind ∧ c.Kind ≤ 8 ∧ 0 ≤ c.Rights ∧ c.Rights ≤ 7 ∧ 0 ≤ c.Obj ∧ c.Obj ≤ 31 ∧ 0 ≤ c.Badge ∧ c.Badge ≤ 65535 ∧ 0 ≤ c.Bits ∧ c.Bits ≤ 8 ∧
  (c.Kind = 0 → c.Rights = 0 ∧ c.Obj = 0) ∧ (c.Kind = 3 ∨ c.Kind = 4 ∨ c.Badge = 0) ∧ (c.Kind = 2 ∨ (c.Bits = 0 ∧ c.Guard = 0)) ∧ 0 ≤ c.Guard ∧ c.Guard < 2 ^ c.Bits.toNat
instance (c : api_Cap) : Decidable (CapMay c) := by unfold CapMay; exact inferInstance
theorem pow_lo (n : Nat) : (1 : Int) ≤ 2 ^ n := by have : (0 : Int) < 2 ^ n := Int.pow_pos (by decide); omega
theorem pow_le {n m : Nat} (h : n ≤ m) : (2 : Int) ^ n ≤ 2 ^ m := by
  have := Nat.pow_le_pow_right (n := 2) (by decide) h
  exact_mod_cast this
def capWord (c : api_Cap) : Int := c.Kind + c.Rights * 2 ^ 4 + c.Obj * 2 ^ 7 + c.Badge * 2 ^ 12 + c.Bits * 2 ^ 28 + c.Guard * 2 ^ 32
theorem guard_lt {c : api_Cap} (h : CapMay c) : c.Guard < 256 := by
  obtain ⟨-, -, -, -, -, -, -, -, -, h1, -, -, -, -, h2⟩ := h
  have := pow_le (show c.Bits.toNat ≤ 8 by omega)
  omega
theorem word_ok {c : api_Cap} (h : CapMay c) : ref01_Word.f c = some (capWord c) := by
  have hg := guard_lt h
  obtain ⟨h1, h2, h3, h4, h5, h6, h7, h8, h9, h10, -, -, -, h14, h15⟩ := h
  obtain ⟨K, R, O, B, G, T⟩ := c
  unfold ref01_Word.f capWord
  simp only at *
  rw [wu64_id (x := K) (by omega) (by omega), wu64_id (x := R) (by omega) (by omega), wu64_id (x := O) (by omega) (by omega), wu64_id (x := B) (by omega) (by omega), wu64_id (x := G) (by omega) (by omega), wu64_id (x := T) (by omega) (by omega),
    wu64_id (x := 16 * R) (by omega) (by omega), wu64_id (x := 128 * O) (by omega) (by omega), wu64_id (x := 4096 * B) (by omega) (by omega), wu64_id (x := 268435456 * T) (by omega) (by omega), wu64_id (x := 4294967296 * G) (by omega) (by omega)]
  rw [wu64_id (x := K + 16 * R) (by omega) (by omega), wu64_id (x := K + 16 * R + 128 * O) (by omega) (by omega), wu64_id (x := K + 16 * R + 128 * O + 4096 * B) (by omega) (by omega), wu64_id (x := K + 16 * R + 128 * O + 4096 * B + 268435456 * T) (by omega) (by omega), wu64_id (by omega) (by omega)]
  congr 1; omega
def capOf (w : Int) : api_Cap := ⟨w % 2 ^ 4, w / 2 ^ 4 % 2 ^ 3, w / 2 ^ 4 / 2 ^ 3 % 2 ^ 5, w / 2 ^ 4 / 2 ^ 3 / 2 ^ 5 % 2 ^ 16, w / 2 ^ 4 / 2 ^ 3 / 2 ^ 5 / 2 ^ 16 / 2 ^ 4 % 2 ^ 8, w / 2 ^ 4 / 2 ^ 3 / 2 ^ 5 / 2 ^ 16 % 2 ^ 4⟩
theorem capOf_word {w : Int} (h0 : 0 ≤ w) (h : w / 2 ^ 4 / 2 ^ 3 / 2 ^ 5 / 2 ^ 16 / 2 ^ 4 / 2 ^ 8 = 0) : capWord (capOf w) = w := by
  unfold capOf capWord; simp only; omega
theorem word_capOf {c : api_Cap} (h : CapMay c) : capOf (capWord c) = c ∧ capWord c / 2 ^ 4 / 2 ^ 3 / 2 ^ 5 / 2 ^ 16 / 2 ^ 4 / 2 ^ 8 = 0 ∧ 0 ≤ capWord c ∧ capWord c ≤ 18446744073709551615 := by
  have hg := guard_lt h
  obtain ⟨h1, h2, h3, h4, h5, h6, h7, h8, h9, h10, -, -, -, h14, h15⟩ := h
  obtain ⟨K, R, O, B, G, T⟩ := c
  unfold capOf capWord
  simp only [api_Cap.mk.injEq] at *
  clear h15
  refine ⟨⟨?_, ?_, ?_, ?_, ?_, ?_⟩, ?_, ?_, ?_⟩ <;> omega
end Go.Proofs
/-! The words of slots. -/
set_option linter.unusedVariables false
namespace Go.Proofs
open Go.Sl
def InSlot (i f : Int) : Prop := 0 ≤ i ∧ i < 96 ∧ 0 ≤ f ∧ f < 5
instance (i f : Int) : Decidable (InSlot i f) := inferInstanceAs (Decidable (_ ∧ _))
/-- Words that are words. -/
def GoodU (s : List Int) : Prop := Good s ∧ ∀ j, s.getD j 0 ≤ 18446744073709551615
def goodUB (s : List Int) : Bool := goodB s && s.all fun x => decide (x ≤ 18446744073709551615)
theorem goodU_of {s : List Int} (h : goodUB s = true) : GoodU s := by
  simp only [goodUB, Bool.and_eq_true, List.all_eq_true, decide_eq_true_eq] at h
  refine ⟨good_of h.1, fun j => ?_⟩
  rw [List.getD]
  cases e : s[j]? with
  | none => simp
  | some x => simpa using h.2 x (List.mem_of_getElem? e)
def noCap : api_Cap := ⟨0, 0, 0, 0, 0, 0⟩
def readCap (w : Int) : api_Cap := if w / 2 ^ 4 / 2 ^ 3 / 2 ^ 5 / 2 ^ 16 / 2 ^ 4 / 2 ^ 8 = 0 ∧ CapMay (capOf w) then capOf w else noCap
def capAt (s : List Int) (i : Int) : api_Cap := if InSlot i 0 then readCap (s.getD (5 * i).toNat 0) else noCap
end Go.Proofs
/-! What all words of a state are: the state that may be, the words by definition. -/
set_option linter.unusedVariables false
namespace Go.Proofs
open Go.Sl
def nextOf : List Int → Int → Int
  | [], _ => 0
  | a :: l, x => if x = a then hd l else nextOf l x
def prv : Int → List Int → Int → Int
  | _, [], _ => 0
  | a, b :: l, x => if x = b then a else prv (b + 1) l x
def slt (st : ref10_State) (i : Int) : ref10_Slot := st.Slots.getD i.toNat default
def obt (st : ref10_State) (i : Int) : ref10_Obj := st.Objs.getD i.toNat default
def _root_.Go.Sl.A4.nth (a : A4) (p : Int) : Int := if p = 0 then a.a0 else if p = 1 then a.a1 else if p = 2 then a.a2 else a.a3
theorem _root_.Go.Sl.A4.get_nth (a : A4) {p : Int} (h : 0 ≤ p ∧ p < 4) : a.get p = some (a.nth p) := by
  have : p = 0 ∨ p = 1 ∨ p = 2 ∨ p = 3 := by omega
  rcases this with rfl | rfl | rfl | rfl <;> rfl
/-- An object that may be. -/
structure OW (o : ref10_Obj) : Prop where
  kind : 0 ≤ o.Kind ∧ o.Kind ≤ 8
  size : 0 ≤ o.Size ∧ o.Size ≤ 1000000000000
  used : 0 ≤ o.Used ∧ o.Used ≤ o.Size
  first : 0 ≤ o.First ∧ o.First ≤ 1000
  radix : 0 ≤ o.Radix ∧ o.Radix ≤ 5
  wait : 0 ≤ o.Wait ∧ o.Wait ≤ 2
  word : 0 ≤ o.Word ∧ o.Word ≤ 1000000000000
  state : 0 ≤ o.State ∧ o.State ≤ 6
  owing : -1 ≤ o.Owing ∧ o.Owing < 32
  badge : 0 ≤ o.Badge ∧ o.Badge ≤ 1000000000000
  prio : 0 ≤ o.Prio ∧ o.Prio < 256
  on : -1 ≤ o.On ∧ o.On < 32
  owes : -1 ≤ o.Owes ∧ o.Owes < 32
  root : CapMay o.Root
  pages : ∀ p, 0 ≤ p → p < 4 → -1 ≤ o.Pages.nth p ∧ o.Pages.nth p < 32
  right : ∀ p, 0 ≤ p → p < 4 → 0 ≤ o.Right.nth p ∧ o.Right.nth p < 8
  inn : -1 ≤ o.In ∧ o.In < 32
  page : 0 ≤ o.Page ∧ o.Page < 4
  bound : -1 ≤ o.Bound ∧ o.Bound < 32
  mask : 0 ≤ o.Mask ∧ o.Mask ≤ 1
structure WF (st : ref10_State) : Prop where
  ls : st.Slots.length = 96
  lo : st.Objs.length = 32
  cap : ∀ i, 0 ≤ i → i < 96 → CapMay (slt st i).Cap
  par : ∀ i, 0 ≤ i → i < 96 → -1 ≤ (slt st i).Parent ∧ (slt st i).Parent < 96
  kid : ∀ i, 0 ≤ i → i < 96 → ∀ x ∈ (slt st i).Kids, 0 ≤ x ∧ x < 96 ∧ (slt st x).Parent = i
  all : ∀ x, 0 ≤ x → x < 96 → 0 ≤ (slt st x).Parent → x ∈ (slt st (slt st x).Parent).Kids
  nodk : ∀ i, 0 ≤ i → i < 96 → (slt st i).Kids.Nodup
  irr : ∀ i, 0 ≤ i → i < 96 → (slt st i).Parent ≠ i
  obj : ∀ i, 0 ≤ i → i < 32 → OW (obt st i)
  que : ∀ i, 0 ≤ i → i < 32 → ∀ t ∈ (obt st i).Queue, 0 ≤ t ∧ t < 32 ∧ (obt st t).Kind = 5 ∧ (obt st t).On = i ∧ (obt st t).Owing = -1
  qk : ∀ i, 0 ≤ i → i < 32 → (obt st i).Queue ≠ [] → (obt st i).Kind = 3 ∨ (obt st i).Kind = 4
  onq : ∀ t, 0 ≤ t → t < 32 → (obt st t).Kind = 5 → 0 ≤ (obt st t).On → t ∈ (obt st (obt st t).On).Queue
  nodq : ∀ i, 0 ≤ i → i < 32 → (obt st i).Queue.Nodup
  ns : 0 ≤ st.NS ∧ st.NS ≤ 1000
  no : 0 ≤ st.NO ∧ st.NO ≤ 1000
/-- What a space's page is as a word. -/
def pgw (o : ref10_Obj) (p : Int) : Int := if 0 ≤ o.Pages.nth p then 8 * (o.Pages.nth p + 1) + o.Right.nth p else 0
def own (o : ref10_Obj) (f : Int) : Int :=
  if f = 0 then o.Kind
  else if o.Kind = 1 then (if f = 1 then o.Size else if f = 2 then o.Used else 0)
  else if o.Kind = 2 then (if f = 1 then o.First else if f = 2 then o.Radix else 0)
  else if o.Kind = 3 then (if f = 1 then o.Wait else 0)
  else if o.Kind = 4 then (if f = 1 then o.Word else 0)
  else if o.Kind = 5 then (if f = 1 then o.State else if f = 2 then o.Owing + 1 else if f = 3 then o.Word else if f = 4 then o.Badge else if f = 5 then o.Prio + 256 * (o.On + 1) else if f = 6 then o.Owes + 1 else capWord o.Root)
  else if o.Kind = 6 then (if f = 1 then o.In + 1 else if f = 2 then o.Page else 0)
  else if o.Kind = 7 then (if 1 ≤ f ∧ f ≤ 4 then pgw o (f - 1) else 0)
  else if o.Kind = 8 then (if f = 1 then o.Bound + 1 else if f = 2 then o.Badge else if f = 3 then o.Mask else 0)
  else 0
def ob (st : ref10_State) (i f : Int) : Int :=
  if f = 2 ∧ (obt st i).Kind = 5 ∧ 0 ≤ (obt st i).On then nextOf (obt st (obt st i).On).Queue i
  else if f = 2 ∧ (obt st i).Queue ≠ [] then hd (obt st i).Queue
  else if f = 3 ∧ (obt st i).Queue ≠ [] then la (obt st i).Queue
  else own (obt st i) f
def sl (st : ref10_State) (i f : Int) : Int :=
  if f = 0 then capWord (slt st i).Cap
  else if f = 1 then (slt st i).Parent + 1
  else if f = 2 then hd (slt st i).Kids
  else if 0 ≤ (slt st i).Parent then (if f = 3 then nextOf (slt st (slt st i).Parent).Kids i else prv 0 (slt st (slt st i).Parent).Kids i)
  else 0
structure IsW (st : ref10_State) (w : List Int) : Prop where
  len : w.length = 738
  slot : ∀ i f, 0 ≤ i → i < 96 → 0 ≤ f → f < 5 → w.getD (5 * i + f).toNat 0 = sl st i f
  obj : ∀ i f, 0 ≤ i → i < 32 → 0 ≤ f → f < 8 → w.getD (480 + 8 * i + f).toNat 0 = ob st i f
  ns : w.getD 736 0 = st.NS
  no : w.getD 737 0 = st.NO
theorem IsW.uniq {st : ref10_State} {a b : List Int} (ha : IsW st a) (hb : IsW st b) : a = b := by
  refine List.ext_getElem (by rw [ha.len, hb.len]) fun j h1 h2 => ?_
  have e : a.getD j 0 = b.getD j 0 := by
    have hl := ha.len
    by_cases q : j < 480
    · have h := (ha.slot (j / 5 : Nat) (j % 5 : Nat) (by omega) (by omega) (by omega) (by omega)).trans (hb.slot (j / 5 : Nat) (j % 5 : Nat) (by omega) (by omega) (by omega) (by omega)).symm
      rwa [show (5 * ((j / 5 : Nat) : Int) + ((j % 5 : Nat) : Int)).toNat = j by omega] at h
    · by_cases q2 : j < 736
      · have h := (ha.obj ((j - 480) / 8 : Nat) ((j - 480) % 8 : Nat) (by omega) (by omega) (by omega) (by omega)).trans (hb.obj ((j - 480) / 8 : Nat) ((j - 480) % 8 : Nat) (by omega) (by omega) (by omega) (by omega)).symm
        rwa [show (480 + 8 * (((j - 480) / 8 : Nat) : Int) + (((j - 480) % 8 : Nat) : Int)).toNat = j by omega] at h
      · have : j = 736 ∨ j = 737 := by omega
        rcases this with rfl | rfl
        · exact ha.ns.trans hb.ns.symm
        · exact ha.no.trans hb.no.symm
  simpa [List.getD, List.getElem?_eq_getElem h1, List.getElem?_eq_getElem h2] using e
theorem at_getD {α : Type} [Inhabited α] {l : List α} {i : Int} (h : 0 ≤ i) (h2 : i < (l.length : Int)) : at_ l i = some (l.getD i.toNat default) := by
  unfold at_
  rw [decide_eq_true h, cond_true, List.getD, List.getElem?_eq_getElem (by omega)]; rfl
theorem at_w {l : List Int} {i : Int} (h : 0 ≤ i) (h2 : i < (l.length : Int)) : at_ l i = some (l.getD i.toNat 0) := at_getD h h2
theorem same_l1 (a : List Int) (hl : a.length ≤ 100000) : ∀ (m k : Nat) (i : Int), 0 ≤ i → i ≤ a.length → (a.length : Int) - i = m → m < k → ref10_Same.l1 a a k i = some (Brk.nx ()) := by
  intro m
  induction m with
  | zero =>
    intro k i h0 h1 h2 hk
    obtain ⟨k, rfl⟩ : ∃ q, k = q + 1 := ⟨k - 1, by omega⟩
    unfold ref10_Same.l1
    rw [decide_eq_false (by omega), cond_false]
  | succ m ih =>
    intro k i h0 h1 h2 hk
    obtain ⟨k, rfl⟩ : ∃ q, k = q + 1 := ⟨k - 1, by omega⟩
    unfold ref10_Same.l1
    rw [decide_eq_true (by omega), cond_true, at_w h0 (by omega), Option.bind_some, Option.bind_some, bne_self_eq_false, cond_false, w64_id (by omega) (by omega)]
    exact ih k (i + 1) (by omega) (by omega) (by omega) (by omega)
theorem same_ok {a : List Int} (hl : a.length = 738) {k : Nat} (hk : 740 ≤ k) : ref10_Same.f k a a = some true := by
  unfold ref10_Same.f
  rw [bne_self_eq_false, cond_false, same_l1 a (by omega) 738 k 0 (by decide) (by omega) (by omega) (by omega)]; rfl
theorem hd_rg {n : Int} (hn : 0 ≤ n) : ∀ {l : List Int}, (∀ x ∈ l, 0 ≤ x ∧ x < n) → 0 ≤ hd l ∧ hd l ≤ n
  | [], _ => ⟨by decide, hn⟩
  | a :: l, h => by have := h a List.mem_cons_self; show 0 ≤ a + 1 ∧ a + 1 ≤ n; omega
theorem nextOf_rg {n : Int} (hn : 0 ≤ n) (x : Int) : ∀ {l : List Int}, (∀ x ∈ l, 0 ≤ x ∧ x < n) → 0 ≤ nextOf l x ∧ nextOf l x ≤ n
  | [], _ => ⟨by show (0 : Int) ≤ 0; decide, hn⟩
  | a :: l, h => by
    unfold nextOf
    split
    · exact hd_rg hn fun y hy => h y (List.mem_cons_of_mem _ hy)
    · exact nextOf_rg hn x fun y hy => h y (List.mem_cons_of_mem _ hy)
theorem prv_rg {n : Int} (hn : 0 ≤ n) (x : Int) : ∀ {l : List Int} {a : Int}, 0 ≤ a → a ≤ n → (∀ x ∈ l, 0 ≤ x ∧ x < n) → 0 ≤ prv a l x ∧ prv a l x ≤ n
  | [], a, _, _, _ => ⟨by show (0 : Int) ≤ 0; decide, hn⟩
  | b :: l, a, h1, h2, h => by
    have := h b List.mem_cons_self
    unfold prv
    split
    · omega
    · exact prv_rg hn x (by omega) (by omega) fun y hy => h y (List.mem_cons_of_mem _ hy)
theorem la_rg {n : Int} (hn : 0 ≤ n) {l : List Int} (h : ∀ x ∈ l, 0 ≤ x ∧ x < n) : 0 ≤ la l ∧ la l ≤ n := by
  unfold la
  split
  · omega
  · rename_i t e
    have := h t (List.mem_of_getLast? e); omega
theorem nodup_len : ∀ (n : Nat) {l : List Int}, l.Nodup → (∀ x ∈ l, 0 ≤ x ∧ x < n) → l.length ≤ n
  | 0, l, _, h => by
    cases l with
    | nil => simp
    | cons a l => have := h a List.mem_cons_self; omega
  | n + 1, l, hn, h => by
    have h1 := nodup_len n (l := l.erase (n : Int)) (hn.erase _) fun x hx => by
      have := h x (List.mem_of_mem_erase hx)
      have : x ≠ (n : Int) := fun e => by subst e; exact (List.Nodup.not_mem_erase hn) hx
      omega
    have h2 := List.length_erase (a := (n : Int)) (l := l)
    split at h2 <;> omega
end Go.Proofs
/-! All words of a state, as the reference makes them. -/
set_option linter.unusedVariables false
namespace Go.Proofs
open Go.Sl
theorem set_at {q : List Int} (hl : q.length = 738) (i j v : Int) (hi : 0 ≤ i ∧ i < 738) (hj : 0 ≤ j) : (q.set i.toNat v).getD j.toNat 0 = if j = i then v else q.getD j.toNat 0 := by
  rw [getD_set]
  by_cases e : j = i
  · subst e; rw [if_pos ⟨rfl, by omega⟩, if_pos rfl]
  · rw [if_neg (by omega), if_neg e]
theorem rd_at {q : List Int} (hl : q.length = 738) {i : Int} (hi : 0 ≤ i ∧ i < 738) : at_ q i = some (q.getD i.toNat 0) := at_w hi.1 (by omega)
section
variable (i : Int) (x : ref10_Slot) (hi : 0 ≤ i ∧ i < 96) (hn : x.Kids.length ≤ 96) (hr : ∀ y ∈ x.Kids, 0 ≤ y ∧ y < 96)
include hi hn hr
theorem kids_ok : ∀ (rest dn : List Int) (a m : Int) (k : Nat) (q : List Int), x.Kids = dn ++ rest → m = dn.length → (dn = [] ∧ a = 0 ∨ ∃ d z, dn = d ++ [z] ∧ a = z + 1) → rest.length < k → q.length = 738 → rest.Nodup → (∀ y ∈ rest, q.getD (5 * y + 3).toNat 0 = 0 ∧ q.getD (5 * y + 4).toNat 0 = 0) →
    ∃ q', ref10_State_Words.l2 i x k (m, q) = some q' ∧ q'.length = 738 ∧ (∀ j : Int, 480 ≤ j → q'.getD j.toNat 0 = q.getD j.toNat 0) ∧
      ∀ s f, 0 ≤ s → s < 96 → 0 ≤ f → f < 5 → q'.getD (5 * s + f).toNat 0 = if f = 3 ∧ s ∈ rest then nextOf rest s else if f = 4 ∧ s ∈ rest then prv a rest s else if f = 2 ∧ s = i ∧ dn = [] ∧ rest ≠ [] then hd rest else q.getD (5 * s + f).toNat 0 := by
  intro rest
  induction rest with
  | nil =>
    intro dn a m k q hk hm ha hl hq hnd hz
    obtain ⟨k, rfl⟩ : ∃ z, k = z + 1 := ⟨k - 1, by simp at hl; omega⟩
    have : m = x.Kids.length := by rw [hk, hm]; simp
    unfold ref10_State_Words.l2
    rw [decide_eq_false (by omega), cond_false]
    exact ⟨q, rfl, hq, fun _ _ => rfl, fun s f _ _ _ _ => by simp⟩
  | cons y r ih =>
    intro dn a m k q hk hm ha hl hq hnd hz
    obtain ⟨k, rfl⟩ : ∃ z, k = z + 1 := ⟨k - 1, by simp at hl; omega⟩
    have hlen : (x.Kids.length : Int) = m + 1 + r.length := by rw [hk, hm]; simp; omega
    have hy := hr y (by rw [hk]; simp)
    have hym : at_ x.Kids m = some y := by
      unfold at_
      rw [decide_eq_true (by omega), cond_true, hk, hm, Int.toNat_natCast, List.getElem?_append_right (Nat.le_refl _)]; simp
    have hnd2 := List.nodup_cons.1 hnd
    unfold ref10_State_Words.l2
    rw [decide_eq_true (by omega), cond_true, hym, Option.bind_some]
    -- the first word
    have step1 : ∃ q1, (bif m == 0 then ((at_ q (w64 ((w64 (5 * i)) + 2))).bind fun x33 => some (q.set (w64 ((w64 (5 * i)) + 2)).toNat (wu64 (w64 (y + 1))))) else ((at_ x.Kids (w64 (m - 1))).bind fun x36 => (at_ q (w64 ((w64 (5 * y)) + 4))).bind fun x38 => some (q.set (w64 ((w64 (5 * y)) + 4)).toNat (wu64 (w64 (x36 + 1)))))) = some q1 ∧ q1.length = 738 ∧ ∀ j : Int, 0 ≤ j → q1.getD j.toNat 0 = if dn = [] ∧ j = 5 * i + 2 then y + 1 else if dn ≠ [] ∧ j = 5 * y + 4 then a else q.getD j.toNat 0 := by
      rcases ha with ⟨hd, rfl⟩ | ⟨d, z, hd, rfl⟩
      · have hm0 : (m == 0) = true := by simp [hm, hd]
        rw [hm0, cond_true, w64_id (x := 5 * i) (by omega) (by omega), w64_id (x := 5 * i + 2) (by omega) (by omega), rd_at hq (by omega), Option.bind_some, w64_id (by omega) (by omega), wu64_id (by omega) (by omega)]
        refine ⟨_, rfl, by simpa using hq, fun j hj => ?_⟩
        rw [set_at hq _ _ _ (by omega) hj]
        simp only [hd, true_and, ne_eq, not_true, false_and, if_false]
      · have hm0 : (m == 0) = false := by simp [hm, hd]; omega
        have hz := hr z (by rw [hk, hd]; simp)
        have hzm : at_ x.Kids (m - 1) = some z := by
          have hm1 : m - 1 = d.length := by rw [hm, hd]; simp
          unfold at_
          rw [decide_eq_true (by omega), cond_true, hk, hd, hm1, Int.toNat_natCast, List.append_assoc, List.getElem?_append_right (Nat.le_refl _)]; simp
        rw [hm0, cond_false, w64_id (x := m - 1) (by omega) (by omega), hzm, Option.bind_some, w64_id (x := 5 * y) (by omega) (by omega), w64_id (x := 5 * y + 4) (by omega) (by omega), rd_at hq (by omega), Option.bind_some, w64_id (by omega) (by omega), wu64_id (by omega) (by omega)]
        refine ⟨_, rfl, by simpa using hq, fun j hj => ?_⟩
        rw [set_at hq _ _ _ (by omega) hj]
        have : dn ≠ [] := by rw [hd]; simp
        simp only [this, false_and, if_false, ne_eq, not_false_eq_true, true_and]
    obtain ⟨q1, e1, l1, g1⟩ := step1
    rw [e1, Option.bind_some, w64_id (x := m + 1) (by omega) (by omega)]
    have ha' : (dn ++ [y] = [] ∧ y + 1 = 0 ∨ ∃ d z, dn ++ [y] = d ++ [z] ∧ y + 1 = z + 1) := .inr ⟨dn, y, rfl, rfl⟩
    have hk' : x.Kids = (dn ++ [y]) ++ r := by rw [hk]; simp
    cases r with
    | nil =>
      rw [decide_eq_false (by simp at hlen; omega), cond_false]
      obtain ⟨q', e2, l2, g2, g3⟩ := ih (dn ++ [y]) (y + 1) (m + 1) k q1 hk' (by simp [hm]) ha' (by simp at hl ⊢; omega) l1 List.nodup_nil (by simp)
      refine ⟨q', e2, l2, fun j hj => ?_, fun s f h1 h2 h3 h4 => ?_⟩
      · rw [g2 j hj, g1 j (by omega), if_neg (by omega), if_neg (by omega)]
      · rw [g3 s f h1 h2 h3 h4, g1 _ (by omega)]
        obtain ⟨z3, z4⟩ := hz y (by simp)
        simp only [List.not_mem_nil, and_false, if_false, List.mem_singleton, ne_eq, not_true, List.cons_ne_nil, not_false_eq_true, and_true, nextOf, prv, hd]
        by_cases hdn : dn = []
        · simp only [hdn, true_and, not_true, false_and, if_false]
          have ha0 : a = 0 := by
            rcases ha with ⟨_, h⟩ | ⟨d, z, h, _⟩
            · exact h
            · rw [hdn] at h; simp at h
          by_cases c1 : f = 3 ∧ s = y
          · obtain ⟨rfl, rfl⟩ := c1; rw [if_neg (by omega), if_pos ⟨rfl, rfl⟩, if_pos rfl, z3]
          · rw [if_neg c1]
            by_cases c2 : f = 4 ∧ s = y
            · obtain ⟨rfl, rfl⟩ := c2; rw [if_neg (by omega), if_pos ⟨rfl, rfl⟩, if_pos rfl, z4, ha0]
            · rw [if_neg c2]
              by_cases c3 : f = 2 ∧ s = i
              · rw [if_pos (by omega), if_pos (by simpa using c3)]
              · rw [if_neg (by omega), if_neg (by simpa using c3)]
        · simp only [hdn, false_and, if_false, not_false_eq_true, true_and, and_false]
          by_cases c1 : f = 3 ∧ s = y
          · obtain ⟨rfl, rfl⟩ := c1; rw [if_neg (by omega), if_pos ⟨rfl, rfl⟩, if_pos rfl, z3]
          · rw [if_neg c1]
            by_cases c2 : f = 4 ∧ s = y
            · obtain ⟨rfl, rfl⟩ := c2; rw [if_pos rfl, if_pos ⟨rfl, rfl⟩, if_pos rfl]
            · rw [if_neg c2, if_neg (by omega)]
    | cons u r =>
      have hu := hr u (by rw [hk]; simp)
      have hum : at_ x.Kids (m + 1) = some u := by
        unfold at_
        have hm1 : m + 1 = (dn ++ [y]).length := by rw [hm]; simp
        rw [decide_eq_true (by omega), cond_true, hk', hm1, Int.toNat_natCast, List.getElem?_append_right (Nat.le_refl _)]; simp
      rw [decide_eq_true (by simp at hlen; omega), cond_true, hum, Option.bind_some, w64_id (x := 5 * y) (by omega) (by omega), w64_id (x := 5 * y + 3) (by omega) (by omega), rd_at l1 (by omega), Option.bind_some, w64_id (x := u + 1) (by omega) (by omega), wu64_id (x := u + 1) (by omega) (by omega)]
      have l1' : (q1.set (5 * y + 3).toNat (u + 1)).length = 738 := by simpa using l1
      have G : ∀ j : Int, 0 ≤ j → (q1.set (5 * y + 3).toNat (u + 1)).getD j.toNat 0 = if j = 5 * y + 3 then u + 1 else if dn = [] ∧ j = 5 * i + 2 then y + 1 else if dn ≠ [] ∧ j = 5 * y + 4 then a else q.getD j.toNat 0 := fun j hj => by
        rw [set_at l1 _ _ _ (by omega) hj, g1 j hj]
      generalize q1.set (5 * y + 3).toNat (u + 1) = q2 at G l1'
      have hyr : ∀ w ∈ u :: r, w ≠ y := fun w hw e => by subst e; exact hnd2.1 hw
      obtain ⟨q', e2, l2, g2, g3⟩ := ih (dn ++ [y]) (y + 1) (m + 1) k q2 hk' (by simp [hm]) ha' (by simp at hl ⊢; omega) l1' hnd2.2 (fun w hw => by
        have hwr := hr w (by rw [hk]; simp only [List.mem_append, List.mem_cons]; right; right; simpa using hw)
        have h1 := hyr w hw
        obtain ⟨z3, z4⟩ := hz w (List.mem_cons_of_mem _ hw)
        rw [G _ (by omega), G _ (by omega), if_neg (by omega), if_neg (by omega), if_neg (by omega), if_neg (by omega), if_neg (by omega), if_neg (by omega)]
        exact ⟨z3, z4⟩)
      refine ⟨q', e2, l2, fun j hj => ?_, fun s f h1 h2 h3 h4 => ?_⟩
      · rw [g2 j hj, G j (by omega), if_neg (by omega), if_neg (by omega), if_neg (by omega)]
      · rw [g3 s f h1 h2 h3 h4, G _ (by omega)]
        obtain ⟨z3, z4⟩ := hz y (by simp)
        have en : nextOf (y :: u :: r) s = if s = y then u + 1 else nextOf (u :: r) s := rfl
        have ep : prv a (y :: u :: r) s = if s = y then a else prv (y + 1) (u :: r) s := rfl
        rw [en, ep]
        have hne : dn ++ [y] ≠ [] := by simp
        by_cases c3 : f = 3
        · subst c3
          by_cases c1 : s = y
          · subst c1
            have : s ∉ u :: r := hnd2.1
            rw [if_neg (fun h => this h.2), if_neg (fun h => this h.2), if_neg (by omega), if_pos rfl, if_pos ⟨rfl, List.mem_cons_self⟩, if_pos rfl]
          · by_cases c2 : s ∈ u :: r
            · rw [if_pos ⟨rfl, c2⟩, if_pos ⟨rfl, List.mem_cons_of_mem _ c2⟩, if_neg c1]
            · rw [if_neg (fun h => c2 h.2), if_neg (by omega), if_neg (by omega), if_neg (by omega), if_neg (by omega), if_neg (by omega), if_neg (fun h => by rcases List.mem_cons.1 h.2 with e | e; exact c1 e; exact c2 e), if_neg (by omega), if_neg (by omega)]
        · by_cases c4 : f = 4
          · subst c4
            by_cases c1 : s = y
            · subst c1
              have : s ∉ u :: r := hnd2.1
              rw [if_neg (by omega), if_neg (fun h => this h.2), if_neg (by omega), if_neg (by omega), if_neg (by omega)]
              by_cases hdn : dn = []
              · rw [if_neg (fun h => h.1 hdn), if_neg (by omega), if_pos ⟨rfl, List.mem_cons_self⟩, if_pos rfl]
                rcases ha with ⟨_, h⟩ | ⟨d, z, h, _⟩
                · rw [h]; exact z4
                · rw [hdn] at h; simp at h
              · rw [if_pos ⟨hdn, rfl⟩, if_neg (by omega), if_pos ⟨rfl, List.mem_cons_self⟩, if_pos rfl]
            · by_cases c2 : s ∈ u :: r
              · rw [if_neg (by omega), if_pos ⟨rfl, c2⟩, if_neg (by omega), if_pos ⟨rfl, List.mem_cons_of_mem _ c2⟩, if_neg c1]
              · rw [if_neg (by omega), if_neg (fun h => c2 h.2), if_neg (by omega), if_neg (by omega), if_neg (by omega), if_neg (by omega), if_neg (by omega), if_neg (fun h => by rcases List.mem_cons.1 h.2 with e | e; exact c1 e; exact c2 e), if_neg (by omega)]
          · rw [if_neg (fun h => c3 h.1), if_neg (fun h => c4 h.1), if_neg (fun h => hne h.2.2.1), if_neg (by omega)]
            by_cases c5 : f = 2 ∧ s = i ∧ dn = []
            · rw [if_pos ⟨c5.2.2, by omega⟩, if_neg (fun h => c3 h.1), if_neg (fun h => c4 h.1), if_pos ⟨c5.1, c5.2.1, c5.2.2, by simp⟩]; rfl
            · rw [if_neg (fun h => c5 ⟨by omega, by omega, h.1⟩), if_neg (by omega), if_neg (fun h => c3 h.1), if_neg (fun h => c4 h.1), if_neg (fun h => c5 ⟨h.1, h.2.1, h.2.2.1⟩)]
end
/-- All words that slots below i have set. -/
def SI (st : ref10_State) (i : Int) (q : List Int) : Prop :=
  (∀ j : Int, 480 ≤ j → q.getD j.toNat 0 = 0) ∧ ∀ s f, 0 ≤ s → s < 96 → 0 ≤ f → f < 5 → q.getD (5 * s + f).toNat 0 = if f < 3 then (if s < i then sl st s f else 0) else (if (slt st s).Parent < i then sl st s f else 0)
theorem slots_ok {st : ref10_State} (h : WF st) : ∀ (m k : Nat) (i : Int) (q : List Int), 0 ≤ i → i ≤ 96 → 96 - i = m → m + 100 < k → q.length = 738 → SI st i q → ∃ q', ref10_State_Words.l1 st k (i, q) = some q' ∧ q'.length = 738 ∧ SI st 96 q' := by
  intro m
  induction m with
  | zero =>
    intro k i q h0 h1 h2 hk hq hI
    obtain ⟨k, rfl⟩ : ∃ z, k = z + 1 := ⟨k - 1, by omega⟩
    obtain rfl : i = 96 := by omega
    unfold ref10_State_Words.l1
    rw [decide_eq_false (by omega), cond_false]
    exact ⟨q, rfl, hq, hI⟩
  | succ m ih =>
    intro k i q h0 h1 h2 hk hq hI
    obtain ⟨k, rfl⟩ : ∃ z, k = z + 1 := ⟨k - 1, by omega⟩
    have hi : 0 ≤ i ∧ i < 96 := by omega
    have hx : at_ st.Slots i = some (slt st i) := at_getD h0 (by rw [h.ls]; omega)
    have hc := word_ok (h.cap i h0 hi.2)
    have hp := h.par i h0 hi.2
    have hkr := fun y hy => h.kid i h0 hi.2 y hy
    have hkn := nodup_len 96 (h.nodk i h0 hi.2) (fun y hy => ⟨(hkr y hy).1, (hkr y hy).2.1⟩)
    unfold ref10_State_Words.l1
    rw [decide_eq_true (by omega), cond_true, hx, Option.bind_some, hc, Option.bind_some, w64_id (x := 5 * i) (by omega) (by omega), rd_at hq (by omega), Option.bind_some, w64_id (x := 5 * i + 1) (by omega) (by omega), rd_at (by simpa using hq) (by omega), Option.bind_some, w64_id (x := (slt st i).Parent + 1) (by omega) (by omega), wu64_id (x := (slt st i).Parent + 1) (by omega) (by omega)]
    have l2 : ((q.set (5 * i).toNat (capWord (slt st i).Cap)).set (5 * i + 1).toNat ((slt st i).Parent + 1)).length = 738 := by simpa using hq
    have G : ∀ j : Int, 0 ≤ j → ((q.set (5 * i).toNat (capWord (slt st i).Cap)).set (5 * i + 1).toNat ((slt st i).Parent + 1)).getD j.toNat 0 = if j = 5 * i + 1 then (slt st i).Parent + 1 else if j = 5 * i then capWord (slt st i).Cap else q.getD j.toNat 0 := fun j hj => by
      rw [set_at (by simpa using hq) _ _ _ (by omega) hj, set_at hq _ _ _ (by omega) hj]
    generalize (q.set (5 * i).toNat (capWord (slt st i).Cap)).set (5 * i + 1).toNat ((slt st i).Parent + 1) = q2 at G l2
    obtain ⟨q3, e3, l3, g3, g4⟩ := kids_ok i (slt st i) hi hkn (fun y hy => ⟨(hkr y hy).1, (hkr y hy).2.1⟩) (slt st i).Kids [] 0 0 k q2 rfl rfl (.inl ⟨rfl, rfl⟩) (by omega) l2 (h.nodk i h0 hi.2) (fun y hy => by
      obtain ⟨y1, y2, y3⟩ := hkr y hy
      rw [G _ (by omega), G _ (by omega), if_neg (by omega), if_neg (by omega), if_neg (by omega), if_neg (by omega), hI.2 y 3 y1 y2 (by decide) (by decide), hI.2 y 4 y1 y2 (by decide) (by decide), y3]
      simp)
    rw [e3, Option.bind_some]
    try simp only []
    rw [w64_id (by omega) (by omega)]
    refine ih k (i + 1) q3 (by omega) (by omega) (by omega) (by omega) l3 ⟨fun j hj => ?_, fun s f s1 s2 f1 f2 => ?_⟩
    · rw [g3 j hj, G j (by omega), if_neg (by omega), if_neg (by omega)]; exact hI.1 j hj
    · rw [g4 s f s1 s2 f1 f2, G _ (by omega), hI.2 s f s1 s2 f1 f2]
      by_cases c : s ∈ (slt st i).Kids
      · obtain ⟨_, _, y3⟩ := hkr s c
        by_cases c3 : f = 3
        · subst c3
          rw [if_pos ⟨rfl, c⟩, if_neg (by omega), if_pos (by omega)]
          unfold sl
          rw [if_neg (by omega), if_neg (by omega), if_neg (by omega), y3, if_pos h0, if_pos rfl]
        · by_cases c4 : f = 4
          · subst c4
            rw [if_neg (by omega), if_pos ⟨rfl, c⟩, if_neg (by omega), if_pos (by omega)]
            unfold sl
            rw [if_neg (by omega), if_neg (by omega), if_neg (by omega), y3, if_pos h0, if_neg (by omega)]
          · rw [if_neg (fun q => c3 q.1), if_neg (fun q => c4 q.1), if_pos (show f < 3 by omega), if_pos (show f < 3 by omega)]
            by_cases e : s = i
            · subst e
              rw [if_pos (show s < s + 1 by omega)]
              unfold sl
              by_cases f0 : f = 0
              · subst f0; rw [if_neg (by omega), if_neg (by omega), if_pos (by omega), if_pos rfl]
              · by_cases f1 : f = 1
                · subst f1; rw [if_neg (by omega), if_pos (by omega), if_neg (by omega), if_pos rfl]
                · obtain rfl : f = 2 := by omega
                  have : (slt st s).Kids ≠ [] := fun q => by rw [q] at c; simp at c
                  rw [if_pos ⟨rfl, rfl, rfl, this⟩, if_neg (by omega), if_neg (by omega), if_pos rfl]
            · rw [if_neg (by omega), if_neg (by omega), if_neg (by omega)]
              by_cases e2 : s < i
              · rw [if_pos e2, if_pos (by omega)]
              · rw [if_neg e2, if_neg (by omega)]
      · rw [if_neg (fun q => c q.2), if_neg (fun q => c q.2)]
        by_cases f3 : f < 3
        · rw [if_pos f3, if_pos f3]
          by_cases e : s = i
          · subst e
            unfold sl
            rw [if_neg (by omega : ¬ s < s), if_pos (by omega : s < s + 1)]
            by_cases f0 : f = 0
            · subst f0; rw [if_neg (by omega), if_neg (by omega), if_pos (by omega), if_pos rfl]
            · by_cases f1 : f = 1
              · subst f1; rw [if_neg (by omega), if_pos (by omega), if_neg (by omega), if_pos rfl]
              · obtain rfl : f = 2 := by omega
                rw [if_neg f0, if_neg f1, if_pos rfl]
                by_cases hk0 : (slt st s).Kids = []
                · rw [if_neg (fun q => q.2.2.2 hk0), if_neg (by omega), if_neg (by omega), hk0]; rfl
                · rw [if_pos ⟨rfl, rfl, rfl, hk0⟩]
          · rw [if_neg (fun q => e q.2.1), if_neg (by omega), if_neg (by omega)]
            by_cases e2 : s < i
            · rw [if_pos e2, if_pos (by omega)]
            · rw [if_neg e2, if_neg (by omega)]
        · rw [if_neg f3, if_neg f3, if_neg (by omega), if_neg (by omega), if_neg (by omega)]
          have : (slt st s).Parent ≠ i := fun e => by
            have := h.all s s1 s2 (by omega)
            rw [e] at this; exact c this
          by_cases e2 : (slt st s).Parent < i
          · rw [if_pos e2, if_pos (by omega)]
          · rw [if_neg e2, if_neg (by omega)]
end Go.Proofs
/-! All words of a state: the objects. -/
set_option linter.unusedVariables false
namespace Go.Proofs
open Go.Sl
theorem pages_ok (i : Int) (x : ref10_Obj) (hi : 0 ≤ i ∧ i < 32) (hx : OW x) : ∀ (m k : Nat) (p : Int) (q : List Int), 0 ≤ p → p ≤ 4 → 4 - p = m → m < k → q.length = 738 →
    ∃ q', ref10_State_Words.l6 i x k (p, q) = some q' ∧ q'.length = 738 ∧ ∀ j : Int, 0 ≤ j → q'.getD j.toNat 0 = if 480 + 8 * i + 1 + p ≤ j ∧ j < 480 + 8 * i + 5 ∧ 0 ≤ x.Pages.nth (j - (480 + 8 * i + 1)) then pgw x (j - (480 + 8 * i + 1)) else q.getD j.toNat 0 := by
  intro m
  induction m with
  | zero =>
    intro k p q h0 h1 h2 hk hq
    obtain ⟨k, rfl⟩ : ∃ z, k = z + 1 := ⟨k - 1, by omega⟩
    obtain rfl : p = 4 := by omega
    unfold ref10_State_Words.l6
    rw [decide_eq_false (by omega), cond_false]
    exact ⟨q, rfl, hq, fun j hj => by rw [if_neg (by omega)]⟩
  | succ m ih =>
    intro k p q h0 h1 h2 hk hq
    obtain ⟨k, rfl⟩ : ∃ z, k = z + 1 := ⟨k - 1, by omega⟩
    have a1 := hx.pages p h0 (by omega)
    have a2 := hx.right p h0 (by omega)
    unfold ref10_State_Words.l6
    rw [decide_eq_true (by omega), cond_true, A4.get_nth _ (by omega), Option.bind_some, w64_id (x := p + 1) (by omega) (by omega)]
    by_cases c : 0 ≤ x.Pages.nth p
    · rw [decide_eq_true c, cond_true, Option.bind_some, A4.get_nth _ (by omega), Option.bind_some, w64_id (x := 8 * i) (by omega) (by omega), w64_id (x := 480 + 8 * i) (by omega) (by omega), w64_id (x := 480 + 8 * i + 1) (by omega) (by omega), w64_id (x := 480 + 8 * i + 1 + p) (by omega) (by omega), rd_at hq (by omega), Option.bind_some,
        w64_id (x := x.Pages.nth p + 1) (by omega) (by omega), w64_id (x := 8 * (x.Pages.nth p + 1)) (by omega) (by omega), w64_id (x := 8 * (x.Pages.nth p + 1) + x.Right.nth p) (by omega) (by omega), wu64_id (by omega) (by omega)]
      obtain ⟨q', e, l, g⟩ := ih k (p + 1) (q.set (480 + 8 * i + 1 + p).toNat (8 * (x.Pages.nth p + 1) + x.Right.nth p)) (by omega) (by omega) (by omega) (by omega) (by simpa using hq)
      refine ⟨q', e, l, fun j hj => ?_⟩
      rw [g j hj, set_at hq _ _ _ (by omega) hj]
      by_cases e1 : j = 480 + 8 * i + 1 + p
      · subst e1
        rw [if_neg (by omega), if_pos rfl, show 480 + 8 * i + 1 + p - (480 + 8 * i + 1) = p by omega, if_pos ⟨by omega, by omega, c⟩]
        unfold pgw; rw [if_pos c]
      · rw [if_neg e1]
        by_cases e2 : 480 + 8 * i + 1 + p ≤ j ∧ j < 480 + 8 * i + 5 ∧ 0 ≤ x.Pages.nth (j - (480 + 8 * i + 1))
        · rw [if_pos e2, if_pos ⟨by omega, e2.2⟩]
        · rw [if_neg e2, if_neg (fun h => e2 ⟨by omega, h.2⟩)]
    · rw [decide_eq_false c, cond_false]
      obtain ⟨q', e, l, g⟩ := ih k (p + 1) q (by omega) (by omega) (by omega) (by omega) hq
      refine ⟨q', e, l, fun j hj => ?_⟩
      rw [g j hj]
      by_cases e1 : j = 480 + 8 * i + 1 + p
      · subst e1
        rw [if_neg (by omega), if_neg]
        rw [show 480 + 8 * i + 1 + p - (480 + 8 * i + 1) = p by omega]
        exact fun h => c h.2.2
      · by_cases e2 : 480 + 8 * i + 1 + p ≤ j ∧ j < 480 + 8 * i + 5 ∧ 0 ≤ x.Pages.nth (j - (480 + 8 * i + 1))
        · rw [if_pos e2, if_pos ⟨by omega, e2.2⟩]
        · rw [if_neg e2, if_neg (fun h => e2 ⟨by omega, h.2⟩)]
section
variable (i : Int) (x : ref10_Obj) (hi : 0 ≤ i ∧ i < 32) (hn : x.Queue.length ≤ 32) (hr : ∀ y ∈ x.Queue, 0 ≤ y ∧ y < 32 ∧ y ≠ i)
include hi hn hr
theorem queue_ok : ∀ (rest dn : List Int) (m : Int) (k : Nat) (q : List Int), x.Queue = dn ++ rest → m = dn.length → rest.length < k → q.length = 738 → rest.Nodup → (∀ y ∈ rest, q.getD (480 + 8 * y + 2).toNat 0 = 0) →
    ∃ q', ref10_State_Words.l7 i x k (m, q) = some q' ∧ q'.length = 738 ∧ (∀ j : Int, 0 ≤ j → j < 480 ∨ 736 ≤ j → q'.getD j.toNat 0 = q.getD j.toNat 0) ∧
      ∀ s f, 0 ≤ s → s < 32 → 0 ≤ f → f < 8 → q'.getD (480 + 8 * s + f).toNat 0 = if f = 2 ∧ s ∈ rest then nextOf rest s else if f = 2 ∧ s = i ∧ dn = [] ∧ rest ≠ [] then hd rest else if f = 3 ∧ s = i ∧ rest ≠ [] then la rest else q.getD (480 + 8 * s + f).toNat 0 := by
  intro rest
  induction rest with
  | nil =>
    intro dn m k q hk hm hl hq hnd hz
    obtain ⟨k, rfl⟩ : ∃ z, k = z + 1 := ⟨k - 1, by simp at hl; omega⟩
    have : m = x.Queue.length := by rw [hk, hm]; simp
    unfold ref10_State_Words.l7
    rw [decide_eq_false (by omega), cond_false]
    exact ⟨q, rfl, hq, fun _ _ _ => rfl, fun s f _ _ _ _ => by simp⟩
  | cons y r ih =>
    intro dn m k q hk hm hl hq hnd hz
    obtain ⟨k, rfl⟩ : ∃ z, k = z + 1 := ⟨k - 1, by simp at hl; omega⟩
    have hlen : (x.Queue.length : Int) = m + 1 + r.length := by rw [hk, hm]; simp; omega
    have hy := hr y (by rw [hk]; simp)
    have hym : at_ x.Queue m = some y := by
      unfold at_
      rw [decide_eq_true (by omega), cond_true, hk, hm, Int.toNat_natCast, List.getElem?_append_right (Nat.le_refl _)]; simp
    have hnd2 := List.nodup_cons.1 hnd
    unfold ref10_State_Words.l7
    rw [decide_eq_true (by omega), cond_true, hym, Option.bind_some, w64_id (x := 8 * i) (by omega) (by omega), w64_id (x := 480 + 8 * i) (by omega) (by omega), w64_id (x := 480 + 8 * i + 2) (by omega) (by omega), w64_id (x := 480 + 8 * i + 3) (by omega) (by omega)]
    have step1 : ∃ q1, (bif m == 0 then ((at_ q (480 + 8 * i + 2)).bind fun x151 => some (q.set (480 + 8 * i + 2).toNat (wu64 (w64 (y + 1))))) else (some q)) = some q1 ∧ q1.length = 738 ∧ ∀ j : Int, 0 ≤ j → q1.getD j.toNat 0 = if dn = [] ∧ j = 480 + 8 * i + 2 then y + 1 else q.getD j.toNat 0 := by
      by_cases hdn : dn = []
      · have hm0 : (m == 0) = true := by simp [hm, hdn]
        rw [hm0, cond_true, rd_at hq (by omega), Option.bind_some, w64_id (by omega) (by omega), wu64_id (by omega) (by omega)]
        refine ⟨_, rfl, by simpa using hq, fun j hj => ?_⟩
        rw [set_at hq _ _ _ (by omega) hj]
        simp only [hdn, true_and]
      · have hm0 : (m == 0) = false := by
          have : 0 < dn.length := List.length_pos_iff.2 hdn
          simp [hm]; exact hdn
        rw [hm0, cond_false]
        exact ⟨_, rfl, hq, fun j hj => by rw [if_neg (fun h => hdn h.1)]⟩
    obtain ⟨q1, e1, l1, g1⟩ := step1
    rw [e1, Option.bind_some, w64_id (x := m + 1) (by omega) (by omega)]
    have hk' : x.Queue = (dn ++ [y]) ++ r := by rw [hk]; simp
    have hne : dn ++ [y] ≠ [] := by simp
    cases r with
    | nil =>
      rw [decide_eq_false (by simp at hlen; omega), cond_false, rd_at l1 (by omega), Option.bind_some, w64_id (x := y + 1) (by omega) (by omega), wu64_id (x := y + 1) (by omega) (by omega)]
      obtain ⟨q', e2, l2, g2, g3⟩ := ih (dn ++ [y]) (m + 1) k (q1.set (480 + 8 * i + 3).toNat (y + 1)) hk' (by simp [hm]) (by simp at hl ⊢; omega) (by simpa using l1) List.nodup_nil (by simp)
      refine ⟨q', e2, l2, fun j hj hj2 => ?_, fun s f h1 h2 h3 h4 => ?_⟩
      · rw [g2 j hj hj2, set_at l1 _ _ _ (by omega) hj, if_neg (by omega), g1 j hj, if_neg (by omega)]
      · rw [g3 s f h1 h2 h3 h4, set_at l1 _ _ _ (by omega) (by omega), g1 _ (by omega)]
        have z2 := hz y (by simp)
        have el : la [y] = y + 1 := rfl
        rw [el]
        simp only [List.not_mem_nil, and_false, if_false, List.mem_singleton, ne_eq, not_true, List.cons_ne_nil, not_false_eq_true, and_true, nextOf, hd]
        by_cases c1 : f = 2 ∧ s = y
        · obtain ⟨rfl, rfl⟩ := c1; rw [if_neg (by omega), if_neg (by omega), if_pos ⟨rfl, rfl⟩, if_pos rfl, z2]
        · rw [if_neg c1]
          by_cases c2 : f = 3 ∧ s = i
          · rw [if_pos (by omega), if_neg (by omega), if_pos c2]
          · rw [if_neg (by omega : ¬ (480 + 8 * s + f = 480 + 8 * i + 3))]
            by_cases c3 : f = 2 ∧ s = i ∧ dn = []
            · rw [if_pos ⟨c3.2.2, by omega⟩, if_pos c3]
            · rw [if_neg (fun h => c3 ⟨by omega, by omega, h.1⟩), if_neg c3, if_neg c2]
    | cons u r =>
      have hu := hr u (by rw [hk]; simp)
      have hum : at_ x.Queue (m + 1) = some u := by
        unfold at_
        have hm1 : m + 1 = (dn ++ [y]).length := by rw [hm]; simp
        rw [decide_eq_true (by omega), cond_true, hk', hm1, Int.toNat_natCast, List.getElem?_append_right (Nat.le_refl _)]; simp
      rw [decide_eq_true (by simp at hlen; omega), cond_true, hum, Option.bind_some, w64_id (x := 8 * y) (by omega) (by omega), w64_id (x := 480 + 8 * y) (by omega) (by omega), w64_id (x := 480 + 8 * y + 2) (by omega) (by omega), rd_at l1 (by omega), Option.bind_some, w64_id (x := u + 1) (by omega) (by omega), wu64_id (x := u + 1) (by omega) (by omega)]
      have l1' : (q1.set (480 + 8 * y + 2).toNat (u + 1)).length = 738 := by simpa using l1
      have G : ∀ j : Int, 0 ≤ j → (q1.set (480 + 8 * y + 2).toNat (u + 1)).getD j.toNat 0 = if j = 480 + 8 * y + 2 then u + 1 else if dn = [] ∧ j = 480 + 8 * i + 2 then y + 1 else q.getD j.toNat 0 := fun j hj => by
        rw [set_at l1 _ _ _ (by omega) hj, g1 j hj]
      generalize q1.set (480 + 8 * y + 2).toNat (u + 1) = q2 at G l1'
      have hyr : ∀ w ∈ u :: r, w ≠ y := fun w hw e => by subst e; exact hnd2.1 hw
      obtain ⟨q', e2, l2, g2, g3⟩ := ih (dn ++ [y]) (m + 1) k q2 hk' (by simp [hm]) (by simp at hl ⊢; omega) l1' hnd2.2 (fun w hw => by
        have hwr := hr w (by rw [hk]; simp only [List.mem_append, List.mem_cons]; right; right; simpa using hw)
        have h1 := hyr w hw
        rw [G _ (by omega), if_neg (by omega), if_neg (by omega)]
        exact hz w (List.mem_cons_of_mem _ hw))
      refine ⟨q', e2, l2, fun j hj hj2 => ?_, fun s f h1 h2 h3 h4 => ?_⟩
      · rw [g2 j hj hj2, G j hj, if_neg (by omega), if_neg (by omega)]
      · rw [g3 s f h1 h2 h3 h4, G _ (by omega)]
        have en : nextOf (y :: u :: r) s = if s = y then u + 1 else nextOf (u :: r) s := rfl
        have el : la (y :: u :: r) = la (u :: r) := by unfold la; rw [List.getLast?_cons_cons]
        rw [en, el]
        by_cases f2 : f = 2
        · subst f2
          by_cases c1 : s = y
          · subst c1
            have : s ∉ u :: r := hnd2.1
            rw [if_neg (fun h => this h.2), if_neg (fun h => hne h.2.2.1), if_neg (by omega), if_pos rfl, if_pos ⟨rfl, List.mem_cons_self⟩, if_pos rfl]
          · by_cases c2 : s ∈ u :: r
            · rw [if_pos ⟨rfl, c2⟩, if_pos ⟨rfl, List.mem_cons_of_mem _ c2⟩, if_neg c1]
            · rw [if_neg (fun h => c2 h.2), if_neg (fun h => hne h.2.2.1), if_neg (by omega), if_neg (by omega)]
              by_cases c5 : s = i ∧ dn = []
              · rw [if_pos ⟨c5.2, by omega⟩, if_neg (fun h => by rcases List.mem_cons.1 h.2 with e | e; exact c1 e; exact c2 e), if_pos ⟨rfl, c5.1, c5.2, by simp⟩]; rfl
              · rw [if_neg (fun h => c5 ⟨by omega, h.1⟩), if_neg (fun h => by rcases List.mem_cons.1 h.2 with e | e; exact c1 e; exact c2 e), if_neg (fun h => c5 ⟨h.2.1, h.2.2.1⟩), if_neg (by omega)]
        · rw [if_neg (fun h => f2 h.1), if_neg (fun h => f2 h.1)]
          by_cases c5 : f = 3 ∧ s = i
          · rw [if_pos ⟨c5.1, c5.2, by simp⟩, if_neg (fun h => f2 h.1), if_neg (fun h => f2 h.1), if_pos ⟨c5.1, c5.2, by simp⟩]
          · rw [if_neg (fun h => c5 ⟨h.1, h.2.1⟩), if_neg (by omega), if_neg (by omega), if_neg (fun h => f2 h.1), if_neg (fun h => f2 h.1), if_neg (fun h => c5 ⟨h.1, h.2.1⟩)]
end
end Go.Proofs
/-! All words of a state: the whole. -/
set_option linter.unusedVariables false
namespace Go.Proofs
open Go.Sl
theorem own0 {o : ref10_Obj} (K : o.Kind = 0) (f : Int) : own o f = if f = 0 then 0 else 0 := by unfold own; simp [K]
theorem own1 {o : ref10_Obj} (K : o.Kind = 1) (f : Int) : own o f = if f = 0 then 1 else if f = 1 then o.Size else if f = 2 then o.Used else 0 := by unfold own; simp [K]
theorem own2 {o : ref10_Obj} (K : o.Kind = 2) (f : Int) : own o f = if f = 0 then 2 else if f = 1 then o.First else if f = 2 then o.Radix else 0 := by unfold own; simp [K]
theorem own3 {o : ref10_Obj} (K : o.Kind = 3) (f : Int) : own o f = if f = 0 then 3 else if f = 1 then o.Wait else 0 := by unfold own; simp [K]
theorem own4 {o : ref10_Obj} (K : o.Kind = 4) (f : Int) : own o f = if f = 0 then 4 else if f = 1 then o.Word else 0 := by unfold own; simp [K]
theorem own5 {o : ref10_Obj} (K : o.Kind = 5) (f : Int) : own o f = if f = 0 then 5 else if f = 1 then o.State else if f = 2 then o.Owing + 1 else if f = 3 then o.Word else if f = 4 then o.Badge else if f = 5 then o.Prio + 256 * (o.On + 1) else if f = 6 then o.Owes + 1 else capWord o.Root := by unfold own; simp [K]
theorem own6 {o : ref10_Obj} (K : o.Kind = 6) (f : Int) : own o f = if f = 0 then 6 else if f = 1 then o.In + 1 else if f = 2 then o.Page else 0 := by unfold own; simp [K]
theorem own7 {o : ref10_Obj} (K : o.Kind = 7) (f : Int) : own o f = if f = 0 then 7 else if 1 ≤ f ∧ f ≤ 4 then pgw o (f - 1) else 0 := by unfold own; simp [K]
theorem own8 {o : ref10_Obj} (K : o.Kind = 8) (f : Int) : own o f = if f = 0 then 8 else if f = 1 then o.Bound + 1 else if f = 2 then o.Badge else if f = 3 then o.Mask else 0 := by unfold own; simp [K]
theorem eqa (a b c : Int) : (a + b = a + c) = (b = c) := by apply propext; omega
theorem eqc (a b : Int) : (a = a + b) = (b = 0) := by apply propext; omega
theorem eqb (a b : Int) : (a + b = a) = (b = 0) := by apply propext; omega
def OI (st : ref10_State) (i : Int) (b q : List Int) : Prop :=
  (∀ j : Int, 0 ≤ j → j < 480 ∨ 736 ≤ j → q.getD j.toNat 0 = b.getD j.toNat 0) ∧ ∀ s f, 0 ≤ s → s < 32 → 0 ≤ f → f < 8 → q.getD (480 + 8 * s + f).toNat 0 = if f = 2 ∧ (obt st s).Kind = 5 ∧ 0 ≤ (obt st s).On then (if (obt st s).On < i then ob st s 2 else 0) else if s < i then ob st s f else 0
set_option maxHeartbeats 2000000 in
theorem objs_ok {st : ref10_State} (h : WF st) (b : List Int) : ∀ (m k : Nat) (i : Int) (q : List Int), 0 ≤ i → i ≤ 32 → 32 - i = m → m + 100 < k → q.length = 738 → OI st i b q → ∃ q', ref10_State_Words.l4 st k (i, q) = some q' ∧ q'.length = 738 ∧ OI st 32 b q' := by
  intro m
  induction m with
  | zero =>
    intro k i q h0 h1 h2 hk hq hI
    obtain ⟨k, rfl⟩ : ∃ z, k = z + 1 := ⟨k - 1, by omega⟩
    obtain rfl : i = 32 := by omega
    unfold ref10_State_Words.l4
    rw [decide_eq_false (by omega), cond_false]
    exact ⟨q, rfl, hq, hI⟩
  | succ m ih =>
    intro k i q h0 h1 h2 hk hq hI
    obtain ⟨k, rfl⟩ : ∃ z, k = z + 1 := ⟨k - 1, by omega⟩
    have hi : 0 ≤ i ∧ i < 32 := by omega
    have hx : at_ st.Objs i = some (obt st i) := at_getD h0 (by rw [h.lo]; omega)
    have hw := h.obj i h0 hi.2
    have hqr := fun y hy => h.que i h0 hi.2 y hy
    have hqk := h.qk i h0 hi.2
    have hne : ∀ y ∈ (obt st i).Queue, 0 ≤ y ∧ y < 32 ∧ y ≠ i := fun y hy => by
      obtain ⟨y1, y2, y3, y4, y5⟩ := hqr y hy
      have := hqk (List.ne_nil_of_mem hy)
      refine ⟨y1, y2, fun e => ?_⟩
      rw [e] at y3; omega
    have hqn := nodup_len 32 (h.nodq i h0 hi.2) (fun y hy => ⟨(hne y hy).1, (hne y hy).2.1⟩)
    -- what follows the object's own words
    have cont : ∀ q5 : List Int, q5.length = 738 → (∀ j : Int, 0 ≤ j → q5.getD j.toNat 0 = if 480 + 8 * i ≤ j ∧ j < 488 + 8 * i then own (obt st i) (j - (480 + 8 * i)) + (if j = 480 + 8 * i + 2 ∧ (obt st i).Kind = 5 then q.getD j.toNat 0 else 0) else q.getD j.toNat 0) →
        ∃ q', ((ref10_State_Words.l7 i (obt st i) k (0, q5)).bind fun qv5_e7 => ref10_State_Words.l4 st k (w64 (i + 1), qv5_e7)) = some q' ∧ q'.length = 738 ∧ OI st 32 b q' := by
      intro q5 l5 G
      obtain ⟨q', e2, l2, g2, g3⟩ := queue_ok i (obt st i) hi hqn hne (obt st i).Queue [] 0 k q5 rfl rfl (by omega) l5 (h.nodq i h0 hi.2) (fun y hy => by
        obtain ⟨y1, y2, y3, y4, y5⟩ := hqr y hy
        have := (hne y hy).2.2
        rw [G _ (by omega), if_neg (by omega), hI.2 y 2 y1 y2 (by decide) (by decide), if_pos ⟨rfl, y3, by omega⟩, if_neg (by omega)])
      rw [e2, Option.bind_some]
      try simp only []
      rw [w64_id (by omega) (by omega)]
      refine ih k (i + 1) q' (by omega) (by omega) (by omega) (by omega) l2 ⟨fun j hj hj2 => ?_, fun s f s1 s2 f1 f2 => ?_⟩
      · rw [g2 j hj hj2, G j hj, if_neg (by omega)]; exact hI.1 j hj hj2
      · rw [g3 s f s1 s2 f1 f2, G _ (by omega)]
        have hIs := hI.2 s f s1 s2 f1 f2
        by_cases c : f = 2 ∧ s ∈ (obt st i).Queue
        · obtain ⟨y1, y2, y3, y4, y5⟩ := hqr s c.2
          rw [if_pos c, if_pos ⟨c.1, y3, by omega⟩, if_pos (by omega)]
          unfold ob
          rw [if_pos ⟨rfl, y3, by omega⟩, y4]
        · rw [if_neg c]
          by_cases e : s = i
          · subst e
            rw [if_pos (show 480 + 8 * s ≤ 480 + 8 * s + f ∧ 480 + 8 * s + f < 488 + 8 * s by omega), show 480 + 8 * s + f - (480 + 8 * s) = f by omega]
            by_cases k5 : f = 2 ∧ (obt st s).Kind = 5
            · have hq0 : (obt st s).Queue = [] := by
                rcases Classical.em ((obt st s).Queue = []) with z | z
                · exact z
                · have := hqk z; omega
              obtain ⟨rfl, k5⟩ := k5
              rw [if_neg (fun z => z.2.2.2 hq0), if_neg (fun z => z.2.2 hq0), if_pos ⟨by omega, k5⟩, hIs]
              have eo : own (obt st s) 2 = (obt st s).Owing + 1 := by
                unfold own; simp [k5]
              rw [eo]
              by_cases on : 0 ≤ (obt st s).On
              · have hm := h.onq s h0 hi.2 k5 on
                have hon := hw.on
                have how := (h.que _ on hon.2 s hm).2.2.2.2
                rw [if_pos ⟨rfl, k5, on⟩, how]
                have hno : (obt st s).On ≠ s := fun z => by rw [z] at hm; exact c ⟨rfl, hm⟩
                by_cases lt : (obt st s).On < s
                · rw [if_pos lt, if_pos ⟨rfl, k5, on⟩, if_pos (by omega)]; omega
                · rw [if_neg lt, if_pos ⟨rfl, k5, on⟩, if_neg (by omega)]; rfl
              · rw [if_neg (fun z => on z.2.2), if_neg (by omega), if_neg (fun z => on z.2.2), if_pos (by omega)]
                unfold ob
                rw [if_neg (fun z => on z.2.2), if_neg (fun z => z.2 hq0), if_neg (by omega), eo]; omega
            · have eR : (if f = 2 ∧ (obt st s).Kind = 5 ∧ 0 ≤ (obt st s).On then (if (obt st s).On < s + 1 then ob st s 2 else 0) else if s < s + 1 then ob st s f else 0) = ob st s f := by
                rw [if_neg (fun z => k5 ⟨z.1, z.2.1⟩), if_pos (by omega)]
              have eo : ob st s f = if f = 2 ∧ (obt st s).Queue ≠ [] then hd (obt st s).Queue else if f = 3 ∧ (obt st s).Queue ≠ [] then la (obt st s).Queue else own (obt st s) f := by
                unfold ob; rw [if_neg (fun z => k5 ⟨z.1, z.2.1⟩)]
              rw [eR, eo]
              by_cases c2 : f = 2 ∧ (obt st s).Queue ≠ []
              · rw [if_pos ⟨c2.1, rfl, rfl, c2.2⟩, if_pos c2]
              · rw [if_neg (fun z => c2 ⟨z.1, z.2.2.2⟩), if_neg c2]
                by_cases c3 : f = 3 ∧ (obt st s).Queue ≠ []
                · rw [if_pos ⟨c3.1, rfl, c3.2⟩, if_pos c3]
                · rw [if_neg (fun z => c3 ⟨z.1, z.2.2⟩), if_neg c3, if_neg (fun z => k5 ⟨by omega, z.2⟩)]; omega
          · rw [if_neg (fun z => e z.2.1), if_neg (fun z => e z.2.1), if_neg (by omega), hIs]
            by_cases k5 : f = 2 ∧ (obt st s).Kind = 5 ∧ 0 ≤ (obt st s).On
            · rw [if_pos k5, if_pos k5]
              have hno : (obt st s).On ≠ i := fun z => by
                have hm := h.onq s s1 s2 k5.2.1 k5.2.2
                rw [z] at hm; exact c ⟨k5.1, hm⟩
              by_cases lt : (obt st s).On < i
              · rw [if_pos lt, if_pos (by omega)]
              · rw [if_neg lt, if_neg (by omega)]
            · rw [if_neg k5, if_neg k5]
              by_cases lt : s < i
              · rw [if_pos lt, if_pos (by omega)]
              · rw [if_neg lt, if_neg (by omega)]
    have hz : ∀ f, 0 ≤ f → f < 8 → ¬ (f = 2 ∧ (obt st i).Kind = 5) → q.getD (480 + 8 * i + f).toNat 0 = 0 := fun f f1 f2 hf => by
      rw [hI.2 i f h0 hi.2 f1 f2, if_neg (fun z => hf ⟨z.1, z.2.1⟩), if_neg (by omega)]
    have hc2 : 0 ≤ q.getD (480 + 8 * i + 2).toNat 0 ∧ q.getD (480 + 8 * i + 2).toNat 0 ≤ 32 := by
      rw [hI.2 i 2 h0 hi.2 (by decide) (by decide)]
      by_cases c : (obt st i).Kind = 5 ∧ 0 ≤ (obt st i).On
      · rw [if_pos ⟨rfl, c⟩]
        split
        · unfold ob
          rw [if_pos ⟨rfl, c⟩]
          exact nextOf_rg (by decide) _ fun y hy => by
            have := h.que _ c.2 hw.on.2 y hy; omega
        · decide
      · rw [if_neg (fun z => c z.2), if_neg (by omega)]; decide
    unfold ref10_State_Words.l4
    rw [decide_eq_true (by omega), cond_true, hx, Option.bind_some]
    have p0 : w64 (480 + w64 (8 * i)) = 480 + 8 * i := by rw [w64_id (x := 8 * i) (by omega) (by omega), w64_id (by omega) (by omega)]
    have p1 : w64 (480 + 8 * i + 1) = 480 + 8 * i + 1 := w64_id (by omega) (by omega)
    have p2 : w64 (480 + 8 * i + 2) = 480 + 8 * i + 2 := w64_id (by omega) (by omega)
    have p3 : w64 (480 + 8 * i + 3) = 480 + 8 * i + 3 := w64_id (by omega) (by omega)
    have p4 : w64 (480 + 8 * i + 4) = 480 + 8 * i + 4 := w64_id (by omega) (by omega)
    have p5 : w64 (480 + 8 * i + 5) = 480 + 8 * i + 5 := w64_id (by omega) (by omega)
    have p6 : w64 (480 + 8 * i + 6) = 480 + 8 * i + 6 := w64_id (by omega) (by omega)
    have p7 : w64 (480 + 8 * i + 7) = 480 + 8 * i + 7 := w64_id (by omega) (by omega)
    have A : ∀ (q' : List Int) (c : Int), q'.length = 738 → 0 ≤ c → c < 8 → at_ q' (480 + 8 * i + c) = some (q'.getD (480 + 8 * i + c).toNat 0) := fun q' c z c0 c1 => rd_at z (by omega)
    have A0 : at_ q (480 + 8 * i) = some (q.getD (480 + 8 * i).toNat 0) := rd_at hq (by omega)
    have S : ∀ (q' : List Int) (c v j : Int), q'.length = 738 → 0 ≤ c → c < 8 → 0 ≤ j → (q'.set (480 + 8 * i + c).toNat v).getD j.toNat 0 = if j = 480 + 8 * i + c then v else q'.getD j.toNat 0 := fun q' c v j z c0 c1 hj => set_at z _ _ _ (by omega) hj
    have S0 : ∀ (v j : Int), 0 ≤ j → (q.set (480 + 8 * i).toNat v).getD j.toNat 0 = if j = 480 + 8 * i then v else q.getD j.toNat 0 := fun v j hj => set_at hq _ _ _ (by omega) hj
    obtain ⟨w1, w2, w3, w4, w5, w6, w7, w8, w9, w10, w11, w12, w13, w14, w15, w16, w17, w18, w19, w20⟩ := hw
    have v1 : wu64 (obt st i).Kind = (obt st i).Kind := wu64_id (by omega) (by omega)
    have z0 := hz 0 (by decide) (by decide) (by omega)
    rw [Int.add_zero] at z0
    have z1 := hz 1 (by decide) (by decide) (by omega)
    have z3 := hz 3 (by decide) (by decide) (by omega)
    have z4 := hz 4 (by decide) (by decide) (by omega)
    have z5 := hz 5 (by decide) (by decide) (by omega)
    have z6 := hz 6 (by decide) (by decide) (by omega)
    have z7 := hz 7 (by decide) (by decide) (by omega)
    simp only [p0, p1, p2, p3, p4, p5, p6, p7, A0, Option.bind_some, v1]
    have fin : ∀ q5 : List Int, q5.length = 738 → (∀ j : Int, 0 ≤ j → ¬ (480 + 8 * i ≤ j ∧ j < 488 + 8 * i) → q5.getD j.toNat 0 = q.getD j.toNat 0) → (∀ f, 0 ≤ f → f < 8 → q5.getD (480 + 8 * i + f).toNat 0 = own (obt st i) f + (if f = 2 ∧ (obt st i).Kind = 5 then q.getD (480 + 8 * i + 2).toNat 0 else 0)) →
        ∃ q', ((ref10_State_Words.l7 i (obt st i) k (0, q5)).bind fun qv5_e7 => ref10_State_Words.l4 st k (w64 (i + 1), qv5_e7)) = some q' ∧ q'.length = 738 ∧ OI st 32 b q' := fun q5 l5 a1 a2 => cont q5 l5 fun j hj => by
      by_cases c : 480 + 8 * i ≤ j ∧ j < 488 + 8 * i
      · rw [if_pos c]
        have := a2 (j - (480 + 8 * i)) (by omega) (by omega)
        rw [show 480 + 8 * i + (j - (480 + 8 * i)) = j by omega] at this
        rw [this]
        by_cases d : j = 480 + 8 * i + 2
        · subst d
          rw [show 480 + 8 * i + 2 - (480 + 8 * i) = 2 by omega]
          simp only [true_and]
        · rw [if_neg (fun z => d (by omega)), if_neg (fun z => d z.1)]
      · rw [if_neg c]; exact a1 j hj c
    rcases (by omega : (obt st i).Kind = 0 ∨ (obt st i).Kind = 1 ∨ (obt st i).Kind = 2 ∨ (obt st i).Kind = 3 ∨ (obt st i).Kind = 4 ∨ (obt st i).Kind = 5 ∨ (obt st i).Kind = 6 ∨ (obt st i).Kind = 7 ∨ (obt st i).Kind = 8) with K | K | K | K | K | K | K | K | K
    · simp only [K, show ((0 : Int) == 1) = false from rfl, show ((0 : Int) == 2) = false from rfl, show ((0 : Int) == 3) = false from rfl, show ((0 : Int) == 4) = false from rfl, show ((0 : Int) == 5) = false from rfl, show ((0 : Int) == 6) = false from rfl, show ((0 : Int) == 7) = false from rfl, show ((0 : Int) == 8) = false from rfl, cond_false, cond_true, Option.bind_some]
      refine fin _ (by simp only [List.length_set, hq]) (fun j hj c => ?_) (fun f f1 f2 => ?_)
      · rw [S0 _ _ hj, if_neg (by omega)]
      · rw [own0 K, if_neg (show ¬ (f = 2 ∧ (obt st i).Kind = 5) by omega), S0 _ _ (by omega)]
        rcases (by omega : f = 0 ∨ f = 1 ∨ f = 2 ∨ f = 3 ∨ f = 4 ∨ f = 5 ∨ f = 6 ∨ f = 7) with rfl | rfl | rfl | rfl | rfl | rfl | rfl | rfl
        all_goals simp [-List.getD_eq_getElem?_getD, eqa, eqb, eqc, hz 2 (by decide) (by decide) (by omega), z1, z3, z4, z5, z6, z7]
    · simp only [K, show ((1 : Int) == 1) = true from rfl, show ((1 : Int) == 2) = false from rfl, show ((1 : Int) == 3) = false from rfl, show ((1 : Int) == 4) = false from rfl, show ((1 : Int) == 5) = false from rfl, show ((1 : Int) == 6) = false from rfl, show ((1 : Int) == 7) = false from rfl, show ((1 : Int) == 8) = false from rfl, cond_false, cond_true, Option.bind_some]
      rw [A _ 1 (by simp only [List.length_set, hq]) (by decide) (by decide), Option.bind_some, A _ 2 (by simp only [List.length_set, hq]) (by decide) (by decide), Option.bind_some]
      rw [wu64_id (x := (obt st i).Size) (by omega) (by omega), wu64_id (x := (obt st i).Used) (by omega) (by omega)]
      refine fin _ (by simp only [List.length_set, hq]) (fun j hj c => ?_) (fun f f1 f2 => ?_)
      · rw [S _ 2 _ _ (by simp only [List.length_set, hq]) (by decide) (by decide) hj, S _ 1 _ _ (by simp only [List.length_set, hq]) (by decide) (by decide) hj, S0 _ _ hj, if_neg (by omega), if_neg (by omega), if_neg (by omega)]
      · rw [own1 K, if_neg (show ¬ (f = 2 ∧ (obt st i).Kind = 5) by omega), S _ 2 _ _ (by simp only [List.length_set, hq]) (by decide) (by decide) (by omega), S _ 1 _ _ (by simp only [List.length_set, hq]) (by decide) (by decide) (by omega), S0 _ _ (by omega)]
        rcases (by omega : f = 0 ∨ f = 1 ∨ f = 2 ∨ f = 3 ∨ f = 4 ∨ f = 5 ∨ f = 6 ∨ f = 7) with rfl | rfl | rfl | rfl | rfl | rfl | rfl | rfl
        all_goals simp [-List.getD_eq_getElem?_getD, eqa, eqb, eqc, hz 2 (by decide) (by decide) (by omega), z1, z3, z4, z5, z6, z7]
    · simp only [K, show ((2 : Int) == 1) = false from rfl, show ((2 : Int) == 2) = true from rfl, show ((2 : Int) == 3) = false from rfl, show ((2 : Int) == 4) = false from rfl, show ((2 : Int) == 5) = false from rfl, show ((2 : Int) == 6) = false from rfl, show ((2 : Int) == 7) = false from rfl, show ((2 : Int) == 8) = false from rfl, cond_false, cond_true, Option.bind_some]
      rw [A _ 1 (by simp only [List.length_set, hq]) (by decide) (by decide), Option.bind_some, A _ 2 (by simp only [List.length_set, hq]) (by decide) (by decide), Option.bind_some]
      rw [wu64_id (x := (obt st i).First) (by omega) (by omega), wu64_id (x := (obt st i).Radix) (by omega) (by omega)]
      refine fin _ (by simp only [List.length_set, hq]) (fun j hj c => ?_) (fun f f1 f2 => ?_)
      · rw [S _ 2 _ _ (by simp only [List.length_set, hq]) (by decide) (by decide) hj, S _ 1 _ _ (by simp only [List.length_set, hq]) (by decide) (by decide) hj, S0 _ _ hj, if_neg (by omega), if_neg (by omega), if_neg (by omega)]
      · rw [own2 K, if_neg (show ¬ (f = 2 ∧ (obt st i).Kind = 5) by omega), S _ 2 _ _ (by simp only [List.length_set, hq]) (by decide) (by decide) (by omega), S _ 1 _ _ (by simp only [List.length_set, hq]) (by decide) (by decide) (by omega), S0 _ _ (by omega)]
        rcases (by omega : f = 0 ∨ f = 1 ∨ f = 2 ∨ f = 3 ∨ f = 4 ∨ f = 5 ∨ f = 6 ∨ f = 7) with rfl | rfl | rfl | rfl | rfl | rfl | rfl | rfl
        all_goals simp [-List.getD_eq_getElem?_getD, eqa, eqb, eqc, hz 2 (by decide) (by decide) (by omega), z1, z3, z4, z5, z6, z7]
    · simp only [K, show ((3 : Int) == 1) = false from rfl, show ((3 : Int) == 2) = false from rfl, show ((3 : Int) == 3) = true from rfl, show ((3 : Int) == 4) = false from rfl, show ((3 : Int) == 5) = false from rfl, show ((3 : Int) == 6) = false from rfl, show ((3 : Int) == 7) = false from rfl, show ((3 : Int) == 8) = false from rfl, cond_false, cond_true, Option.bind_some]
      rw [A _ 1 (by simp only [List.length_set, hq]) (by decide) (by decide), Option.bind_some]
      rw [wu64_id (x := (obt st i).Wait) (by omega) (by omega)]
      refine fin _ (by simp only [List.length_set, hq]) (fun j hj c => ?_) (fun f f1 f2 => ?_)
      · rw [S _ 1 _ _ (by simp only [List.length_set, hq]) (by decide) (by decide) hj, S0 _ _ hj, if_neg (by omega), if_neg (by omega)]
      · rw [own3 K, if_neg (show ¬ (f = 2 ∧ (obt st i).Kind = 5) by omega), S _ 1 _ _ (by simp only [List.length_set, hq]) (by decide) (by decide) (by omega), S0 _ _ (by omega)]
        rcases (by omega : f = 0 ∨ f = 1 ∨ f = 2 ∨ f = 3 ∨ f = 4 ∨ f = 5 ∨ f = 6 ∨ f = 7) with rfl | rfl | rfl | rfl | rfl | rfl | rfl | rfl
        all_goals simp [-List.getD_eq_getElem?_getD, eqa, eqb, eqc, hz 2 (by decide) (by decide) (by omega), z1, z3, z4, z5, z6, z7]
    · simp only [K, show ((4 : Int) == 1) = false from rfl, show ((4 : Int) == 2) = false from rfl, show ((4 : Int) == 3) = false from rfl, show ((4 : Int) == 4) = true from rfl, show ((4 : Int) == 5) = false from rfl, show ((4 : Int) == 6) = false from rfl, show ((4 : Int) == 7) = false from rfl, show ((4 : Int) == 8) = false from rfl, cond_false, cond_true, Option.bind_some]
      rw [A _ 1 (by simp only [List.length_set, hq]) (by decide) (by decide), Option.bind_some]
      rw [wu64_id (x := (obt st i).Word) (by omega) (by omega)]
      refine fin _ (by simp only [List.length_set, hq]) (fun j hj c => ?_) (fun f f1 f2 => ?_)
      · rw [S _ 1 _ _ (by simp only [List.length_set, hq]) (by decide) (by decide) hj, S0 _ _ hj, if_neg (by omega), if_neg (by omega)]
      · rw [own4 K, if_neg (show ¬ (f = 2 ∧ (obt st i).Kind = 5) by omega), S _ 1 _ _ (by simp only [List.length_set, hq]) (by decide) (by decide) (by omega), S0 _ _ (by omega)]
        rcases (by omega : f = 0 ∨ f = 1 ∨ f = 2 ∨ f = 3 ∨ f = 4 ∨ f = 5 ∨ f = 6 ∨ f = 7) with rfl | rfl | rfl | rfl | rfl | rfl | rfl | rfl
        all_goals simp [-List.getD_eq_getElem?_getD, eqa, eqb, eqc, hz 2 (by decide) (by decide) (by omega), z1, z3, z4, z5, z6, z7]
    · simp only [K, show ((5 : Int) == 1) = false from rfl, show ((5 : Int) == 2) = false from rfl, show ((5 : Int) == 3) = false from rfl, show ((5 : Int) == 4) = false from rfl, show ((5 : Int) == 5) = true from rfl, show ((5 : Int) == 6) = false from rfl, show ((5 : Int) == 7) = false from rfl, show ((5 : Int) == 8) = false from rfl, cond_false, cond_true, Option.bind_some]
      rw [A _ 1 (by simp only [List.length_set, hq]) (by decide) (by decide), Option.bind_some, A _ 2 (by simp only [List.length_set, hq]) (by decide) (by decide), Option.bind_some, Option.bind_some, A _ 3 (by simp only [List.length_set, hq]) (by decide) (by decide), Option.bind_some, A _ 4 (by simp only [List.length_set, hq]) (by decide) (by decide), Option.bind_some, A _ 5 (by simp only [List.length_set, hq]) (by decide) (by decide), Option.bind_some, A _ 6 (by simp only [List.length_set, hq]) (by decide) (by decide), Option.bind_some, word_ok w14, Option.bind_some, A _ 7 (by simp only [List.length_set, hq]) (by decide) (by decide), Option.bind_some]
      rw [wu64_id (x := (obt st i).State) (by omega) (by omega), wu64_id (x := (obt st i).Word) (by omega) (by omega), wu64_id (x := (obt st i).Badge) (by omega) (by omega), w64_id (x := (obt st i).Owing + 1) (by omega) (by omega), wu64_id (x := (obt st i).Owing + 1) (by omega) (by omega), w64_id (x := (obt st i).Owes + 1) (by omega) (by omega), wu64_id (x := (obt st i).Owes + 1) (by omega) (by omega), w64_id (x := (obt st i).On + 1) (by omega) (by omega), w64_id (x := 256 * ((obt st i).On + 1)) (by omega) (by omega), w64_id (x := (obt st i).Prio + 256 * ((obt st i).On + 1)) (by omega) (by omega), wu64_id (x := (obt st i).Prio + 256 * ((obt st i).On + 1)) (by omega) (by omega)]
      rw [S _ 1 _ _ (by simp only [List.length_set, hq]) (by decide) (by decide) (by omega), S0 _ _ (by omega), if_neg (by omega), if_neg (by omega), wu64_id (x := q.getD (480 + 8 * i + 2).toNat 0 + ((obt st i).Owing + 1)) (by omega) (by omega)]
      refine fin _ (by simp only [List.length_set, hq]) (fun j hj c => ?_) (fun f f1 f2 => ?_)
      · rw [S _ 7 _ _ (by simp only [List.length_set, hq]) (by decide) (by decide) hj, S _ 6 _ _ (by simp only [List.length_set, hq]) (by decide) (by decide) hj, S _ 5 _ _ (by simp only [List.length_set, hq]) (by decide) (by decide) hj, S _ 4 _ _ (by simp only [List.length_set, hq]) (by decide) (by decide) hj, S _ 3 _ _ (by simp only [List.length_set, hq]) (by decide) (by decide) hj, S _ 2 _ _ (by simp only [List.length_set, hq]) (by decide) (by decide) hj, S _ 1 _ _ (by simp only [List.length_set, hq]) (by decide) (by decide) hj, S0 _ _ hj, if_neg (by omega), if_neg (by omega), if_neg (by omega), if_neg (by omega), if_neg (by omega), if_neg (by omega), if_neg (by omega), if_neg (by omega)]
      · rw [own5 K, S _ 7 _ _ (by simp only [List.length_set, hq]) (by decide) (by decide) (by omega), S _ 6 _ _ (by simp only [List.length_set, hq]) (by decide) (by decide) (by omega), S _ 5 _ _ (by simp only [List.length_set, hq]) (by decide) (by decide) (by omega), S _ 4 _ _ (by simp only [List.length_set, hq]) (by decide) (by decide) (by omega), S _ 3 _ _ (by simp only [List.length_set, hq]) (by decide) (by decide) (by omega), S _ 2 _ _ (by simp only [List.length_set, hq]) (by decide) (by decide) (by omega), S _ 1 _ _ (by simp only [List.length_set, hq]) (by decide) (by decide) (by omega), S0 _ _ (by omega)]
        rcases (by omega : f = 0 ∨ f = 1 ∨ f = 2 ∨ f = 3 ∨ f = 4 ∨ f = 5 ∨ f = 6 ∨ f = 7) with rfl | rfl | rfl | rfl | rfl | rfl | rfl | rfl
        all_goals simp [-List.getD_eq_getElem?_getD, eqa, eqb, eqc, K, z1, z3, z4, z5, z6, z7]
        omega
    · simp only [K, show ((6 : Int) == 1) = false from rfl, show ((6 : Int) == 2) = false from rfl, show ((6 : Int) == 3) = false from rfl, show ((6 : Int) == 4) = false from rfl, show ((6 : Int) == 5) = false from rfl, show ((6 : Int) == 6) = true from rfl, show ((6 : Int) == 7) = false from rfl, show ((6 : Int) == 8) = false from rfl, cond_false, cond_true, Option.bind_some]
      rw [A _ 1 (by simp only [List.length_set, hq]) (by decide) (by decide), Option.bind_some, A _ 2 (by simp only [List.length_set, hq]) (by decide) (by decide), Option.bind_some]
      rw [w64_id (x := (obt st i).In + 1) (by omega) (by omega), wu64_id (x := (obt st i).In + 1) (by omega) (by omega), wu64_id (x := (obt st i).Page) (by omega) (by omega)]
      refine fin _ (by simp only [List.length_set, hq]) (fun j hj c => ?_) (fun f f1 f2 => ?_)
      · rw [S _ 2 _ _ (by simp only [List.length_set, hq]) (by decide) (by decide) hj, S _ 1 _ _ (by simp only [List.length_set, hq]) (by decide) (by decide) hj, S0 _ _ hj, if_neg (by omega), if_neg (by omega), if_neg (by omega)]
      · rw [own6 K, if_neg (show ¬ (f = 2 ∧ (obt st i).Kind = 5) by omega), S _ 2 _ _ (by simp only [List.length_set, hq]) (by decide) (by decide) (by omega), S _ 1 _ _ (by simp only [List.length_set, hq]) (by decide) (by decide) (by omega), S0 _ _ (by omega)]
        rcases (by omega : f = 0 ∨ f = 1 ∨ f = 2 ∨ f = 3 ∨ f = 4 ∨ f = 5 ∨ f = 6 ∨ f = 7) with rfl | rfl | rfl | rfl | rfl | rfl | rfl | rfl
        all_goals simp [-List.getD_eq_getElem?_getD, eqa, eqb, eqc, hz 2 (by decide) (by decide) (by omega), z1, z3, z4, z5, z6, z7]
    · simp only [K, show ((7 : Int) == 1) = false from rfl, show ((7 : Int) == 2) = false from rfl, show ((7 : Int) == 3) = false from rfl, show ((7 : Int) == 4) = false from rfl, show ((7 : Int) == 5) = false from rfl, show ((7 : Int) == 6) = false from rfl, show ((7 : Int) == 7) = true from rfl, show ((7 : Int) == 8) = false from rfl, cond_false, cond_true, Option.bind_some]
      obtain ⟨q6, e6, l6, g6⟩ := pages_ok i (obt st i) hi (h.obj i h0 hi.2) 4 k 0 (q.set (480 + 8 * i).toNat 7) (by decide) (by decide) (by decide) (by omega) (by simpa using hq)
      rw [e6, Option.bind_some]
      simp only [Option.bind_some]
      refine fin _ l6 (fun j hj c => ?_) (fun f f1 f2 => ?_)
      · rw [g6 j hj, if_neg (by omega), S0 _ _ hj, if_neg (by omega)]
      · rw [own7 K, if_neg (show ¬ (f = 2 ∧ (obt st i).Kind = 5) by omega), g6 _ (by omega), S0 _ _ (by omega)]
        by_cases e0 : f = 0
        · subst e0; rw [if_neg (by omega), if_pos (by omega), if_pos rfl]; rfl
        · rw [if_neg e0]
          by_cases e1 : 1 ≤ f ∧ f ≤ 4
          · rw [show 480 + 8 * i + f - (480 + 8 * i + 1) = f - 1 by omega, if_pos e1]
            unfold pgw
            by_cases e2 : 0 ≤ (obt st i).Pages.nth (f - 1)
            · rw [if_pos ⟨by omega, by omega, e2⟩, if_pos e2]; omega
            · rw [if_neg (fun z => e2 z.2.2), if_neg (by omega), if_neg e2, hz f f1 f2 (by omega)]; rfl
          · rw [if_neg e1, if_neg (by omega), if_neg (by omega), hz f f1 f2 (by omega)]; rfl
    · simp only [K, show ((8 : Int) == 1) = false from rfl, show ((8 : Int) == 2) = false from rfl, show ((8 : Int) == 3) = false from rfl, show ((8 : Int) == 4) = false from rfl, show ((8 : Int) == 5) = false from rfl, show ((8 : Int) == 6) = false from rfl, show ((8 : Int) == 7) = false from rfl, show ((8 : Int) == 8) = true from rfl, cond_false, cond_true, Option.bind_some]
      rw [A _ 1 (by simp only [List.length_set, hq]) (by decide) (by decide), Option.bind_some, A _ 2 (by simp only [List.length_set, hq]) (by decide) (by decide), Option.bind_some, A _ 3 (by simp only [List.length_set, hq]) (by decide) (by decide), Option.bind_some]
      rw [w64_id (x := (obt st i).Bound + 1) (by omega) (by omega), wu64_id (x := (obt st i).Bound + 1) (by omega) (by omega), wu64_id (x := (obt st i).Badge) (by omega) (by omega), wu64_id (x := (obt st i).Mask) (by omega) (by omega)]
      refine fin _ (by simp only [List.length_set, hq]) (fun j hj c => ?_) (fun f f1 f2 => ?_)
      · rw [S _ 3 _ _ (by simp only [List.length_set, hq]) (by decide) (by decide) hj, S _ 2 _ _ (by simp only [List.length_set, hq]) (by decide) (by decide) hj, S _ 1 _ _ (by simp only [List.length_set, hq]) (by decide) (by decide) hj, S0 _ _ hj, if_neg (by omega), if_neg (by omega), if_neg (by omega), if_neg (by omega)]
      · rw [own8 K, if_neg (show ¬ (f = 2 ∧ (obt st i).Kind = 5) by omega), S _ 3 _ _ (by simp only [List.length_set, hq]) (by decide) (by decide) (by omega), S _ 2 _ _ (by simp only [List.length_set, hq]) (by decide) (by decide) (by omega), S _ 1 _ _ (by simp only [List.length_set, hq]) (by decide) (by decide) (by omega), S0 _ _ (by omega)]
        rcases (by omega : f = 0 ∨ f = 1 ∨ f = 2 ∨ f = 3 ∨ f = 4 ∨ f = 5 ∨ f = 6 ∨ f = 7) with rfl | rfl | rfl | rfl | rfl | rfl | rfl | rfl
        all_goals simp [-List.getD_eq_getElem?_getD, eqa, eqb, eqc, hz 2 (by decide) (by decide) (by omega), z1, z3, z4, z5, z6, z7]
end Go.Proofs
/-! All words of a state are what IsW says. -/
set_option linter.unusedVariables false
namespace Go.Proofs
open Go.Sl
theorem words_ok {st : ref10_State} (h : WF st) {k : Nat} (hk : 250 ≤ k) : ∃ w, ref10_State_Words.f k st = some w ∧ IsW st w := by
  unfold ref10_State_Words.f
  have hm : mk_ (0 : Int) 738 = some (List.replicate 738 0) := rfl
  have hg : ∀ j : Nat, (List.replicate 738 (0 : Int)).getD j 0 = 0 := fun j => by
    rw [List.getD]
    by_cases e : j < 738
    · rw [List.getElem?_replicate, if_pos e]; rfl
    · rw [List.getElem?_replicate, if_neg e]; rfl
  have hl : (List.replicate 738 (0 : Int)).length = 738 := List.length_replicate
  rw [hm, Option.bind_some]
  generalize List.replicate 738 (0 : Int) = z at hg hl
  obtain ⟨q1, e1, l1, i1⟩ := slots_ok h 96 k 0 z (by decide) (by decide) (by decide) (by omega) hl ⟨fun j _ => hg _, fun s f s1 s2 f1 f2 => by
    rw [hg]
    split
    · rw [if_neg (by omega)]
    · split
      · unfold sl
        have := (h.par s s1 s2).1
        rw [if_neg (by omega), if_neg (by omega), if_neg (by omega), if_neg (by omega)]
      · rfl⟩
  rw [e1, Option.bind_some]
  obtain ⟨q2, e2, l2, i2⟩ := objs_ok h q1 32 k 0 q1 (by decide) (by decide) (by decide) (by omega) l1 ⟨fun j _ _ => rfl, fun s f s1 s2 f1 f2 => by
    rw [i1.1 _ (by omega)]
    split
    · rename_i c; rw [if_neg (by omega)]
    · rw [if_neg (by omega)]⟩
  rw [e2, Option.bind_some, rd_at l2 (by decide), Option.bind_some, rd_at (by simpa using l2) (by decide), Option.bind_some, wu64_id h.ns.1 (by have := h.ns; omega), wu64_id h.no.1 (by have := h.no; omega)]
  refine ⟨_, rfl, by simpa using l2, fun i f h1 h2 h3 h4 => ?_, fun i f h1 h2 h3 h4 => ?_, ?_, ?_⟩
  · rw [set_at (by simpa using l2) _ _ _ (by decide) (by omega), set_at l2 _ _ _ (by decide) (by omega), if_neg (by omega), if_neg (by omega), i2.1 _ (by omega) (by omega), i1.2 i f h1 h2 h3 h4]
    rw [if_pos h2, if_pos (h.par i h1 h2).2]
    split <;> rfl
  · rw [set_at (by simpa using l2) _ _ _ (by decide) (by omega), set_at l2 _ _ _ (by decide) (by omega), if_neg (by omega), if_neg (by omega), i2.2 i f h1 h2 h3 h4]
    rw [if_pos h2, if_pos (h.obj i h1 h2).on.2]
    split
    · rename_i c; rw [c.1]
    · rfl
  · have := set_at (q := q2.set (736 : Int).toNat st.NS) (by simpa using l2) 737 736 st.NO (by decide) (by decide)
    rw [show (736 : Nat) = (736 : Int).toNat from rfl, this, if_neg (by decide), set_at l2 _ _ _ (by decide) (by decide), if_pos rfl]
  · have := set_at (q := q2.set (736 : Int).toNat st.NS) (by simpa using l2) 737 737 st.NO (by decide) (by decide)
    rw [show (737 : Nat) = (737 : Int).toNat from rfl, this, if_pos rfl]
theorem words_is {st : ref10_State} {v : List Int} (h : WF st) (hv : IsW st v) {k : Nat} (hk : 250 ≤ k) : ref10_State_Words.f k st = some v := by
  obtain ⟨w, e, hw⟩ := words_ok h hk
  rw [e, hv.uniq hw]
theorem capWord_rg {c : api_Cap} (h : CapMay c) : 0 ≤ capWord c ∧ capWord c ≤ 4611686018427387904 := by
  have hg := guard_lt h
  obtain ⟨h1, h2, h3, h4, h5, h6, h7, h8, h9, h10, -, -, -, h14, h15⟩ := h
  unfold capWord
  constructor <;> omega
theorem own_rg {o : ref10_Obj} (h : OW o) {f : Int} (hf : 0 ≤ f ∧ f < 8) : 0 ≤ own o f ∧ own o f ≤ 4611686018427387904 := by
  obtain ⟨w1, w2, w3, w4, w5, w6, w7, w8, w9, w10, w11, w12, w13, w14, w15, w16, w17, w18, w19, w20⟩ := h
  have hc := capWord_rg w14
  rcases (by omega : o.Kind = 0 ∨ o.Kind = 1 ∨ o.Kind = 2 ∨ o.Kind = 3 ∨ o.Kind = 4 ∨ o.Kind = 5 ∨ o.Kind = 6 ∨ o.Kind = 7 ∨ o.Kind = 8) with K | K | K | K | K | K | K | K | K
  · rw [own0 K]; split <;> decide
  · rw [own1 K]; repeat' split
    all_goals omega
  · rw [own2 K]; repeat' split
    all_goals omega
  · rw [own3 K]; repeat' split
    all_goals omega
  · rw [own4 K]; repeat' split
    all_goals omega
  · rw [own5 K]; repeat' split
    all_goals omega
  · rw [own6 K]; repeat' split
    all_goals omega
  · rw [own7 K]
    split
    · decide
    · split
      · rename_i c
        have a1 := w15 (f - 1) (by omega) (by omega)
        have a2 := w16 (f - 1) (by omega) (by omega)
        unfold pgw
        split <;> omega
      · decide
  · rw [own8 K]; repeat' split
    all_goals omega
section
variable {st : ref10_State} (h : WF st)
include h
theorem kids_rg {i : Int} (h0 : 0 ≤ i) (h1 : i < 96) : ∀ x ∈ (slt st i).Kids, 0 ≤ x ∧ x < 96 := fun x hx => by have := h.kid i h0 h1 x hx; omega
theorem queue_rg {i : Int} (h0 : 0 ≤ i) (h1 : i < 32) : ∀ x ∈ (obt st i).Queue, 0 ≤ x ∧ x < 32 := fun x hx => by have := h.que i h0 h1 x hx; omega
theorem ob_rg {i f : Int} (hi : 0 ≤ i ∧ i < 32) (hf : 0 ≤ f ∧ f < 8) : 0 ≤ ob st i f ∧ ob st i f ≤ 4611686018427387904 := by
  have hw := h.obj i hi.1 hi.2
  unfold ob
  split
  · rename_i c
    have := nextOf_rg (n := 32) (by decide) i (queue_rg h c.2.2 hw.on.2); omega
  · split
    · have := hd_rg (n := 32) (by decide) (queue_rg h hi.1 hi.2); omega
    · split
      · have := la_rg (n := 32) (by decide) (queue_rg h hi.1 hi.2); omega
      · exact own_rg hw hf
theorem sl_rg {i f : Int} (hi : 0 ≤ i ∧ i < 96) (hf : 1 ≤ f ∧ f < 5) : 0 ≤ sl st i f ∧ sl st i f ≤ 96 := by
  have hp := h.par i hi.1 hi.2
  unfold sl
  rw [if_neg (by omega)]
  split
  · omega
  · split
    · exact hd_rg (by decide) (kids_rg h hi.1 hi.2)
    · split
      · rename_i c
        split
        · exact nextOf_rg (by decide) _ (kids_rg h c hp.2)
        · exact prv_rg (by decide) _ (by decide) (by decide) (kids_rg h c hp.2)
      · decide
theorem IsW.good {v : List Int} (hv : IsW st v) : GoodU v := by
  have key : ∀ j : Nat, 0 ≤ v.getD j 0 ∧ v.getD j 0 ≤ 4611686018427387904 := fun j => by
    by_cases q : j < 480
    · have e := hv.slot (j / 5 : Nat) (j % 5 : Nat) (by omega) (by omega) (by omega) (by omega)
      rw [show (5 * ((j / 5 : Nat) : Int) + ((j % 5 : Nat) : Int)).toNat = j by omega] at e
      rw [e]
      by_cases f0 : j % 5 = 0
      · rw [f0]
        have := capWord_rg (h.cap (j / 5 : Nat) (by omega) (by omega))
        exact this
      · have := sl_rg h (i := (j / 5 : Nat)) (f := (j % 5 : Nat)) (by omega) (by omega); omega
    · by_cases q2 : j < 736
      · have e := hv.obj ((j - 480) / 8 : Nat) ((j - 480) % 8 : Nat) (by omega) (by omega) (by omega) (by omega)
        rw [show (480 + 8 * (((j - 480) / 8 : Nat) : Int) + (((j - 480) % 8 : Nat) : Int)).toNat = j by omega] at e
        rw [e]; exact ob_rg h (by omega) (by omega)
      · by_cases q3 : j < 738
        · have : j = 736 ∨ j = 737 := by omega
          have h1 := h.ns
          have h2 := h.no
          rcases this with rfl | rfl
          · rw [hv.ns]; omega
          · rw [hv.no]; omega
        · have := hv.len
          rw [List.getD, List.getElem?_eq_none (by omega)]; decide
  exact ⟨⟨hv.len, fun j => (key j).1⟩, fun j => by have := key j; omega⟩
theorem IsW.fv {v : List Int} (hv : IsW st v) {i f : Int} (hi : 0 ≤ i ∧ i < 32) (hf : 0 ≤ f ∧ f < 8) : fld v i f = ob st i f := by
  unfold fld
  rw [if_pos ⟨hi.1, hi.2, hf.1, hf.2⟩, hv.obj i f hi.1 hi.2 hf.1 hf.2, numb_id (ob_rg h hi hf).2]
end
end Go.Proofs
/-! Words that fields tell as they are. -/
set_option linter.unusedVariables false
namespace Go.Proofs
open Go.Sl
def Sm (s : List Int) : Prop := ∀ j, s.getD j 0 ≤ 4611686018427387904
theorem sm_put {s : List Int} (h : Sm s) {i f n : Int} (hn : n ≤ 4611686018427387904) : Sm (put s i f n) := by
  intro j; unfold put; split
  · rw [getD_set]; split
    · exact hn
    · exact h j
  · exact h j
theorem raw_fld {s : List Int} (h : Sm s) {i f : Int} (hi : InObj i f) : s.getD (480 + 8 * i + f).toNat 0 = fld s i f := by
  unfold fld; rw [if_pos hi, numb_id (h _)]
theorem raw_at {s : List Int} (g : Good s) (h : Sm s) {i f : Int} (hi : InObj i f) : at_ s (480 + 8 * i + f) = some (fld s i f) := by
  have hi' := hi
  unfold InObj at hi'
  have hlt : (480 + 8 * i + f).toNat < s.length := by rw [g.1]; omega
  have hr := raw_fld h hi
  unfold at_
  rw [decide_eq_true (by omega), cond_true, List.getElem?_eq_getElem hlt]
  rw [List.getD, List.getElem?_eq_getElem hlt] at hr
  simpa using hr
def smB (s : List Int) : Bool := s.all fun x => decide (x ≤ 4611686018427387904)
theorem sm_of {s : List Int} (h : smB s = true) : Sm s := by
  simp only [smB, List.all_eq_true, decide_eq_true_eq] at h
  intro j
  rw [List.getD]
  cases e : s[j]? with
  | none => simp
  | some x => simpa using h x (List.mem_of_getElem? e)
end Go.Proofs
/-! Objects of a state that are changed, and their words. -/
set_option linter.unusedVariables false
namespace Go.Proofs
open Go.Sl
def upd (st : ref10_State) (a : Int) (x : ref10_Obj) : ref10_State := { st with Objs := st.Objs.set a.toNat x }
theorem getD_setD {α : Type} [Inhabited α] (l : List α) (a b : Nat) (v : α) : (l.set a v).getD b default = if a = b ∧ b < l.length then v else l.getD b default := by
  simp only [List.getD]
  by_cases e : a = b
  · subst e
    by_cases h : a < l.length
    · rw [List.getElem?_set_self h]; simp [h]
    · rw [List.getElem?_eq_none (by simpa using h), List.getElem?_eq_none (by omega)]; simp [h]
  · rw [List.getElem?_set_ne e]; simp [e]
theorem obt_upd {st : ref10_State} (hl : st.Objs.length = 32) {a i : Int} (ha : 0 ≤ a ∧ a < 32) (hi : 0 ≤ i) (x : ref10_Obj) : obt (upd st a x) i = if i = a then x else obt st i := by
  unfold obt upd
  simp only []
  rw [getD_setD]
  by_cases e : i = a
  · rw [if_pos (by omega), if_pos e]
  · rw [if_neg (by omega), if_neg e]
theorem obt_up2 {st : ref10_State} (hl : st.Objs.length = 32) {a i : Int} (ha : 0 ≤ a ∧ a < 32) (hi : 0 ≤ i) (x : ref10_Obj) : (st.Objs.set a.toNat x).getD i.toNat default = if i = a then x else obt st i := obt_upd hl ha hi x
theorem slt_upd (st : ref10_State) (a i : Int) (x : ref10_Obj) : slt (upd st a x) i = slt st i := rfl
theorem upd_len (st : ref10_State) (a : Int) (x : ref10_Obj) : (upd st a x).Objs.length = st.Objs.length := by simp [upd]
theorem upd_upd (st : ref10_State) (a : Int) (x y : ref10_Obj) : upd (upd st a x) a y = upd st a y := by unfold upd; simp
/-- An object changes, but not what it is, nor what waits. -/
theorem WF.upd {st : ref10_State} (h : WF st) {a : Int} (ha : 0 ≤ a ∧ a < 32) {x : ref10_Obj} (hx : OW x) (hk : x.Kind = (obt st a).Kind) (hq : x.Queue = (obt st a).Queue) (ho : x.On = (obt st a).On) (hw : x.Owing = (obt st a).Owing ∨ x.Kind = 5 ∧ x.On < 0 ∨ x.Kind ≠ 5) : WF (upd st a x) := by
  have O := fun i (hi : 0 ≤ i) => obt_upd h.lo ha hi x
  have e1 : ∀ i, 0 ≤ i → (obt (Go.Proofs.upd st a x) i).Kind = (obt st i).Kind := fun i hi => by rw [O i hi]; split <;> simp_all
  have e2 : ∀ i, 0 ≤ i → (obt (Go.Proofs.upd st a x) i).Queue = (obt st i).Queue := fun i hi => by rw [O i hi]; split <;> simp_all
  have e3 : ∀ i, 0 ≤ i → (obt (Go.Proofs.upd st a x) i).On = (obt st i).On := fun i hi => by rw [O i hi]; split <;> simp_all
  refine ⟨h.ls, by rw [upd_len]; exact h.lo, h.cap, h.par, h.kid, h.all, h.nodk, h.irr, fun i h0 h1 => ?_, fun i h0 h1 t ht => ?_, fun i h0 h1 hn => ?_, fun t h0 h1 k5 on => ?_, fun i h0 h1 => ?_, h.ns, h.no⟩
  · rw [O i h0]; split
    · exact hx
    · exact h.obj i h0 h1
  · rw [e2 i h0] at ht
    obtain ⟨y1, y2, y3, y4, y5⟩ := h.que i h0 h1 t ht
    refine ⟨y1, y2, by rw [e1 t y1]; exact y3, by rw [e3 t y1]; exact y4, ?_⟩
    rw [O t y1]; split
    · rename_i e; subst e
      rcases hw with z | z | z
      · rw [z]; exact y5
      · rw [ho, y4] at z; omega
      · rw [hk] at z; exact absurd y3 z
    · exact y5
  · rw [e2 i h0] at hn; rw [e1 i h0]; exact h.qk i h0 h1 hn
  · rw [e1 t h0] at k5; rw [e3 t h0] at on ⊢
    rw [e2 _ on]; exact h.onq t h0 h1 k5 on
  · rw [e2 i h0]; exact h.nodq i h0 h1
/-- An object's own words, behind a change. -/
theorem ob_upd {st : ref10_State} (h : WF st) {a : Int} (ha : 0 ≤ a ∧ a < 32) {x : ref10_Obj} (hq : x.Queue = (obt st a).Queue) {i f : Int} (hi : 0 ≤ i ∧ i < 32) : ob (upd st a x) i f = if i = a then (if f = 2 ∧ x.Kind = 5 ∧ 0 ≤ x.On then nextOf (obt st x.On).Queue a else if f = 2 ∧ (obt st a).Queue ≠ [] then hd (obt st a).Queue else if f = 3 ∧ (obt st a).Queue ≠ [] then la (obt st a).Queue else own x f) else ob st i f := by
  have O := fun i (hi : 0 ≤ i) => obt_upd h.lo ha hi x
  have e2 : ∀ i, 0 ≤ i → (obt (Go.Proofs.upd st a x) i).Queue = (obt st i).Queue := fun i hi => by rw [O i hi]; split <;> simp_all
  unfold ob
  rw [e2 i hi.1]
  by_cases e : i = a
  · subst e
    rw [if_pos rfl, O i hi.1, if_pos rfl]
    by_cases c : f = 2 ∧ x.Kind = 5 ∧ 0 ≤ x.On
    · rw [if_pos c, if_pos c, e2 _ c.2.2]
    · rw [if_neg c, if_neg c]
  · rw [if_neg e, O i hi.1, if_neg e]
    by_cases c : f = 2 ∧ (obt st i).Kind = 5 ∧ 0 ≤ (obt st i).On
    · rw [if_pos c, if_pos c, e2 _ c.2.2]
    · rw [if_neg c, if_neg c]
/-- Only words of objects differ. -/
def Low (v v' : List Int) : Prop := v'.length = 738 ∧ ∀ j : Nat, j < 480 ∨ 736 ≤ j → v'.getD j 0 = v.getD j 0
theorem Low.refl {v : List Int} (h : v.length = 738) : Low v v := ⟨h, fun _ _ => rfl⟩
theorem Low.put {v v' : List Int} (h : Low v v') (i f n : Int) : Low v (put v' i f n) := by
  refine ⟨by rw [put_len]; exact h.1, fun j hj => ?_⟩
  unfold Go.Proofs.put
  split
  · rename_i c
    have c := c.1
    unfold InObj at c
    rw [getD_set, if_neg (by omega)]; exact h.2 j hj
  · exact h.2 j hj
theorem IsW.sm {st : ref10_State} (h : WF st) {v : List Int} (hv : IsW st v) : Sm v := by
  intro j
  by_cases q : j < 480
  · have e := hv.slot (j / 5 : Nat) (j % 5 : Nat) (by omega) (by omega) (by omega) (by omega)
    rw [show (5 * ((j / 5 : Nat) : Int) + ((j % 5 : Nat) : Int)).toNat = j by omega] at e
    rw [e]
    by_cases f0 : j % 5 = 0
    · rw [f0]
      exact (capWord_rg (h.cap (j / 5 : Nat) (by omega) (by omega))).2
    · have := sl_rg h (i := (j / 5 : Nat)) (f := (j % 5 : Nat)) (by omega) (by omega); omega
  · by_cases q2 : j < 736
    · have e := hv.obj ((j - 480) / 8 : Nat) ((j - 480) % 8 : Nat) (by omega) (by omega) (by omega) (by omega)
      rw [show (480 + 8 * (((j - 480) / 8 : Nat) : Int) + (((j - 480) % 8 : Nat) : Int)).toNat = j by omega] at e
      rw [e]; exact (ob_rg h (by omega) (by omega)).2
    · by_cases q3 : j < 738
      · have : j = 736 ∨ j = 737 := by omega
        have h1 := h.ns
        have h2 := h.no
        rcases this with rfl | rfl
        · rw [hv.ns]; omega
        · rw [hv.no]; omega
      · have := hv.len
        rw [List.getD, List.getElem?_eq_none (by omega)]; decide
theorem IsW.of_fld {st st' : ref10_State} {v v' : List Int} (hv : IsW st v) (hl : Low v v') (hs : Sm v') (h1 : ∀ i f, sl st' i f = sl st i f) (h2 : st'.NS = st.NS) (h3 : st'.NO = st.NO) (hf : ∀ i f, 0 ≤ i → i < 32 → 0 ≤ f → f < 8 → fld v' i f = ob st' i f) : IsW st' v' := by
  refine ⟨hl.1, fun i f a b c d => ?_, fun i f a b c d => ?_, ?_, ?_⟩
  · rw [hl.2 _ (by omega), h1]; exact hv.slot i f a b c d
  · rw [raw_fld hs ⟨a, b, c, d⟩]; exact hf i f a b c d
  · rw [hl.2 _ (by omega), h2]; exact hv.ns
  · rw [hl.2 _ (by omega), h3]; exact hv.no
theorem at_set {α : Type} {l : List α} {i : Int} (h0 : 0 ≤ i) (h1 : i < (l.length : Int)) (v : α) (j : Int) : at_ (l.set i.toNat v) j = if j = i then some v else at_ l j := by
  unfold at_
  by_cases e : j = i
  · subst e
    rw [if_pos rfl, decide_eq_true h0, cond_true, List.getElem?_set_self (by omega)]
  · rw [if_neg e]
    by_cases q : 0 ≤ j
    · rw [decide_eq_true q, cond_true, cond_true, List.getElem?_set_ne (by omega)]
    · rw [decide_eq_false q, cond_false, cond_false]
theorem _root_.Go.Sl.A4.nth_put (a : A4) {i j : Int} (x : Int) (hi : 0 ≤ i ∧ i < 4) (hj : 0 ≤ j ∧ j < 4) : (A4.put a i x).nth j = if j = i then x else a.nth j := by
  have h1 : i = 0 ∨ i = 1 ∨ i = 2 ∨ i = 3 := by omega
  have h2 : j = 0 ∨ j = 1 ∨ j = 2 ∨ j = 3 := by omega
  rcases h1 with rfl | rfl | rfl | rfl <;> rcases h2 with rfl | rfl | rfl | rfl <;> rfl
/-- Own words, of what has no queue and is no thread. -/
theorem ob_own {st : ref10_State} (h : WF st) {i : Int} (f : Int) (hi : 0 ≤ i ∧ i < 32) (hk : (obt st i).Kind ≠ 3 ∧ (obt st i).Kind ≠ 4 ∧ (obt st i).Kind ≠ 5) : ob st i f = own (obt st i) f := by
  have hq : (obt st i).Queue = [] := by
    rcases Classical.em ((obt st i).Queue = []) with z | z
    · exact z
    · have := h.qk i hi.1 hi.2 z; omega
  unfold ob
  rw [if_neg (by omega), if_neg (fun q => q.2 hq), if_neg (fun q => q.2 hq)]
theorem ob_kind {st : ref10_State} (i : Int) : ob st i 0 = (obt st i).Kind := by
  unfold ob
  rw [if_neg (by omega), if_neg (by omega), if_neg (by omega)]; rfl
/-- What an object is, out of the words. -/
theorem IsW.kind {st : ref10_State} (h : WF st) {v : List Int} (hv : IsW st v) {i k : Int} (hk : k ≠ 0) : Go.Proofs.fld v i 0 = k ↔ 0 ≤ i ∧ i < 32 ∧ (obt st i).Kind = k := by
  by_cases hi : 0 ≤ i ∧ i < 32
  · rw [hv.fv h hi (by decide), ob_kind]
    exact ⟨fun e => ⟨hi.1, hi.2, e⟩, fun e => e.2.2⟩
  · unfold Go.Proofs.fld
    rw [if_neg (fun q => hi ⟨q.1, q.2.1⟩)]
    exact ⟨fun e => absurd e.symm hk, fun e => absurd ⟨e.1, e.2.1⟩ hi⟩
theorem at_obj {st : ref10_State} (h : WF st) {a : Int} (ha : 0 ≤ a ∧ a < 32) : at_ st.Objs a = some (obt st a) := at_getD ha.1 (by rw [h.lo]; omega)
end Go.Proofs
/-! The fields of slots, and what is put into them. -/
set_option linter.unusedVariables false
namespace Go.Proofs
open Go.Sl
theorem slot_ok (a b : Int) : lay_Slot.f a b = some (if InSlot a b then (5 * a + b, true) else (0, false)) := by
  unfold lay_Slot.f InSlot
  simp only [lay_in.f]
  by_cases h1 : 0 ≤ a <;> by_cases h2 : a < 96 <;> by_cases h3 : 0 ≤ b <;> by_cases h4 : b < 5 <;> simp [h1, h2, h3, h4]
  rw [w64_id (x := a * 5) (by omega) (by omega), w64_id (by omega) (by omega)]; omega
/-- The slot that a slot's field tells; -1: none. -/
def sget (s : List Int) (i f : Int) : Int :=
  if InSlot i f then (if 1 ≤ s.getD (5 * i + f).toNat 0 ∧ s.getD (5 * i + f).toNat 0 ≤ 96 then s.getD (5 * i + f).toNat 0 - 1 else -1) else -1
def sput (s : List Int) (i f n : Int) : List Int := if InSlot i f then s.set (5 * i + f).toNat (n + 1) else s
theorem sget_rg (s : List Int) (i f : Int) : -1 ≤ sget s i f ∧ sget s i f < 96 := by
  unfold sget; split
  · split <;> omega
  · omega
theorem sget_ok {s : List Int} (g : Good s) (i f : Int) : VM.run plainI (cdt_get.f i f) s = some (sget s i f, s) := by
  unfold cdt_get.f sget
  rw [runB, runO, slot_ok]
  by_cases hi : InSlot i f
  · have hi' := hi
    unfold InSlot at hi'
    rw [if_pos hi, if_pos hi]
    simp only [Option.map_some, Option.bind_some, Bool.not_true, cond_false]
    rw [runRd _ (by rw [g.1]; omega)]
    have h0 := g.2 (5 * i + f).toNat
    generalize s.getD (5 * i + f).toNat 0 = x at h0
    by_cases q : 1 ≤ x ∧ x ≤ 96
    · have e : (decide (x < 1) || decide (96 < x)) = false := by simp; omega
      rw [e, if_pos q, cond_false, w64_id (x := x) (by omega) (by omega), w64_id (by omega) (by omega)]; rfl
    · have e : (decide (x < 1) || decide (96 < x)) = true := by rw [← Bool.not_eq_false]; simp; omega
      rw [e, if_neg q]; rfl
  · rw [if_neg hi, if_neg hi]; rfl
theorem sput_ok {s : List Int} (g : Good s) (i f n : Int) (hn : -1 ≤ n ∧ n ≤ 1000) : VM.run plainI (cdt_put.f i f n) s = some ((), sput s i f n) := by
  unfold cdt_put.f sput
  rw [runB, runO, slot_ok]
  by_cases hi : InSlot i f
  · have hi' := hi
    unfold InSlot at hi'
    rw [if_pos hi, if_pos hi]
    simp only [Option.map_some, Option.bind_some, cond_true]
    rw [runWr _ (by rw [g.1]; omega), w64_id (by omega) (by omega), wu64_id (by omega) (by omega)]; rfl
  · rw [if_neg hi, if_neg hi]; rfl
theorem sput_len (s : List Int) (i f n : Int) : (sput s i f n).length = s.length := by unfold sput; split <;> simp
theorem goodU_sput {s : List Int} (g : GoodU s) (i f n : Int) (hn : -1 ≤ n ∧ n ≤ 1000) : GoodU (sput s i f n) := by
  refine ⟨⟨by rw [sput_len]; exact g.1.1, fun j => ?_⟩, fun j => ?_⟩ <;> unfold sput <;> split
  · rw [getD_set]; split
    · omega
    · exact g.1.2 j
  · exact g.1.2 j
  · rw [getD_set]; split
    · omega
    · exact g.2 j
  · exact g.2 j
theorem goodU_put {s : List Int} (g : GoodU s) (i f n : Int) (hn : n ≤ 9223372036854775807) : GoodU (put s i f n) := by
  refine ⟨good_put g.1 i f n, fun j => ?_⟩
  unfold put; split
  · rw [getD_set]; split
    · omega
    · exact g.2 j
  · exact g.2 j
/-- A word anywhere, behind a put. -/
theorem getD_sput {s : List Int} (hl : s.length = 738) (i f n : Int) (j : Nat) : (sput s i f n).getD j 0 = if InSlot i f ∧ (5 * i + f).toNat = j then n + 1 else s.getD j 0 := by
  unfold sput
  by_cases h : InSlot i f
  · have h' := h
    unfold InSlot at h'
    rw [if_pos h, getD_set]
    by_cases e : (5 * i + f).toNat = j
    · rw [if_pos ⟨e, by omega⟩, if_pos ⟨h, e⟩]
    · rw [if_neg (fun q => e q.1), if_neg (fun q => e q.2)]
  · rw [if_neg h, if_neg (fun q => h q.1)]
theorem getD_put {s : List Int} (hl : s.length = 738) (i f n : Int) (j : Nat) : (put s i f n).getD j 0 = if InObj i f ∧ 0 ≤ n ∧ (480 + 8 * i + f).toNat = j then n else s.getD j 0 := by
  unfold put
  by_cases h : InObj i f ∧ 0 ≤ n
  · have h' := h.1
    unfold InObj at h'
    rw [if_pos h, getD_set]
    by_cases e : (480 + 8 * i + f).toNat = j
    · rw [if_pos ⟨e, by omega⟩, if_pos ⟨h.1, h.2, e⟩]
    · rw [if_neg (fun q => e q.1), if_neg (fun q => e q.2.2)]
  · rw [if_neg h, if_neg (fun q => h ⟨q.1, q.2.1⟩)]
theorem fld_sput {s : List Int} (hl : s.length = 738) (i f n i' f' : Int) : fld (sput s i f n) i' f' = fld s i' f' := by
  unfold fld
  split
  · rename_i h
    unfold InObj at h
    rw [getD_sput hl, if_neg]
    rintro ⟨q, e⟩
    unfold InSlot at q; omega
  · rfl
theorem sget_put {s : List Int} (hl : s.length = 738) (i f n i' f' : Int) : sget (put s i f n) i' f' = sget s i' f' := by
  unfold sget
  split
  · rename_i h
    unfold InSlot at h
    have : (put s i f n).getD (5 * i' + f').toNat 0 = s.getD (5 * i' + f').toNat 0 := by
      rw [getD_put hl, if_neg]
      rintro ⟨q, _, e⟩
      unfold InObj at q; omega
    rw [this]
  · rfl
theorem sget_sput {s : List Int} (hl : s.length = 738) (i f n i' f' : Int) (hn : -1 ≤ n ∧ n < 96) : sget (sput s i f n) i' f' = if InSlot i f ∧ i = i' ∧ f = f' then n else sget s i' f' := by
  unfold sget
  by_cases h' : InSlot i' f'
  · rw [if_pos h', if_pos h']
    have q := h'
    unfold InSlot at q
    by_cases e : InSlot i f ∧ i = i' ∧ f = f'
    · obtain ⟨h, rfl, rfl⟩ := e
      have hv : (sput s i f n).getD (5 * i + f).toNat 0 = n + 1 := by rw [getD_sput hl, if_pos ⟨h, rfl⟩]
      rw [hv, if_pos (show InSlot i f ∧ i = i ∧ f = f from ⟨h, rfl, rfl⟩)]
      split <;> omega
    · have hv : (sput s i f n).getD (5 * i' + f').toNat 0 = s.getD (5 * i' + f').toNat 0 := by
        rw [getD_sput hl, if_neg]
        rintro ⟨h, e2⟩
        have q2 := h
        unfold InSlot at q2
        exact e ⟨h, by omega, by omega⟩
      rw [hv, if_neg e]
  · rw [if_neg h', if_neg h', if_neg]
    rintro ⟨h, rfl, rfl⟩; exact h' h
theorem capAt_put {s : List Int} (hl : s.length = 738) (i f n k : Int) : capAt (put s i f n) k = capAt s k := by
  unfold capAt
  split
  · rename_i h
    unfold InSlot at h
    rw [getD_put hl, if_neg]
    rintro ⟨q, _, e⟩
    unfold InObj at q; omega
  · rfl
theorem capAt_sput {s : List Int} (hl : s.length = 738) (i f n k : Int) (hf : f ≠ 0) : capAt (sput s i f n) k = capAt s k := by
  unfold capAt
  split
  · rename_i h
    unfold InSlot at h
    rw [getD_sput hl, if_neg]
    rintro ⟨q, e⟩
    unfold InSlot at q; omega
  · rfl
theorem sthere_ok (i : Int) : cdt_there.f i = some (decide (InSlot i 0)) := by
  unfold cdt_there.f
  rw [slot_ok]
  by_cases h : InSlot i 0 <;> simp [h]
theorem parent_ok {s : List Int} (g : Good s) (i : Int) : VM.run plainI (cdt_Parent.f i) s = some (sget s i 1, s) := by
  unfold cdt_Parent.f; rw [runB, sget_ok g]; rfl
/-- A slot is linked below another one. -/
def linkTo (s : List Int) (kid par : Int) : List Int :=
  sput (sput (sput (sput (sput s kid 1 par) kid 3 (sget s par 2)) kid 4 (-1)) (sget s par 2) 4 kid) par 2 kid
def linkBad (s : List Int) (kid par : Int) : Int :=
  if ¬ (InSlot kid 0 ∧ InSlot par 0) then 2 else if kid = par ∨ sget s kid 1 ≠ -1 then 10 else 0
def eN' (n : Int) : Option Int := if n = 0 then none else some n
theorem goodU_linkTo {s : List Int} (g : GoodU s) (kid par : Int) (h1 : InSlot kid 0) (h2 : InSlot par 0) : GoodU (linkTo s kid par) := by
  unfold InSlot at h1 h2
  have hr := sget_rg s par 2
  unfold linkTo
  exact goodU_sput (goodU_sput (goodU_sput (goodU_sput (goodU_sput g _ _ _ (by omega)) _ _ _ (by omega)) _ _ _ (by decide)) _ _ _ (by omega)) _ _ _ (by omega)
theorem link_ok {s : List Int} (g : GoodU s) (kid par : Int) : VM.run plainI (cdt_Link.f kid par) s = some (eN' (linkBad s kid par), if linkBad s kid par = 0 then linkTo s kid par else s) := by
  unfold cdt_Link.f
  simp only [runB, runO, runC, sthere_ok, Option.map_some, Option.bind_some, runR]
  by_cases h1 : InSlot kid 0
  · by_cases h2 : InSlot par 0
    · simp only [h1, h2, decide_true, Bool.not_true, cond_false, Option.bind_some]
      by_cases h3 : kid = par ∨ sget s kid 1 ≠ -1
      · have hb : linkBad s kid par = 10 := by unfold linkBad; rw [if_neg (fun q => q ⟨h1, h2⟩), if_pos h3]
        rw [hb]
        have key : ∃ b, (bif kid == par then some (true, s) else (VM.run plainI (cdt_Parent.f kid) s).bind fun p => some (p.1 != -1, p.2)) = some (b, s) ∧ b = true := by
          by_cases e : kid = par
          · refine ⟨true, ?_, rfl⟩
            have : (kid == par) = true := by simpa using e
            rw [this]; rfl
          · have e1 : (kid == par) = false := by simpa using e
            rw [e1, cond_false, parent_ok g.1, Option.bind_some]
            refine ⟨_, rfl, ?_⟩
            rcases h3 with q | q
            · exact absurd q e
            · simpa using q
        obtain ⟨b, hb, rfl⟩ := key
        rw [hb, Option.bind_some]; rfl
      · have hb : linkBad s kid par = 0 := by unfold linkBad; rw [if_neg (fun q => q ⟨h1, h2⟩), if_neg h3]
        rw [hb]
        have n1 : ¬ kid = par := fun e => h3 (.inl e)
        have n2 : sget s kid 1 = -1 := by
          rcases Int.lt_or_le (sget s kid 1) 0 with q | q
          · have := (sget_rg s kid 1).1; omega
          · exact absurd (.inr (by omega)) h3
        have e1 : (kid == par) = false := by simpa using n1
        have e2 : (sget s kid 1 != -1) = false := by simp [n2]
        rw [e1, cond_false, parent_ok g.1, Option.bind_some, Option.bind_some]
        simp only [e2, cond_false, sget_ok g.1, Option.bind_some]
        have hr := sget_rg s par 2
        have h1' := h1
        have h2' := h2
        unfold InSlot at h1' h2'
        have g1 := goodU_sput g kid 1 par (by omega)
        have g2 := goodU_sput g1 kid 3 (sget s par 2) (by omega)
        have g3 := goodU_sput g2 kid 4 (-1) (by decide)
        have g4 := goodU_sput g3 (sget s par 2) 4 kid (by omega)
        simp only [sput_ok g.1 kid 1 par (by omega), sput_ok g1.1 kid 3 (sget s par 2) (by omega), sput_ok g2.1 kid 4 (-1) (by decide), sput_ok g3.1 (sget s par 2) 4 kid (by omega), sput_ok g4.1 par 2 kid (by omega), Option.bind_some]
        rfl
    · have hb : linkBad s kid par = 2 := by unfold linkBad; rw [if_pos (fun q => h2 q.2)]
      rw [hb]
      simp only [h1, h2, decide_true, decide_false, Bool.not_true, Bool.not_false, cond_false, cond_true, Option.bind_some]; rfl
  · have hb : linkBad s kid par = 2 := by unfold linkBad; rw [if_pos (fun q => h1 q.1)]
    rw [hb]
    simp only [h1, decide_false, Bool.not_false, cond_true, Option.bind_some]; rfl
theorem fld_linkTo {s : List Int} (hl : s.length = 738) (kid par i f : Int) : fld (linkTo s kid par) i f = fld s i f := by
  unfold linkTo
  rw [fld_sput (by simp [sput_len, hl]), fld_sput (by simp [sput_len, hl]), fld_sput (by simp [sput_len, hl]), fld_sput (by simp [sput_len, hl]), fld_sput hl]
theorem capAt_linkTo {s : List Int} (hl : s.length = 738) (kid par k : Int) : capAt (linkTo s kid par) k = capAt s k := by
  unfold linkTo
  rw [capAt_sput (by simp [sput_len, hl]) _ _ _ _ (by decide), capAt_sput (by simp [sput_len, hl]) _ _ _ _ (by decide), capAt_sput (by simp [sput_len, hl]) _ _ _ _ (by decide), capAt_sput (by simp [sput_len, hl]) _ _ _ _ (by decide), capAt_sput hl _ _ _ _ (by decide)]
end Go.Proofs
/-! Slots in a tree: linked and unlinked. -/
set_option linter.unusedVariables false
namespace Go.Proofs
open Go.Sl
structure Tree (P : Int → Int) (K : Int → List Int) : Prop where
  par : ∀ i, 0 ≤ i → i < 96 → -1 ≤ P i ∧ P i < 96
  kid : ∀ i, 0 ≤ i → i < 96 → ∀ x ∈ K i, 0 ≤ x ∧ x < 96 ∧ P x = i
  all : ∀ x, 0 ≤ x → x < 96 → 0 ≤ P x → x ∈ K (P x)
  nod : ∀ i, 0 ≤ i → i < 96 → (K i).Nodup
  irr : ∀ i, 0 ≤ i → i < 96 → P i ≠ i
def slw (P : Int → Int) (K : Int → List Int) (i f : Int) : Int :=
  if f = 1 then P i + 1 else if f = 2 then hd (K i) else if 0 ≤ P i then (if f = 3 then nextOf (K (P i)) i else prv 0 (K (P i)) i) else 0
theorem WF.tree {st : ref10_State} (h : WF st) : Tree (fun i => (slt st i).Parent) (fun i => (slt st i).Kids) := ⟨h.par, h.kid, h.all, h.nodk, h.irr⟩
theorem sl_slw (st : ref10_State) (i : Int) {f : Int} (hf : 1 ≤ f) : sl st i f = slw (fun i => (slt st i).Parent) (fun i => (slt st i).Kids) i f := by
  unfold sl slw
  rw [if_neg (by omega)]
def TW (P : Int → Int) (K : Int → List Int) (v : List Int) : Prop := ∀ i f, 0 ≤ i → i < 96 → 1 ≤ f → f < 5 → sget v i f = slw P K i f - 1
theorem IsW.tw {st : ref10_State} (h : WF st) {v : List Int} (hv : IsW st v) : TW (fun i => (slt st i).Parent) (fun i => (slt st i).Kids) v := fun i f i0 i1 f0 f1 => by
  have := sl_rg h (i := i) (f := f) ⟨i0, i1⟩ ⟨f0, f1⟩
  unfold sget
  rw [if_pos ⟨i0, i1, by omega, f1⟩, hv.slot i f i0 i1 (by omega) f1, ← sl_slw st i f0]
  split <;> omega
section
variable {P : Int → Int} {K : Int → List Int}
theorem Tree.link (t : Tree P K) {kid par : Int} (hk : 0 ≤ kid ∧ kid < 96) (hp : 0 ≤ par ∧ par < 96) (hP : P kid = -1) (hne : kid ≠ par) : Tree (fun i => if i = kid then par else P i) (fun i => if i = par then kid :: K par else K i) := by
  have hno : ∀ i, 0 ≤ i → i < 96 → kid ∉ K i := fun i i0 i1 z => by have := (t.kid i i0 i1 kid z).2.2; omega
  refine ⟨fun i i0 i1 => ?_, fun i i0 i1 x hx => ?_, fun x x0 x1 hx => ?_, fun i i0 i1 => ?_, fun i i0 i1 => ?_⟩
  · show -1 ≤ (if i = kid then par else P i) ∧ (if i = kid then par else P i) < 96
    split
    · omega
    · exact t.par i i0 i1
  · show 0 ≤ x ∧ x < 96 ∧ (if x = kid then par else P x) = i
    have hx : x ∈ (if i = par then kid :: K par else K i) := hx
    by_cases e : i = par
    · rw [if_pos e] at hx
      rcases List.mem_cons.1 hx with z | z
      · rw [if_pos z]; exact ⟨by omega, by omega, e.symm⟩
      · have := t.kid par hp.1 hp.2 x z
        rw [if_neg (fun q => by rw [q] at z; exact hno par hp.1 hp.2 z)]
        exact ⟨this.1, this.2.1, by rw [e]; exact this.2.2⟩
    · rw [if_neg e] at hx
      have := t.kid i i0 i1 x hx
      rw [if_neg (fun q => by rw [q] at hx; exact hno i i0 i1 hx)]
      exact this
  · have hx : 0 ≤ (if x = kid then par else P x) := hx
    show x ∈ (if (if x = kid then par else P x) = par then kid :: K par else K (if x = kid then par else P x))
    by_cases e : x = kid
    · rw [if_pos e, if_pos rfl, e]; exact List.mem_cons_self
    · rw [if_neg e] at hx ⊢
      have := t.all x x0 x1 hx
      split
      · rename_i q; rw [q] at this; exact List.mem_cons_of_mem _ this
      · exact this
  · show (if i = par then kid :: K par else K i).Nodup
    split
    · exact List.nodup_cons.2 ⟨hno par hp.1 hp.2, t.nod par hp.1 hp.2⟩
    · exact t.nod i i0 i1
  · show (if i = kid then par else P i) ≠ i
    split
    · rename_i e; rw [e]; exact fun z => hne z.symm
    · exact t.irr i i0 i1
theorem prv_cons {kid : Int} {l : List Int} {i : Int} (hn : i ∈ l) : prv (kid + 1) l i = if l.head? = some i then kid + 1 else prv 0 l i := by
  cases l with
  | nil => cases hn
  | cons b l =>
    show (if i = b then kid + 1 else prv (b + 1) l i) = if some b = some i then kid + 1 else (if i = b then 0 else prv (b + 1) l i)
    by_cases e : i = b
    · rw [if_pos e, if_pos (by rw [e])]
    · rw [if_neg e, if_neg (fun z => e (Option.some.inj z).symm), if_neg e]
theorem TW.link (t : Tree P K) {v : List Int} (hl : v.length = 738) (w : TW P K v) {kid par : Int} (hk : 0 ≤ kid ∧ kid < 96) (hp : 0 ≤ par ∧ par < 96) (hP : P kid = -1) (hne : kid ≠ par) : TW (fun i => if i = kid then par else P i) (fun i => if i = par then kid :: K par else K i) (linkTo v kid par) := by
  intro i f i0 i1 f0 f1
  have h2 : sget v par 2 = hd (K par) - 1 := w par 2 hp.1 hp.2 (by decide) (by decide)
  have hr := hd_rg (n := 96) (by decide) (l := K par) (fun x hx => by have := t.kid par hp.1 hp.2 x hx; omega)
  have s1 : InSlot kid 1 := ⟨hk.1, hk.2, by decide, by decide⟩
  have s3 : InSlot kid 3 := ⟨hk.1, hk.2, by decide, by decide⟩
  have s4 : InSlot kid 4 := ⟨hk.1, hk.2, by decide, by decide⟩
  have p2 : InSlot par 2 := ⟨hp.1, hp.2, by decide, by decide⟩
  have W := w i f i0 i1 f0 f1
  unfold linkTo
  rw [sget_sput (by simp [sput_len, hl]) _ _ _ _ _ (by omega), sget_sput (by simp [sput_len, hl]) _ _ _ _ _ (by omega), sget_sput (by simp [sput_len, hl]) _ _ _ _ _ (by decide), sget_sput (by simp [sput_len, hl]) _ _ _ _ _ (by omega), sget_sput hl _ _ _ _ _ (by omega), W, h2]
  have hkno : kid ∉ K par := fun z => by have := (t.kid par hp.1 hp.2 kid z).2.2; omega
  have pi := t.par i i0 i1
  rcases (by omega : f = 1 ∨ f = 2 ∨ f = 3 ∨ f = 4) with rfl | rfl | rfl | rfl
  · rw [if_neg (by omega), if_neg (by omega), if_neg (by omega), if_neg (by omega)]
    show _ = (if i = kid then par else P i) + 1 - 1
    show (if InSlot kid 1 ∧ kid = i ∧ (1 : Int) = 1 then par else P i + 1 - 1) = _
    by_cases e : i = kid
    · rw [if_pos e, if_pos ⟨s1, e.symm, rfl⟩]; omega
    · rw [if_neg e, if_neg (fun z => e z.2.1.symm)]
  · rw [if_neg (c := InSlot _ 4 ∧ _) (by omega), if_neg (c := InSlot kid 4 ∧ _) (by omega), if_neg (c := InSlot kid 3 ∧ _) (by omega), if_neg (c := InSlot kid 1 ∧ _) (by omega)]
    show (if InSlot par 2 ∧ par = i ∧ (2 : Int) = 2 then kid else hd (K i) - 1) = hd (if i = par then kid :: K par else K i) - 1
    by_cases e : i = par
    · rw [if_pos e, if_pos ⟨p2, e.symm, rfl⟩]; show kid = kid + 1 - 1; omega
    · rw [if_neg e, if_neg (fun z => e z.2.1.symm)]
  · rw [if_neg (by omega), if_neg (by omega), if_neg (by omega), if_neg (c := InSlot kid 1 ∧ _) (by omega)]
    show (if InSlot kid 3 ∧ kid = i ∧ (3 : Int) = 3 then hd (K par) - 1 else (if 0 ≤ P i then nextOf (K (P i)) i else 0) - 1) = (if 0 ≤ (if i = kid then par else P i) then nextOf (if (if i = kid then par else P i) = par then kid :: K par else K (if i = kid then par else P i)) i else 0) - 1
    by_cases e : i = kid
    · rw [if_pos e, if_pos ⟨s3, e.symm, rfl⟩, if_pos hp.1, if_pos rfl]
      show _ = (if i = kid then hd (K par) else _) - 1
      rw [if_pos e]
    · rw [if_neg e, if_neg (fun z => e z.2.1.symm)]
      by_cases e2 : P i = par
      · rw [e2, if_pos hp.1, if_pos hp.1, if_pos rfl]
        show _ = (if i = kid then _ else nextOf (K par) i) - 1
        rw [if_neg e]
      · rw [if_neg e2]
  · rw [if_neg (by omega)]
    rw [if_neg (c := InSlot kid 3 ∧ _) (by omega), if_neg (c := InSlot kid 1 ∧ _) (by omega)]
    show (if InSlot (hd (K par) - 1) 4 ∧ hd (K par) - 1 = i ∧ (4 : Int) = 4 then kid else if InSlot kid 4 ∧ kid = i ∧ (4 : Int) = 4 then -1 else (if 0 ≤ P i then prv 0 (K (P i)) i else 0) - 1) = (if 0 ≤ (if i = kid then par else P i) then prv 0 (if (if i = kid then par else P i) = par then kid :: K par else K (if i = kid then par else P i)) i else 0) - 1
    have hh : hd (K par) - 1 = i → i ∈ K par ∧ (K par).head? = some i := fun z => by
      cases hK : K par with
      | nil => rw [hK] at z; have : (0 : Int) - 1 = i := z; omega
      | cons b l =>
        rw [hK] at z
        have : b + 1 - 1 = i := z
        have : b = i := by omega
        rw [this]; exact ⟨List.mem_cons_self, rfl⟩
    by_cases e : i = kid
    · have nh : ¬ hd (K par) - 1 = i := fun z => by have := (hh z).1; rw [e] at this; exact hkno this
      rw [if_pos e, if_neg (fun z => nh z.2.1), if_pos ⟨s4, e.symm, rfl⟩, if_pos hp.1, if_pos rfl]
      show _ = (if i = kid then 0 else _) - 1
      rw [if_pos e]; rfl
    · rw [if_neg e, if_neg (c := InSlot kid 4 ∧ _) (fun z => e z.2.1.symm)]
      by_cases e2 : P i = par
      · have hm : i ∈ K par := by have := t.all i i0 i1 (by omega); rwa [e2] at this
        rw [e2, if_pos hp.1, if_pos hp.1, if_pos rfl]
        show _ = (if i = kid then 0 else prv (kid + 1) (K par) i) - 1
        rw [if_neg e, prv_cons hm]
        by_cases e3 : hd (K par) - 1 = i
        · rw [if_pos ⟨by rw [e3]; exact ⟨i0, i1, by decide, by decide⟩, e3, rfl⟩, if_pos (hh e3).2]; omega
        · rw [if_neg (fun z => e3 z.2.1), if_neg]
          intro z
          cases hK : K par with
          | nil => rw [hK] at z; cases z
          | cons b l =>
            rw [hK] at z e3
            apply e3
            show b + 1 - 1 = i
            have : b = i := Option.some.inj z
            omega
      · rw [if_neg e2, if_neg]
        intro z
        have := (t.kid par hp.1 hp.2 i (hh z.2.1).1).2.2
        exact e2 this
theorem Tree.unlink (t : Tree P K) {kid p : Int} (hk : 0 ≤ kid ∧ kid < 96) (hP : P kid = p) (hp : 0 ≤ p) : Tree (fun i => if i = kid then -1 else P i) (fun i => if i = p then (K p).erase kid else K i) := by
  have hp1 := (t.par kid hk.1 hk.2).2
  rw [hP] at hp1
  have hno : ∀ i, 0 ≤ i → i < 96 → i ≠ p → kid ∉ K i := fun i i0 i1 e z => by have := (t.kid i i0 i1 kid z).2.2; omega
  refine ⟨fun i i0 i1 => ?_, fun i i0 i1 x hx => ?_, fun x x0 x1 hx => ?_, fun i i0 i1 => ?_, fun i i0 i1 => ?_⟩
  · show -1 ≤ (if i = kid then -1 else P i) ∧ (if i = kid then -1 else P i) < 96
    split
    · omega
    · exact t.par i i0 i1
  · show 0 ≤ x ∧ x < 96 ∧ (if x = kid then -1 else P x) = i
    have hx : x ∈ (if i = p then (K p).erase kid else K i) := hx
    by_cases e : i = p
    · rw [if_pos e] at hx
      have hn := t.nod p hp hp1
      have hxk : x ≠ kid := fun z => by rw [z] at hx; exact (List.Nodup.not_mem_erase hn) hx
      have := t.kid p hp hp1 x (List.mem_of_mem_erase hx)
      rw [if_neg hxk]
      exact ⟨this.1, this.2.1, by rw [e]; exact this.2.2⟩
    · rw [if_neg e] at hx
      have := t.kid i i0 i1 x hx
      rw [if_neg (fun q => by rw [q] at hx; exact hno i i0 i1 e hx)]
      exact this
  · have hx : 0 ≤ (if x = kid then -1 else P x) := hx
    show x ∈ (if (if x = kid then -1 else P x) = p then (K p).erase kid else K (if x = kid then -1 else P x))
    by_cases e : x = kid
    · rw [if_pos e] at hx; omega
    · rw [if_neg e] at hx ⊢
      have := t.all x x0 x1 hx
      split
      · rename_i q; rw [q] at this; exact (List.mem_erase_of_ne e).2 this
      · exact this
  · show (if i = p then (K p).erase kid else K i).Nodup
    split
    · exact (t.nod p hp hp1).erase _
    · exact t.nod i i0 i1
  · show (if i = kid then -1 else P i) ≠ i
    split
    · omega
    · exact t.irr i i0 i1
end
end Go.Proofs
/-! One less in a list: who follows, who comes before. -/
set_option linter.unusedVariables false
namespace Go.Proofs
open Go.Sl
theorem hd_pos {l : List Int} (h : ∀ x ∈ l, 0 ≤ x) {y : Int} (hy : 0 ≤ y) : hd l = y + 1 ↔ l.head? = some y := by
  cases l with
  | nil => exact ⟨fun z => by have : (0 : Int) = y + 1 := z; omega, fun z => by cases z⟩
  | cons b r => exact ⟨fun z => by have : b + 1 = y + 1 := z; show some b = some y; congr 1; omega, fun z => by have : b = y := Option.some.inj z; show b + 1 = y + 1; omega⟩
theorem nextOf_mem {y : Int} (hy : 0 ≤ y) : ∀ {l : List Int} {x : Int}, nextOf l x = y + 1 → y ∈ l
  | [], x, h => by have : (0 : Int) = y + 1 := h; omega
  | b :: r, x, h => by
    have h : (if x = b then hd r else nextOf r x) = y + 1 := h
    split at h
    · cases r with
      | nil => have : (0 : Int) = y + 1 := h; omega
      | cons c r => have : c + 1 = y + 1 := h; have : c = y := by omega
                    rw [this]; exact List.mem_cons_of_mem _ List.mem_cons_self
    · exact List.mem_cons_of_mem _ (nextOf_mem hy h)
theorem erase_hd {l : List Int} {k : Int} (hk : k ∈ l) (hn : l.Nodup) : hd (l.erase k) = if l.head? = some k then nextOf l k else hd l := by
  cases l with
  | nil => cases hk
  | cons b r =>
    by_cases e : b = k
    · subst e
      rw [List.head?_cons, if_pos rfl, List.erase_cons_head]
      show _ = if b = b then hd r else _
      rw [if_pos rfl]
    · rw [List.head?_cons, if_neg (fun z => e (Option.some.inj z)), List.erase_cons_tail (by simpa using e)]; rfl
theorem erase_next {k : Int} (k0 : 0 ≤ k) : ∀ {l : List Int} {x : Int}, (∀ y ∈ l, 0 ≤ y) → l.Nodup → k ∈ l → x ∈ l → x ≠ k → nextOf (l.erase k) x = if nextOf l x = k + 1 then nextOf l k else nextOf l x
  | [], _, _, _, h, _, _ => by cases h
  | b :: r, x, h0, hn, hk, hx, hxk => by
    have hn2 := List.nodup_cons.1 hn
    by_cases e : b = k
    · subst e
      have hxr : x ∈ r := by rcases List.mem_cons.1 hx with z | z; exact absurd z hxk; exact z
      rw [List.erase_cons_head]
      have e1 : nextOf (b :: r) x = nextOf r x := by show (if x = b then _ else _) = _; rw [if_neg hxk]
      rw [e1, if_neg (fun z => hn2.1 (nextOf_mem k0 z))]
    · have hkr : k ∈ r := by rcases List.mem_cons.1 hk with z | z; exact absurd z.symm e; exact z
      rw [List.erase_cons_tail (by simpa using e)]
      have e2 : nextOf (b :: r) k = nextOf r k := by show (if k = b then _ else _) = _; rw [if_neg (fun z => e z.symm)]
      rw [e2]
      by_cases ex : x = b
      · subst ex
        have e1 : nextOf (x :: r) x = hd r := by show (if x = x then _ else _) = _; rw [if_pos rfl]
        have e3 : nextOf (x :: r.erase k) x = hd (r.erase k) := by show (if x = x then _ else _) = _; rw [if_pos rfl]
        rw [e1, e3, erase_hd hkr hn2.2]
        have := hd_pos (fun y hy => h0 y (List.mem_cons_of_mem _ hy)) (l := r) k0
        by_cases c : r.head? = some k
        · rw [if_pos c, if_pos (this.2 c)]
        · rw [if_neg c, if_neg (fun z => c (this.1 z))]
      · have hxr : x ∈ r := by rcases List.mem_cons.1 hx with z | z; exact absurd z ex; exact z
        have e1 : nextOf (b :: r) x = nextOf r x := by show (if x = b then _ else _) = _; rw [if_neg ex]
        have e3 : nextOf (b :: r.erase k) x = nextOf (r.erase k) x := by show (if x = b then _ else _) = _; rw [if_neg ex]
        rw [e1, e3]
        exact erase_next k0 (fun y hy => h0 y (List.mem_cons_of_mem _ hy)) hn2.2 hkr hxr hxk
theorem prv_acc {l : List Int} {y a a' : Int} (hy : y ∈ l) (hh : l.head? ≠ some y) : prv a l y = prv a' l y := by
  cases l with
  | nil => cases hy
  | cons b r =>
    have : y ≠ b := fun z => hh (by rw [z]; rfl)
    show (if y = b then a else prv (b + 1) r y) = if y = b then a' else prv (b + 1) r y
    rw [if_neg this, if_neg this]
theorem erase_prv {k : Int} (k0 : 0 ≤ k) : ∀ {l : List Int} {y a : Int}, (∀ y ∈ l, 0 ≤ y) → l.Nodup → k ∈ l → y ∈ l → y ≠ k → prv a (l.erase k) y = if nextOf l k = y + 1 then prv a l k else prv a l y
  | [], _, _, _, _, h, _, _ => by cases h
  | b :: r, y, a, h0, hn, hk, hy, hyk => by
    have hn2 := List.nodup_cons.1 hn
    have h0r : ∀ y ∈ r, 0 ≤ y := fun y hy => h0 y (List.mem_cons_of_mem _ hy)
    have y0 := h0 y hy
    by_cases e : b = k
    · subst e
      have hyr : y ∈ r := by rcases List.mem_cons.1 hy with z | z; exact absurd z hyk; exact z
      rw [List.erase_cons_head]
      have e1 : nextOf (b :: r) b = hd r := by show (if b = b then _ else _) = _; rw [if_pos rfl]
      have e2 : prv a (b :: r) b = a := by show (if b = b then _ else _) = _; rw [if_pos rfl]
      have e3 : prv a (b :: r) y = prv (b + 1) r y := by show (if y = b then _ else _) = _; rw [if_neg hyk]
      rw [e1, e2, e3]
      have hp := hd_pos h0r y0
      by_cases c : r.head? = some y
      · rw [if_pos (hp.2 c)]
        cases r with
        | nil => cases c
        | cons d r =>
          have : d = y := Option.some.inj c
          show (if y = d then a else _) = a
          rw [if_pos this.symm]
      · rw [if_neg (fun z => c (hp.1 z))]
        exact prv_acc hyr c
    · have hkr : k ∈ r := by rcases List.mem_cons.1 hk with z | z; exact absurd z.symm e; exact z
      rw [List.erase_cons_tail (by simpa using e)]
      have e2 : nextOf (b :: r) k = nextOf r k := by show (if k = b then _ else _) = _; rw [if_neg (fun z => e z.symm)]
      have e4 : prv a (b :: r) k = prv (b + 1) r k := by show (if k = b then _ else _) = _; rw [if_neg (fun z => e z.symm)]
      rw [e2, e4]
      by_cases ey : y = b
      · subst ey
        have e1 : prv a (y :: r.erase k) y = a := by show (if y = y then _ else _) = _; rw [if_pos rfl]
        have e3 : prv a (y :: r) y = a := by show (if y = y then _ else _) = _; rw [if_pos rfl]
        rw [e1, e3, if_neg (fun z => hn2.1 (nextOf_mem y0 z))]
      · have hyr : y ∈ r := by rcases List.mem_cons.1 hy with z | z; exact absurd z ey; exact z
        have e1 : prv a (b :: r.erase k) y = prv (b + 1) (r.erase k) y := by show (if y = b then _ else _) = _; rw [if_neg ey]
        have e3 : prv a (b :: r) y = prv (b + 1) r y := by show (if y = b then _ else _) = _; rw [if_neg ey]
        rw [e1, e3]
        exact erase_prv k0 h0r hn2.2 hkr hyr hyk
end Go.Proofs
/-! Slots in a tree: the words of one that is unlinked. -/
set_option linter.unusedVariables false
namespace Go.Proofs
open Go.Sl
def besideTo (v : List Int) (i b e : Int) : List Int := sput (if sget v i 4 ≠ -1 then sput v (sget v i 4) 3 b else sput v (sget v i 1) 2 b) (sget v i 3) 4 e
def clearTo (v : List Int) (i : Int) : List Int := sput (sput (sput v i 1 (-1)) i 3 (-1)) i 4 (-1)
def unlinkTo (v : List Int) (kid : Int) : List Int := clearTo (besideTo v kid (sget v kid 3) (sget v kid 4)) kid
theorem prv_mem {y : Int} (hy : 0 ≤ y) : ∀ {l : List Int} {x a : Int}, prv a l x = y + 1 → a ≠ y + 1 → y ∈ l
  | [], x, a, h, _ => by have : (0 : Int) = y + 1 := h; omega
  | b :: r, x, a, h, ha => by
    have h : (if x = b then a else prv (b + 1) r x) = y + 1 := h
    split at h
    · exact absurd h ha
    · by_cases e : b = y
      · rw [e]; exact List.mem_cons_self
      · exact List.mem_cons_of_mem _ (prv_mem hy h (by omega))
/-- Who comes before is whom one follows. -/
theorem prv_next {k x : Int} (k0 : 0 ≤ k) (x0 : 0 ≤ x) : ∀ {l : List Int} {a : Int}, (∀ y ∈ l, 0 ≤ y) → l.Nodup → k ∈ l → x ∈ l → a ≠ x + 1 → (prv a l k = x + 1 ↔ nextOf l x = k + 1)
  | [], _, _, _, h, _, _ => by cases h
  | b :: r, a, h0, hn, hk, hx, ha => by
    have hn2 := List.nodup_cons.1 hn
    have h0r : ∀ y ∈ r, 0 ≤ y := fun y hy => h0 y (List.mem_cons_of_mem _ hy)
    show (if k = b then a else prv (b + 1) r k) = x + 1 ↔ (if x = b then hd r else nextOf r x) = k + 1
    by_cases e : k = b
    · rw [if_pos e]
      refine ⟨fun z => absurd z ha, fun z => ?_⟩
      exfalso
      by_cases ex : x = b
      · rw [if_pos ex] at z
        have := (hd_pos h0r k0).1 z
        apply hn2.1; rw [← e]
        cases r with
        | nil => cases this
        | cons c r => have : c = k := Option.some.inj this; rw [this]; exact List.mem_cons_self
      · rw [if_neg ex] at z
        apply hn2.1; rw [← e]; exact nextOf_mem k0 z
    · rw [if_neg e]
      have hkr : k ∈ r := by rcases List.mem_cons.1 hk with z | z; exact absurd z e; exact z
      by_cases ex : x = b
      · rw [if_pos ex]
        have hp := hd_pos h0r k0
        rw [hp, ex]
        by_cases c : r.head? = some k
        · refine ⟨fun _ => c, fun _ => ?_⟩
          cases r with
          | nil => cases c
          | cons d r => have : d = k := Option.some.inj c; show (if k = d then b + 1 else _) = _; rw [if_pos this.symm]
        · refine ⟨fun z => ?_, fun z => absurd z c⟩
          exfalso
          rw [prv_acc (a' := 0) hkr c] at z
          have b0 := h0 b List.mem_cons_self
          exact hn2.1 (prv_mem b0 z (by omega))
      · rw [if_neg ex]
        have hxr : x ∈ r := by rcases List.mem_cons.1 hx with z | z; exact absurd z ex; exact z
        exact prv_next k0 x0 h0r hn2.2 hkr hxr (by omega)
theorem prv_zero {k : Int} : ∀ {l : List Int}, (∀ y ∈ l, 0 ≤ y) → k ∈ l → (prv 0 l k = 0 ↔ l.head? = some k)
  | [], _, h => by cases h
  | b :: r, h0, hk => by
    show (if k = b then 0 else prv (b + 1) r k) = 0 ↔ some b = some k
    by_cases e : k = b
    · rw [if_pos e, e]; exact ⟨fun _ => rfl, fun _ => rfl⟩
    · rw [if_neg e]
      refine ⟨fun z => ?_, fun z => absurd (Option.some.inj z).symm e⟩
      exfalso
      have hkr : k ∈ r := by rcases List.mem_cons.1 hk with z | z; exact absurd z e; exact z
      have key : ∀ (l : List Int) (a : Int), 1 ≤ a → (∀ y ∈ l, 0 ≤ y) → k ∈ l → 1 ≤ prv a l k := by
        intro l
        induction l with
        | nil => intro a _ _ h; cases h
        | cons c l ih =>
          intro a ha h0 h
          show 1 ≤ (if k = c then a else prv (c + 1) l k)
          split
          · exact ha
          · rename_i ne
            have := h0 c List.mem_cons_self
            exact ih (c + 1) (by omega) (fun y hy => h0 y (List.mem_cons_of_mem _ hy)) (by rcases List.mem_cons.1 h with z | z; exact absurd z ne; exact z)
      have b0 := h0 b List.mem_cons_self
      have := key r (b + 1) (by omega) (fun y hy => h0 y (List.mem_cons_of_mem _ hy)) hkr
      omega
section
variable {P : Int → Int} {K : Int → List Int}
theorem len_besideTo {v : List Int} (i b e : Int) : (besideTo v i b e).length = v.length := by unfold besideTo; rw [sput_len]; split <;> rw [sput_len]
theorem sget_besideTo {v : List Int} (hl : v.length = 738) {i b e : Int} (hb : -1 ≤ b ∧ b < 96) (he : -1 ≤ e ∧ e < 96) (x f : Int) : sget (besideTo v i b e) x f = if InSlot (sget v i 3) 4 ∧ sget v i 3 = x ∧ 4 = f then e else if sget v i 4 ≠ -1 then (if InSlot (sget v i 4) 3 ∧ sget v i 4 = x ∧ 3 = f then b else sget v x f) else (if InSlot (sget v i 1) 2 ∧ sget v i 1 = x ∧ 2 = f then b else sget v x f) := by
  unfold besideTo
  by_cases c : sget v i 4 ≠ -1
  · rw [if_pos c, if_pos c, sget_sput (by rw [sput_len]; exact hl) _ _ _ _ _ he, sget_sput hl _ _ _ _ _ hb]
  · rw [if_neg c, if_neg c, sget_sput (by rw [sput_len]; exact hl) _ _ _ _ _ he, sget_sput hl _ _ _ _ _ hb]
theorem sget_clearTo {v : List Int} (hl : v.length = 738) {i : Int} (hi : 0 ≤ i ∧ i < 96) (x f : Int) : sget (clearTo v i) x f = if i = x ∧ (f = 1 ∨ f = 3 ∨ f = 4) then -1 else sget v x f := by
  unfold clearTo
  have s1 : InSlot i 1 := ⟨hi.1, hi.2, by decide, by decide⟩
  have s3 : InSlot i 3 := ⟨hi.1, hi.2, by decide, by decide⟩
  have s4 : InSlot i 4 := ⟨hi.1, hi.2, by decide, by decide⟩
  rw [sget_sput (by simp [sput_len, hl]) _ _ _ _ _ (by decide), sget_sput (by simp [sput_len, hl]) _ _ _ _ _ (by decide), sget_sput hl _ _ _ _ _ (by decide)]
  by_cases e : i = x
  · by_cases c : f = 1 ∨ f = 3 ∨ f = 4
    · rw [show (if i = x ∧ (f = 1 ∨ f = 3 ∨ f = 4) then (-1 : Int) else sget v x f) = -1 from if_pos ⟨e, c⟩]
      rcases c with rfl | rfl | rfl
      · rw [if_neg (by omega), if_neg (by omega), if_pos ⟨s1, e, rfl⟩]
      · rw [if_neg (by omega), if_pos ⟨s3, e, rfl⟩]
      · rw [if_pos ⟨s4, e, rfl⟩]
    · rw [show (if i = x ∧ (f = 1 ∨ f = 3 ∨ f = 4) then (-1 : Int) else sget v x f) = sget v x f from if_neg (fun z => c z.2), if_neg (by omega), if_neg (by omega), if_neg (by omega)]
  · rw [show (if i = x ∧ (f = 1 ∨ f = 3 ∨ f = 4) then (-1 : Int) else sget v x f) = sget v x f from if_neg (fun z => e z.1), if_neg (fun z => e z.2.1), if_neg (fun z => e z.2.1), if_neg (fun z => e z.2.1)]
theorem TW.unlink (t : Tree P K) {v : List Int} (hl : v.length = 738) (w : TW P K v) {kid p : Int} (hk : 0 ≤ kid ∧ kid < 96) (hP : P kid = p) (hp : 0 ≤ p) : TW (fun i => if i = kid then -1 else P i) (fun i => if i = p then (K p).erase kid else K i) (unlinkTo v kid) := by
  have hp1 := (t.par kid hk.1 hk.2).2
  rw [hP] at hp1
  have hm : kid ∈ K p := by have := t.all kid hk.1 hk.2 (by omega); rwa [hP] at this
  have hn := t.nod p hp hp1
  have hr : ∀ x ∈ K p, 0 ≤ x ∧ x < 96 := fun x hx => by have := t.kid p hp hp1 x hx; omega
  have h0 : ∀ x ∈ K p, 0 ≤ x := fun x hx => (hr x hx).1
  have g1 : sget v kid 1 = p := by rw [w kid 1 hk.1 hk.2 (by decide) (by decide)]; unfold slw; rw [if_pos rfl, hP]; omega
  have g3 : sget v kid 3 = nextOf (K p) kid - 1 := by rw [w kid 3 hk.1 hk.2 (by decide) (by decide)]; unfold slw; rw [if_neg (by decide), if_neg (by decide), hP, if_pos hp, if_pos rfl]
  have g4 : sget v kid 4 = prv 0 (K p) kid - 1 := by rw [w kid 4 hk.1 hk.2 (by decide) (by decide)]; unfold slw; rw [if_neg (by decide), if_neg (by decide), hP, if_pos hp, if_neg (by decide)]
  have r3 := nextOf_rg (n := 96) (by decide) kid hr
  have r4 := prv_rg (n := 96) (by decide) kid (a := 0) (by decide) (by decide) hr
  intro i f i0 i1 f0 f1
  have W := w i f i0 i1 f0 f1
  unfold unlinkTo
  rw [sget_clearTo (by rw [len_besideTo]; exact hl) hk, sget_besideTo hl (sget_rg v kid 3) (sget_rg v kid 4), g1, g3, g4, W]
  clear W
  have pi := t.par i i0 i1
  have q4 : nextOf (K p) kid - 1 = i → i ∈ K p := fun z => nextOf_mem i0 (x := kid) (by omega)
  have q3 : prv 0 (K p) kid - 1 = i → i ∈ K p := fun z => prv_mem i0 (x := kid) (a := 0) (by omega) (by omega)
  have hPi : i ∈ K p → P i = p := fun z => (t.kid p hp hp1 i z).2.2
  have hz := prv_zero h0 hm
  rcases (by omega : f = 1 ∨ f = 2 ∨ f = 3 ∨ f = 4) with rfl | rfl | rfl | rfl
  · show _ = (if i = kid then -1 else P i) + 1 - 1
    by_cases e : i = kid
    · rw [if_pos ⟨e.symm, .inl rfl⟩, if_pos e]; rfl
    · rw [if_neg (fun z => e z.1.symm), if_neg e, if_neg (by omega)]
      have : slw P K i 1 = P i + 1 := rfl
      rw [this]
      split
      · rw [if_neg (by omega)]
      · rw [if_neg (by omega)]
  · show _ = hd (if i = p then (K p).erase kid else K i) - 1
    have e2 : slw P K i 2 = hd (K i) := rfl
    rw [if_neg (by omega), if_neg (by omega), e2]
    by_cases e : i = p
    · rw [if_pos e, erase_hd hm hn]
      by_cases c : (K p).head? = some kid
      · rw [if_neg (by have := hz.2 c; omega), if_pos ⟨⟨hp, hp1, by decide, by decide⟩, e.symm, rfl⟩, if_pos c]
      · rw [if_pos (fun z => c (hz.1 (by omega))), if_neg (by omega), if_neg c, e]
    · rw [if_neg e]
      split
      · rw [if_neg (by omega)]
      · rw [if_neg (fun z => e z.2.1.symm)]
  · show _ = (if 0 ≤ (if i = kid then -1 else P i) then nextOf (if (if i = kid then -1 else P i) = p then (K p).erase kid else K (if i = kid then -1 else P i)) i else 0) - 1
    have e3 : slw P K i 3 = if 0 ≤ P i then nextOf (K (P i)) i else 0 := rfl
    by_cases e : i = kid
    · rw [if_pos ⟨e.symm, .inr (.inl rfl)⟩, if_pos e, if_neg (by decide)]; rfl
    · rw [if_neg (fun z => e z.1.symm), if_neg (by omega), e3, if_neg e]
      by_cases e2 : P i = p
      · have hi : i ∈ K p := by have := t.all i i0 i1 (by omega); rwa [e2] at this
        have hpn := prv_next (k := kid) (x := i) hk.1 i0 (a := 0) h0 hn hm hi (by omega)
        rw [e2, if_pos rfl, if_pos hp, if_pos hp, erase_next hk.1 h0 hn hm hi e]
        by_cases c : prv 0 (K p) kid = i + 1
        · rw [if_pos (by omega), if_pos ⟨⟨by omega, by omega, by decide, by decide⟩, by omega, rfl⟩, if_pos (hpn.1 c)]
        · rw [if_neg (show ¬ nextOf (K p) i = kid + 1 from fun z => c (hpn.2 z))]
          split
          · rw [if_neg (by omega)]
          · rw [if_neg (by omega)]
      · rw [if_neg e2]
        split
        · rw [if_neg (fun z => e2 (hPi (q3 z.2.1)))]
        · rw [if_neg (by omega)]
  · show _ = (if 0 ≤ (if i = kid then -1 else P i) then prv 0 (if (if i = kid then -1 else P i) = p then (K p).erase kid else K (if i = kid then -1 else P i)) i else 0) - 1
    have e3 : slw P K i 4 = if 0 ≤ P i then prv 0 (K (P i)) i else 0 := rfl
    by_cases e : i = kid
    · rw [if_pos ⟨e.symm, .inr (.inr rfl)⟩, if_pos e, if_neg (by decide)]; rfl
    · rw [if_neg (fun z => e z.1.symm), e3, if_neg e]
      by_cases e2 : P i = p
      · have hi : i ∈ K p := by have := t.all i i0 i1 (by omega); rwa [e2] at this
        rw [e2, if_pos rfl, if_pos hp, if_pos hp, erase_prv hk.1 h0 hn hm hi e]
        by_cases c : nextOf (K p) kid = i + 1
        · rw [if_pos ⟨⟨by omega, by omega, by decide, by decide⟩, by omega, rfl⟩, if_pos c]
        · rw [if_neg (show ¬ nextOf (K p) kid = i + 1 from c), if_neg (fun z => c (by omega))]
          split
          · rw [if_neg (by omega)]
          · rw [if_neg (by omega)]
      · rw [if_neg (fun z => e2 (hPi (q4 z.2.1))), if_neg e2]
        split
        · rw [if_neg (by omega)]
        · rw [if_neg (by omega)]
end
end Go.Proofs
/-! One for another in a list: who follows, who comes before. -/
set_option linter.unusedVariables false
namespace Go.Proofs
open Go.Sl
def rp (a b x : Int) : Int := if x = a then b else x
def rep (a b : Int) (l : List Int) : List Int := l.map (rp a b)
theorem rep_mem {a b : Int} {l : List Int} (hb : b ∉ l) {x : Int} : x ∈ rep a b l ↔ (x = b ∧ a ∈ l) ∨ (x ≠ a ∧ x ∈ l) := by
  unfold rep
  rw [List.mem_map]
  constructor
  · rintro ⟨y, hy, rfl⟩
    unfold rp
    by_cases e : y = a
    · rw [if_pos e]; exact .inl ⟨rfl, by rw [← e]; exact hy⟩
    · rw [if_neg e]; exact .inr ⟨e, hy⟩
  · rintro (⟨rfl, h⟩ | ⟨h1, h2⟩)
    · exact ⟨a, h, by unfold rp; rw [if_pos rfl]⟩
    · exact ⟨x, h2, by unfold rp; rw [if_neg h1]⟩
theorem rep_nodup {a b : Int} : ∀ {l : List Int}, b ∉ l → l.Nodup → (rep a b l).Nodup
  | [], _, _ => List.nodup_nil
  | c :: r, hb, hn => by
    have hn2 := List.nodup_cons.1 hn
    have hbr : b ∉ r := fun z => hb (List.mem_cons_of_mem _ z)
    have hcb : c ≠ b := fun z => hb (by rw [z]; exact List.mem_cons_self)
    show (rp a b c :: rep a b r).Nodup
    refine List.nodup_cons.2 ⟨fun z => ?_, rep_nodup hbr hn2.2⟩
    rw [rep_mem hbr] at z
    unfold rp at z
    by_cases e : c = a
    · rw [if_pos e] at z
      rcases z with ⟨_, z⟩ | ⟨_, z⟩
      · rw [← e] at z; exact hn2.1 z
      · exact hbr z
    · rw [if_neg e] at z
      rcases z with ⟨z, _⟩ | ⟨_, z⟩
      · exact hcb z
      · exact hn2.1 z
def rq (a b n : Int) : Int := if n = a + 1 then b + 1 else n
theorem rep_hd {a b : Int} (a0 : 0 ≤ a) (l : List Int) : hd (rep a b l) = rq a b (hd l) := by
  cases l with
  | nil => show (0 : Int) = if (0 : Int) = a + 1 then b + 1 else 0; rw [if_neg (by omega)]
  | cons c r =>
    show rp a b c + 1 = if c + 1 = a + 1 then b + 1 else c + 1
    unfold rp
    by_cases e : c = a
    · rw [if_pos e, if_pos (by omega)]
    · rw [if_neg e, if_neg (by omega)]
theorem rep_next {a b : Int} (a0 : 0 ≤ a) : ∀ {l : List Int} {x : Int}, b ∉ l → x ∈ l → nextOf (rep a b l) (rp a b x) = rq a b (nextOf l x)
  | [], _, _, h => by cases h
  | c :: r, x, hb, hx => by
    have hbr : b ∉ r := fun z => hb (List.mem_cons_of_mem _ z)
    have hcb : c ≠ b := fun z => hb (by rw [z]; exact List.mem_cons_self)
    have hxb : x ≠ b := fun z => hb (by rw [← z]; exact hx)
    show (if rp a b x = rp a b c then hd (rep a b r) else nextOf (rep a b r) (rp a b x)) = rq a b (if x = c then hd r else nextOf r x)
    by_cases e : x = c
    · rw [e, if_pos rfl, if_pos rfl, rep_hd a0]
    · have : rp a b x ≠ rp a b c := by unfold rp; split <;> split <;> omega
      rw [if_neg this, if_neg e]
      exact rep_next a0 hbr (by rcases List.mem_cons.1 hx with z | z; exact absurd z e; exact z)
theorem rep_prv {a b : Int} (a0 : 0 ≤ a) : ∀ {l : List Int} {x m : Int}, b ∉ l → x ∈ l → prv (rq a b m) (rep a b l) (rp a b x) = rq a b (prv m l x)
  | [], _, _, _, h => by cases h
  | c :: r, x, m, hb, hx => by
    have hbr : b ∉ r := fun z => hb (List.mem_cons_of_mem _ z)
    have hcb : c ≠ b := fun z => hb (by rw [z]; exact List.mem_cons_self)
    have hxb : x ≠ b := fun z => hb (by rw [← z]; exact hx)
    show (if rp a b x = rp a b c then rq a b m else prv (rp a b c + 1) (rep a b r) (rp a b x)) = rq a b (if x = c then m else prv (c + 1) r x)
    by_cases e : x = c
    · rw [e, if_pos rfl, if_pos rfl]
    · have : rp a b x ≠ rp a b c := by unfold rp; split <;> split <;> omega
      rw [if_neg this, if_neg e]
      have hc : rp a b c + 1 = rq a b (c + 1) := by unfold rp rq; split <;> split <;> omega
      rw [hc]
      exact rep_prv a0 hbr (by rcases List.mem_cons.1 hx with z | z; exact absurd z e; exact z)
end Go.Proofs
