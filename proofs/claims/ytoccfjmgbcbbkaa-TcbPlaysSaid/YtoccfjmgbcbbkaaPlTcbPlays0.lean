/- Plain laws of what is reached, parts P17VB, P17CapW, P17SB, P17WF, P17Words, P17WordsO, P17WordsF, P17IsW, P17Small, P17St, P17View, P17Ref, P17Queue, P17IsQ, P17Sq, P17StIs, P17Endp, P17QSt, P17QList, P17Remove. On no condition. -/
import Derived.Test.YtoccfjmgbcbbkaaFnTcbPlays0
import Derived.Test.YtoccfjmgbcbbkaaFr1
import Derived.Test.YtoccfjmgbcbbkaaFnTcbPlays1
import Derived.Test.YtoccfjmgbcbbkaaFnTcbPlays2
set_option linter.all false
/-! Lists of words: fields, views run on a list. -/
set_option linter.unusedVariables false
namespace Go.Proofs
open Go.Sl
def InObj (i f : Int) : Prop := 0 ≤ i ∧ i < 32 ∧ 0 ≤ f ∧ f < 8
instance (i f : Int) : Decidable (InObj i f) := inferInstanceAs (Decidable (_ ∧ _))
theorem prd {s : List Int} {i : Int} (h : 0 ≤ i ∧ i < (s.length : Int)) : plainI.rd s i = (s.getD i.toNat 0, s) := by
  show ((view_Plain_Read.f s i).getD 0, s) = _
  unfold view_Plain_Read.f view_Plain_has.f
  have h2 : s[i.toNat]? = some s[i.toNat] := List.getElem?_eq_getElem (by omega)
  have h1 : (decide (0 ≤ i) && decide (i < (s.length : Int))) = true := by simp; omega
  have h3 : at_ s i = some s[i.toNat] := by unfold at_; rw [decide_eq_true h.1, cond_true, h2]
  simp only [h1, Option.bind_some, Bool.not_true, cond_false, h3, Option.getD_some, List.getD, h2]
theorem pwr {s : List Int} {i x : Int} (h : 0 ≤ i ∧ i < (s.length : Int)) : plainI.wr s i x = s.set i.toNat x := by
  show (view_Plain_Write.f s i x).getD s = _
  unfold view_Plain_Write.f view_Plain_has.f
  have h2 : s[i.toNat]? = some s[i.toNat] := List.getElem?_eq_getElem (by omega)
  have h1 : (decide (0 ≤ i) && decide (i < (s.length : Int))) = true := by simp; omega
  have h3 : at_ s i = some s[i.toNat] := by unfold at_; rw [decide_eq_true h.1, cond_true, h2]
  simp only [h1, Option.bind_some, cond_true, h3, Option.getD_some]
theorem runB {α β : Type} (x : VM α) (g : α → VM β) (s : List Int) : VM.run plainI (x.bind g) s = (VM.run plainI x s).bind fun p => VM.run plainI (g p.1) p.2 := VM.run_bind plainI x g s
theorem runR {α : Type} (a : α) (s : List Int) : VM.run plainI (VM.ret a) s = some (a, s) := rfl
theorem runO {α : Type} (x : Option α) (s : List Int) : VM.run plainI (VM.opt x) s = x.map fun a => (a, s) := by cases x <;> rfl
theorem runC {α : Type} (c : Bool) (x y : VM α) (s : List Int) : VM.run plainI (bif c then x else y) s = bif c then VM.run plainI x s else VM.run plainI y s := by cases c <;> rfl
theorem runRd {α : Type} {i : Int} (g : Int → VM α) {s : List Int} (h : 0 ≤ i ∧ i < (s.length : Int)) : VM.run plainI (VM.rd i g) s = VM.run plainI (g (s.getD i.toNat 0)) s := by
  show VM.run plainI (g (plainI.rd s i).1) (plainI.rd s i).2 = _
  have e := prd h
  exact congrArg (fun p : Int × List Int => VM.run plainI (g p.1) p.2) e
theorem runWr {α : Type} {i x : Int} (g : VM α) {s : List Int} (h : 0 ≤ i ∧ i < (s.length : Int)) : VM.run plainI (VM.wr i x g) s = VM.run plainI g (s.set i.toNat x) := by
  show VM.run plainI g (plainI.wr s i x) = _
  exact congrArg (fun p : List Int => VM.run plainI g p) (pwr h)
/-- As many words as there are, none below 0. -/
def Good (s : List Int) : Prop := s.length = 738 ∧ ∀ j, 0 ≤ s.getD j 0
def goodB (s : List Int) : Bool := s.length == 738 && s.all fun x => decide (0 ≤ x)
theorem good_of {s : List Int} (h : goodB s = true) : Good s := by
  simp only [goodB, Bool.and_eq_true, beq_iff_eq, List.all_eq_true, decide_eq_true_eq] at h
  refine ⟨h.1, fun j => ?_⟩
  rw [List.getD]
  cases e : s[j]? with
  | none => simp
  | some x => simpa using h.2 x (List.mem_of_getElem? e)
def numb (w : Int) : Int := if 4611686018427387904 < w then 0 else w
theorem numb_nn {w : Int} (h : 0 ≤ w) : 0 ≤ numb w := by unfold numb; split <;> omega
theorem numb_le {w : Int} : numb w ≤ 4611686018427387904 := by unfold numb; split <;> omega
theorem numb_id {w : Int} (h : w ≤ 4611686018427387904) : numb w = w := by unfold numb; rw [if_neg (by omega)]
def fld (s : List Int) (i f : Int) : Int := if InObj i f then numb (s.getD (480 + 8 * i + f).toNat 0) else 0
def put (s : List Int) (i f n : Int) : List Int := if InObj i f ∧ 0 ≤ n then s.set (480 + 8 * i + f).toNat n else s
theorem fld_nn {s : List Int} (h : Good s) (i f : Int) : 0 ≤ fld s i f := by
  unfold fld; split
  · exact numb_nn (h.2 _)
  · omega
theorem fld_le (s : List Int) (i f : Int) : fld s i f ≤ 4611686018427387904 := by
  unfold fld; split
  · exact numb_le
  · omega
theorem getD_set (s : List Int) (a b : Nat) (v : Int) : (s.set a v).getD b 0 = if a = b ∧ b < s.length then v else s.getD b 0 := by
  simp only [List.getD]
  by_cases e : a = b
  · subst e
    by_cases h : a < s.length
    · rw [List.getElem?_set_self h]; simp [h]
    · rw [List.getElem?_eq_none (by simpa using h)]
      rw [List.getElem?_eq_none (by omega)]; simp [h]
  · rw [List.getElem?_set_ne e]; simp [e]
theorem put_len (s : List Int) (i f n : Int) : (put s i f n).length = s.length := by unfold put; split <;> simp
theorem good_put {s : List Int} (h : Good s) (i f n : Int) : Good (put s i f n) := by
  refine ⟨by rw [put_len]; exact h.1, fun j => ?_⟩
  unfold put
  split
  · rename_i hn
    rw [getD_set]; split
    · omega
    · exact h.2 j
  · exact h.2 j
theorem fld_put {s : List Int} (h : Good s) (i f n i' f' : Int) (hn : n ≤ 4611686018427387904) : fld (put s i f n) i' f' = if i = i' ∧ f = f' ∧ InObj i f ∧ 0 ≤ n then n else fld s i' f' := by
  unfold put fld
  by_cases h1 : InObj i f ∧ 0 ≤ n
  · rw [if_pos h1]
    by_cases h2 : InObj i' f'
    · rw [if_pos h2, if_pos h2, getD_set, h.1]
      have a := h1.1
      unfold InObj at a h2
      by_cases e : i = i' ∧ f = f'
      · obtain ⟨rfl, rfl⟩ := e
        rw [if_pos ⟨rfl, by omega⟩, if_pos ⟨rfl, rfl, h1.1, h1.2⟩, numb_id hn]
      · rw [if_neg (by omega), if_neg (fun e' => e ⟨e'.1, e'.2.1⟩)]
    · rw [if_neg h2, if_neg h2, if_neg]
      rintro ⟨rfl, rfl, q, _⟩; exact h2 q
  · rw [if_neg h1]
    have : ¬ (i = i' ∧ f = f' ∧ InObj i f ∧ 0 ≤ n) := fun e => h1 e.2.2
    rw [if_neg this]
theorem band_65535 {x : Int} (h : 0 ≤ x) (h2 : x < 9223372036854775808) : band .i64 x 65535 = x % 65536 := by
  have := band_mod_i64 (x := x) 16 (by decide) h (by omega)
  simpa using this
theorem at_some {α : Type} {l : List α} {i : Int} (h : 0 ≤ i) (h2 : i < (l.length : Int)) : ∃ x, at_ l i = some x ∧ x ∈ l := by
  have h3 : l[i.toNat]? = some (l[i.toNat]'(by omega)) := List.getElem?_eq_getElem (by omega)
  refine ⟨l[i.toNat]'(by omega), ?_, List.getElem_mem _⟩
  unfold at_; rw [decide_eq_true h, cond_true, h3]
def hd : List Int → Int
  | [] => 0
  | t :: _ => t + 1
def la (l : List Int) : Int := match l.getLast? with | none => 0 | some t => t + 1
end Go.Proofs
/-! The capability as a word. -/
namespace Go.Proofs
open Go.Sl
def CapMay (c : api_Cap) : Prop := 0 ≤ c.Kind ∧ c.Kind ≤ 8 ∧ 0 ≤ c.Rights ∧ c.Rights ≤ 7 ∧ 0 ≤ c.Obj ∧ c.Obj ≤ 31 ∧ 0 ≤ c.Badge ∧ c.Badge ≤ 65535 ∧ 0 ≤ c.Bits ∧ c.Bits ≤ 8 ∧
  (c.Kind = 0 → c.Rights = 0 ∧ c.Obj = 0) ∧ (c.Kind = 3 ∨ c.Kind = 4 ∨ c.Badge = 0) ∧ (c.Kind = 2 ∨ (c.Bits = 0 ∧ c.Guard = 0)) ∧ 0 ≤ c.Guard ∧ c.Guard < 2 ^ c.Bits.toNat
instance (c : api_Cap) : Decidable (CapMay c) := by unfold CapMay; exact inferInstance
theorem pow_lo (n : Nat) : (1 : Int) ≤ 2 ^ n := by have : (0 : Int) < 2 ^ n := Int.pow_pos (by decide); omega
theorem pow_le {n m : Nat} (h : n ≤ m) : (2 : Int) ^ n ≤ 2 ^ m := by
  have := Nat.pow_le_pow_right (n := 2) (by decide) h
  exact_mod_cast this
def capWord (c : api_Cap) : Int := c.Kind + c.Rights * 2 ^ 4 + c.Obj * 2 ^ 7 + c.Badge * 2 ^ 12 + c.Bits * 2 ^ 28 + c.Guard * 2 ^ 32
theorem guard_lt {c : api_Cap} (h : CapMay c) : c.Guard < 256 := by
  obtain ⟨-, -, -, -, -, -, -, -, -, h1, -, -, -, -, h2⟩ := h
  have := pow_le (show c.Bits.toNat ≤ 8 by omega)
  omega
theorem word_ok {c : api_Cap} (h : CapMay c) : ref01_Word.f c = some (capWord c) := by
  have hg := guard_lt h
  obtain ⟨h1, h2, h3, h4, h5, h6, h7, h8, h9, h10, -, -, -, h14, h15⟩ := h
  obtain ⟨K, R, O, B, G, T⟩ := c
  unfold ref01_Word.f capWord
  simp only at *
  rw [wu64_id (x := K) (by omega) (by omega), wu64_id (x := R) (by omega) (by omega), wu64_id (x := O) (by omega) (by omega), wu64_id (x := B) (by omega) (by omega), wu64_id (x := G) (by omega) (by omega), wu64_id (x := T) (by omega) (by omega),
    wu64_id (x := 16 * R) (by omega) (by omega), wu64_id (x := 128 * O) (by omega) (by omega), wu64_id (x := 4096 * B) (by omega) (by omega), wu64_id (x := 268435456 * T) (by omega) (by omega), wu64_id (x := 4294967296 * G) (by omega) (by omega)]
  rw [wu64_id (x := K + 16 * R) (by omega) (by omega), wu64_id (x := K + 16 * R + 128 * O) (by omega) (by omega), wu64_id (x := K + 16 * R + 128 * O + 4096 * B) (by omega) (by omega), wu64_id (x := K + 16 * R + 128 * O + 4096 * B + 268435456 * T) (by omega) (by omega), wu64_id (by omega) (by omega)]
  congr 1; omega
def capOf (w : Int) : api_Cap := ⟨w % 2 ^ 4, w / 2 ^ 4 % 2 ^ 3, w / 2 ^ 4 / 2 ^ 3 % 2 ^ 5, w / 2 ^ 4 / 2 ^ 3 / 2 ^ 5 % 2 ^ 16, w / 2 ^ 4 / 2 ^ 3 / 2 ^ 5 / 2 ^ 16 / 2 ^ 4 % 2 ^ 8, w / 2 ^ 4 / 2 ^ 3 / 2 ^ 5 / 2 ^ 16 % 2 ^ 4⟩
theorem capOf_word {w : Int} (h0 : 0 ≤ w) (h : w / 2 ^ 4 / 2 ^ 3 / 2 ^ 5 / 2 ^ 16 / 2 ^ 4 / 2 ^ 8 = 0) : capWord (capOf w) = w := by
  unfold capOf capWord; simp only; omega
theorem word_capOf {c : api_Cap} (h : CapMay c) : capOf (capWord c) = c ∧ capWord c / 2 ^ 4 / 2 ^ 3 / 2 ^ 5 / 2 ^ 16 / 2 ^ 4 / 2 ^ 8 = 0 ∧ 0 ≤ capWord c ∧ capWord c ≤ 18446744073709551615 := by
  have hg := guard_lt h
  obtain ⟨h1, h2, h3, h4, h5, h6, h7, h8, h9, h10, -, -, -, h14, h15⟩ := h
  obtain ⟨K, R, O, B, G, T⟩ := c
  unfold capOf capWord
  simp only [api_Cap.mk.injEq] at *
  clear h15
  refine ⟨⟨?_, ?_, ?_, ?_, ?_, ?_⟩, ?_, ?_, ?_⟩ <;> omega
end Go.Proofs
/-! The words of slots. -/
set_option linter.unusedVariables false
namespace Go.Proofs
open Go.Sl
def InSlot (i f : Int) : Prop := 0 ≤ i ∧ i < 96 ∧ 0 ≤ f ∧ f < 5
instance (i f : Int) : Decidable (InSlot i f) := inferInstanceAs (Decidable (_ ∧ _))
/-- Words that are words. -/
def GoodU (s : List Int) : Prop := Good s ∧ ∀ j, s.getD j 0 ≤ 18446744073709551615
def goodUB (s : List Int) : Bool := goodB s && s.all fun x => decide (x ≤ 18446744073709551615)
theorem goodU_of {s : List Int} (h : goodUB s = true) : GoodU s := by
  simp only [goodUB, Bool.and_eq_true, List.all_eq_true, decide_eq_true_eq] at h
  refine ⟨good_of h.1, fun j => ?_⟩
  rw [List.getD]
  cases e : s[j]? with
  | none => simp
  | some x => simpa using h.2 x (List.mem_of_getElem? e)
def noCap : api_Cap := ⟨0, 0, 0, 0, 0, 0⟩
def readCap (w : Int) : api_Cap := if w / 2 ^ 4 / 2 ^ 3 / 2 ^ 5 / 2 ^ 16 / 2 ^ 4 / 2 ^ 8 = 0 ∧ CapMay (capOf w) then capOf w else noCap
def capAt (s : List Int) (i : Int) : api_Cap := if InSlot i 0 then readCap (s.getD (5 * i).toNat 0) else noCap
end Go.Proofs
/-! What all words of a state are: the state that may be, the words by definition. -/
set_option linter.unusedVariables false
namespace Go.Proofs
open Go.Sl
def nextOf : List Int → Int → Int
  | [], _ => 0
  | a :: l, x => if x = a then hd l else nextOf l x
def prv : Int → List Int → Int → Int
  | _, [], _ => 0
  | a, b :: l, x => if x = b then a else prv (b + 1) l x
def slt (st : ref10_State) (i : Int) : ref10_Slot := st.Slots.getD i.toNat default
def obt (st : ref10_State) (i : Int) : ref10_Obj := st.Objs.getD i.toNat default
def _root_.Go.Sl.A4.nth (a : A4) (p : Int) : Int := if p = 0 then a.a0 else if p = 1 then a.a1 else if p = 2 then a.a2 else a.a3
theorem _root_.Go.Sl.A4.get_nth (a : A4) {p : Int} (h : 0 ≤ p ∧ p < 4) : a.get p = some (a.nth p) := by
  have : p = 0 ∨ p = 1 ∨ p = 2 ∨ p = 3 := by omega
  rcases this with rfl | rfl | rfl | rfl <;> rfl
/-- An object that may be. -/
structure OW (o : ref10_Obj) : Prop where
  kind : 0 ≤ o.Kind ∧ o.Kind ≤ 8
  size : 0 ≤ o.Size ∧ o.Size ≤ 1000000000000
  used : 0 ≤ o.Used ∧ o.Used ≤ o.Size
  first : 0 ≤ o.First ∧ o.First ≤ 1000
  radix : 0 ≤ o.Radix ∧ o.Radix ≤ 5
  wait : 0 ≤ o.Wait ∧ o.Wait ≤ 2
  word : 0 ≤ o.Word ∧ o.Word ≤ 1000000000000
  state : 0 ≤ o.State ∧ o.State ≤ 6
  owing : -1 ≤ o.Owing ∧ o.Owing < 32
  badge : 0 ≤ o.Badge ∧ o.Badge ≤ 1000000000000
  prio : 0 ≤ o.Prio ∧ o.Prio < 256
  on : -1 ≤ o.On ∧ o.On < 32
  owes : -1 ≤ o.Owes ∧ o.Owes < 32
  root : CapMay o.Root
  pages : ∀ p, 0 ≤ p → p < 4 → -1 ≤ o.Pages.nth p ∧ o.Pages.nth p < 32
  right : ∀ p, 0 ≤ p → p < 4 → 0 ≤ o.Right.nth p ∧ o.Right.nth p < 8
  inn : -1 ≤ o.In ∧ o.In < 32
  page : 0 ≤ o.Page ∧ o.Page < 4
  bound : -1 ≤ o.Bound ∧ o.Bound < 32
  mask : 0 ≤ o.Mask ∧ o.Mask ≤ 1
structure WF (st : ref10_State) : Prop where
  ls : st.Slots.length = 96
  lo : st.Objs.length = 32
  cap : ∀ i, 0 ≤ i → i < 96 → CapMay (slt st i).Cap
  par : ∀ i, 0 ≤ i → i < 96 → -1 ≤ (slt st i).Parent ∧ (slt st i).Parent < 96
  kid : ∀ i, 0 ≤ i → i < 96 → ∀ x ∈ (slt st i).Kids, 0 ≤ x ∧ x < 96 ∧ (slt st x).Parent = i
  all : ∀ x, 0 ≤ x → x < 96 → 0 ≤ (slt st x).Parent → x ∈ (slt st (slt st x).Parent).Kids
  nodk : ∀ i, 0 ≤ i → i < 96 → (slt st i).Kids.Nodup
  irr : ∀ i, 0 ≤ i → i < 96 → (slt st i).Parent ≠ i
  obj : ∀ i, 0 ≤ i → i < 32 → OW (obt st i)
  que : ∀ i, 0 ≤ i → i < 32 → ∀ t ∈ (obt st i).Queue, 0 ≤ t ∧ t < 32 ∧ (obt st t).Kind = 5 ∧ (obt st t).On = i ∧ (obt st t).Owing = -1
  qk : ∀ i, 0 ≤ i → i < 32 → (obt st i).Queue ≠ [] → (obt st i).Kind = 3 ∨ (obt st i).Kind = 4
  onq : ∀ t, 0 ≤ t → t < 32 → (obt st t).Kind = 5 → 0 ≤ (obt st t).On → t ∈ (obt st (obt st t).On).Queue
  nodq : ∀ i, 0 ≤ i → i < 32 → (obt st i).Queue.Nodup
  ns : 0 ≤ st.NS ∧ st.NS ≤ 1000
  no : 0 ≤ st.NO ∧ st.NO ≤ 1000
/-- What a space's page is as a word. -/
def pgw (o : ref10_Obj) (p : Int) : Int := if 0 ≤ o.Pages.nth p then 8 * (o.Pages.nth p + 1) + o.Right.nth p else 0
def own (o : ref10_Obj) (f : Int) : Int :=
  if f = 0 then o.Kind
  else if o.Kind = 1 then (if f = 1 then o.Size else if f = 2 then o.Used else 0)
  else if o.Kind = 2 then (if f = 1 then o.First else if f = 2 then o.Radix else 0)
  else if o.Kind = 3 then (if f = 1 then o.Wait else 0)
  else if o.Kind = 4 then (if f = 1 then o.Word else 0)
  else if o.Kind = 5 then (if f = 1 then o.State else if f = 2 then o.Owing + 1 else if f = 3 then o.Word else if f = 4 then o.Badge else if f = 5 then o.Prio + 256 * (o.On + 1) else if f = 6 then o.Owes + 1 else capWord o.Root)
  else if o.Kind = 6 then (if f = 1 then o.In + 1 else if f = 2 then o.Page else 0)
  else if o.Kind = 7 then (if 1 ≤ f ∧ f ≤ 4 then pgw o (f - 1) else 0)
  else if o.Kind = 8 then (if f = 1 then o.Bound + 1 else if f = 2 then o.Badge else if f = 3 then o.Mask else 0)
  else 0
def ob (st : ref10_State) (i f : Int) : Int :=
  if f = 2 ∧ (obt st i).Kind = 5 ∧ 0 ≤ (obt st i).On then nextOf (obt st (obt st i).On).Queue i
  else if f = 2 ∧ (obt st i).Queue ≠ [] then hd (obt st i).Queue
  else if f = 3 ∧ (obt st i).Queue ≠ [] then la (obt st i).Queue
  else own (obt st i) f
def sl (st : ref10_State) (i f : Int) : Int :=
  if f = 0 then capWord (slt st i).Cap
  else if f = 1 then (slt st i).Parent + 1
  else if f = 2 then hd (slt st i).Kids
  else if 0 ≤ (slt st i).Parent then (if f = 3 then nextOf (slt st (slt st i).Parent).Kids i else prv 0 (slt st (slt st i).Parent).Kids i)
  else 0
structure IsW (st : ref10_State) (w : List Int) : Prop where
  len : w.length = 738
  slot : ∀ i f, 0 ≤ i → i < 96 → 0 ≤ f → f < 5 → w.getD (5 * i + f).toNat 0 = sl st i f
  obj : ∀ i f, 0 ≤ i → i < 32 → 0 ≤ f → f < 8 → w.getD (480 + 8 * i + f).toNat 0 = ob st i f
  ns : w.getD 736 0 = st.NS
  no : w.getD 737 0 = st.NO
theorem IsW.uniq {st : ref10_State} {a b : List Int} (ha : IsW st a) (hb : IsW st b) : a = b := by
  refine List.ext_getElem (by rw [ha.len, hb.len]) fun j h1 h2 => ?_
  have e : a.getD j 0 = b.getD j 0 := by
    have hl := ha.len
    by_cases q : j < 480
    · have h := (ha.slot (j / 5 : Nat) (j % 5 : Nat) (by omega) (by omega) (by omega) (by omega)).trans (hb.slot (j / 5 : Nat) (j % 5 : Nat) (by omega) (by omega) (by omega) (by omega)).symm
      rwa [show (5 * ((j / 5 : Nat) : Int) + ((j % 5 : Nat) : Int)).toNat = j by omega] at h
    · by_cases q2 : j < 736
      · have h := (ha.obj ((j - 480) / 8 : Nat) ((j - 480) % 8 : Nat) (by omega) (by omega) (by omega) (by omega)).trans (hb.obj ((j - 480) / 8 : Nat) ((j - 480) % 8 : Nat) (by omega) (by omega) (by omega) (by omega)).symm
        rwa [show (480 + 8 * (((j - 480) / 8 : Nat) : Int) + (((j - 480) % 8 : Nat) : Int)).toNat = j by omega] at h
      · have : j = 736 ∨ j = 737 := by omega
        rcases this with rfl | rfl
        · exact ha.ns.trans hb.ns.symm
        · exact ha.no.trans hb.no.symm
  simpa [List.getD, List.getElem?_eq_getElem h1, List.getElem?_eq_getElem h2] using e
theorem at_getD {α : Type} [Inhabited α] {l : List α} {i : Int} (h : 0 ≤ i) (h2 : i < (l.length : Int)) : at_ l i = some (l.getD i.toNat default) := by
  unfold at_
  rw [decide_eq_true h, cond_true, List.getD, List.getElem?_eq_getElem (by omega)]; rfl
theorem at_w {l : List Int} {i : Int} (h : 0 ≤ i) (h2 : i < (l.length : Int)) : at_ l i = some (l.getD i.toNat 0) := at_getD h h2
theorem same_l1 (a : List Int) (hl : a.length ≤ 100000) : ∀ (m k : Nat) (i : Int), 0 ≤ i → i ≤ a.length → (a.length : Int) - i = m → m < k → ref10_Same.l1 a a k i = some (Brk.nx ()) := by
  intro m
  induction m with
  | zero =>
    intro k i h0 h1 h2 hk
    obtain ⟨k, rfl⟩ : ∃ q, k = q + 1 := ⟨k - 1, by omega⟩
    unfold ref10_Same.l1
    rw [decide_eq_false (by omega), cond_false]
  | succ m ih =>
    intro k i h0 h1 h2 hk
    obtain ⟨k, rfl⟩ : ∃ q, k = q + 1 := ⟨k - 1, by omega⟩
    unfold ref10_Same.l1
    rw [decide_eq_true (by omega), cond_true, at_w h0 (by omega), Option.bind_some, Option.bind_some, bne_self_eq_false, cond_false, w64_id (by omega) (by omega)]
    exact ih k (i + 1) (by omega) (by omega) (by omega) (by omega)
theorem same_ok {a : List Int} (hl : a.length = 738) {k : Nat} (hk : 740 ≤ k) : ref10_Same.f k a a = some true := by
  unfold ref10_Same.f
  rw [bne_self_eq_false, cond_false, same_l1 a (by omega) 738 k 0 (by decide) (by omega) (by omega) (by omega)]; rfl
theorem hd_rg {n : Int} (hn : 0 ≤ n) : ∀ {l : List Int}, (∀ x ∈ l, 0 ≤ x ∧ x < n) → 0 ≤ hd l ∧ hd l ≤ n
  | [], _ => ⟨by decide, hn⟩
  | a :: l, h => by have := h a List.mem_cons_self; show 0 ≤ a + 1 ∧ a + 1 ≤ n; omega
theorem nextOf_rg {n : Int} (hn : 0 ≤ n) (x : Int) : ∀ {l : List Int}, (∀ x ∈ l, 0 ≤ x ∧ x < n) → 0 ≤ nextOf l x ∧ nextOf l x ≤ n
  | [], _ => ⟨by show (0 : Int) ≤ 0; decide, hn⟩
  | a :: l, h => by
    unfold nextOf
    split
    · exact hd_rg hn fun y hy => h y (List.mem_cons_of_mem _ hy)
    · exact nextOf_rg hn x fun y hy => h y (List.mem_cons_of_mem _ hy)
theorem prv_rg {n : Int} (hn : 0 ≤ n) (x : Int) : ∀ {l : List Int} {a : Int}, 0 ≤ a → a ≤ n → (∀ x ∈ l, 0 ≤ x ∧ x < n) → 0 ≤ prv a l x ∧ prv a l x ≤ n
  | [], a, _, _, _ => ⟨by show (0 : Int) ≤ 0; decide, hn⟩
  | b :: l, a, h1, h2, h => by
    have := h b List.mem_cons_self
    unfold prv
    split
    · omega
    · exact prv_rg hn x (by omega) (by omega) fun y hy => h y (List.mem_cons_of_mem _ hy)
theorem la_rg {n : Int} (hn : 0 ≤ n) {l : List Int} (h : ∀ x ∈ l, 0 ≤ x ∧ x < n) : 0 ≤ la l ∧ la l ≤ n := by
  unfold la
  split
  · omega
  · rename_i t e
    have := h t (List.mem_of_getLast? e); omega
theorem nodup_len : ∀ (n : Nat) {l : List Int}, l.Nodup → (∀ x ∈ l, 0 ≤ x ∧ x < n) → l.length ≤ n
  | 0, l, _, h => by
    cases l with
    | nil => simp
    | cons a l => have := h a List.mem_cons_self; omega
  | n + 1, l, hn, h => by
    have h1 := nodup_len n (l := l.erase (n : Int)) (hn.erase _) fun x hx => by
      have := h x (List.mem_of_mem_erase hx)
      have : x ≠ (n : Int) := fun e => by subst e; exact (List.Nodup.not_mem_erase hn) hx
      omega
    have h2 := List.length_erase (a := (n : Int)) (l := l)
    split at h2 <;> omega
end Go.Proofs
/-! All words of a state, as the reference makes them. -/
set_option linter.unusedVariables false
namespace Go.Proofs
open Go.Sl
theorem set_at {q : List Int} (hl : q.length = 738) (i j v : Int) (hi : 0 ≤ i ∧ i < 738) (hj : 0 ≤ j) : (q.set i.toNat v).getD j.toNat 0 = if j = i then v else q.getD j.toNat 0 := by
  rw [getD_set]
  by_cases e : j = i
  · subst e; rw [if_pos ⟨rfl, by omega⟩, if_pos rfl]
  · rw [if_neg (by omega), if_neg e]
theorem rd_at {q : List Int} (hl : q.length = 738) {i : Int} (hi : 0 ≤ i ∧ i < 738) : at_ q i = some (q.getD i.toNat 0) := at_w hi.1 (by omega)
section
variable (i : Int) (x : ref10_Slot) (hi : 0 ≤ i ∧ i < 96) (hn : x.Kids.length ≤ 96) (hr : ∀ y ∈ x.Kids, 0 ≤ y ∧ y < 96)
include hi hn hr
theorem kids_ok : ∀ (rest dn : List Int) (a m : Int) (k : Nat) (q : List Int), x.Kids = dn ++ rest → m = dn.length → (dn = [] ∧ a = 0 ∨ ∃ d z, dn = d ++ [z] ∧ a = z + 1) → rest.length < k → q.length = 738 → rest.Nodup → (∀ y ∈ rest, q.getD (5 * y + 3).toNat 0 = 0 ∧ q.getD (5 * y + 4).toNat 0 = 0) →
    ∃ q', ref10_State_Words.l2 i x k (m, q) = some q' ∧ q'.length = 738 ∧ (∀ j : Int, 480 ≤ j → q'.getD j.toNat 0 = q.getD j.toNat 0) ∧
      ∀ s f, 0 ≤ s → s < 96 → 0 ≤ f → f < 5 → q'.getD (5 * s + f).toNat 0 = if f = 3 ∧ s ∈ rest then nextOf rest s else if f = 4 ∧ s ∈ rest then prv a rest s else if f = 2 ∧ s = i ∧ dn = [] ∧ rest ≠ [] then hd rest else q.getD (5 * s + f).toNat 0 := by
  intro rest
  induction rest with
  | nil =>
    intro dn a m k q hk hm ha hl hq hnd hz
    obtain ⟨k, rfl⟩ : ∃ z, k = z + 1 := ⟨k - 1, by simp at hl; omega⟩
    have : m = x.Kids.length := by rw [hk, hm]; simp
    unfold ref10_State_Words.l2
    rw [decide_eq_false (by omega), cond_false]
    exact ⟨q, rfl, hq, fun _ _ => rfl, fun s f _ _ _ _ => by simp⟩
  | cons y r ih =>
    intro dn a m k q hk hm ha hl hq hnd hz
    obtain ⟨k, rfl⟩ : ∃ z, k = z + 1 := ⟨k - 1, by simp at hl; omega⟩
    have hlen : (x.Kids.length : Int) = m + 1 + r.length := by rw [hk, hm]; simp; omega
    have hy := hr y (by rw [hk]; simp)
    have hym : at_ x.Kids m = some y := by
      unfold at_
      rw [decide_eq_true (by omega), cond_true, hk, hm, Int.toNat_natCast, List.getElem?_append_right (Nat.le_refl _)]; simp
    have hnd2 := List.nodup_cons.1 hnd
    unfold ref10_State_Words.l2
    rw [decide_eq_true (by omega), cond_true, hym, Option.bind_some]
    -- the first word
    have step1 : ∃ q1, (bif m == 0 then ((at_ q (w64 ((w64 (5 * i)) + 2))).bind fun x33 => some (q.set (w64 ((w64 (5 * i)) + 2)).toNat (wu64 (w64 (y + 1))))) else ((at_ x.Kids (w64 (m - 1))).bind fun x36 => (at_ q (w64 ((w64 (5 * y)) + 4))).bind fun x38 => some (q.set (w64 ((w64 (5 * y)) + 4)).toNat (wu64 (w64 (x36 + 1)))))) = some q1 ∧ q1.length = 738 ∧ ∀ j : Int, 0 ≤ j → q1.getD j.toNat 0 = if dn = [] ∧ j = 5 * i + 2 then y + 1 else if dn ≠ [] ∧ j = 5 * y + 4 then a else q.getD j.toNat 0 := by
      rcases ha with ⟨hd, rfl⟩ | ⟨d, z, hd, rfl⟩
      · have hm0 : (m == 0) = true := by simp [hm, hd]
        rw [hm0, cond_true, w64_id (x := 5 * i) (by omega) (by omega), w64_id (x := 5 * i + 2) (by omega) (by omega), rd_at hq (by omega), Option.bind_some, w64_id (by omega) (by omega), wu64_id (by omega) (by omega)]
        refine ⟨_, rfl, by simpa using hq, fun j hj => ?_⟩
        rw [set_at hq _ _ _ (by omega) hj]
        simp only [hd, true_and, ne_eq, not_true, false_and, if_false]
      · have hm0 : (m == 0) = false := by simp [hm, hd]; omega
        have hz := hr z (by rw [hk, hd]; simp)
        have hzm : at_ x.Kids (m - 1) = some z := by
          have hm1 : m - 1 = d.length := by rw [hm, hd]; simp
          unfold at_
          rw [decide_eq_true (by omega), cond_true, hk, hd, hm1, Int.toNat_natCast, List.append_assoc, List.getElem?_append_right (Nat.le_refl _)]; simp
        rw [hm0, cond_false, w64_id (x := m - 1) (by omega) (by omega), hzm, Option.bind_some, w64_id (x := 5 * y) (by omega) (by omega), w64_id (x := 5 * y + 4) (by omega) (by omega), rd_at hq (by omega), Option.bind_some, w64_id (by omega) (by omega), wu64_id (by omega) (by omega)]
        refine ⟨_, rfl, by simpa using hq, fun j hj => ?_⟩
        rw [set_at hq _ _ _ (by omega) hj]
        have : dn ≠ [] := by rw [hd]; simp
        simp only [this, false_and, if_false, ne_eq, not_false_eq_true, true_and]
    obtain ⟨q1, e1, l1, g1⟩ := step1
    rw [e1, Option.bind_some, w64_id (x := m + 1) (by omega) (by omega)]
    have ha' : (dn ++ [y] = [] ∧ y + 1 = 0 ∨ ∃ d z, dn ++ [y] = d ++ [z] ∧ y + 1 = z + 1) := .inr ⟨dn, y, rfl, rfl⟩
    have hk' : x.Kids = (dn ++ [y]) ++ r := by rw [hk]; simp
    cases r with
    | nil =>
      rw [decide_eq_false (by simp at hlen; omega), cond_false]
      obtain ⟨q', e2, l2, g2, g3⟩ := ih (dn ++ [y]) (y + 1) (m + 1) k q1 hk' (by simp [hm]) ha' (by simp at hl ⊢; omega) l1 List.nodup_nil (by simp)
      refine ⟨q', e2, l2, fun j hj => ?_, fun s f h1 h2 h3 h4 => ?_⟩
      · rw [g2 j hj, g1 j (by omega), if_neg (by omega), if_neg (by omega)]
      · rw [g3 s f h1 h2 h3 h4, g1 _ (by omega)]
        obtain ⟨z3, z4⟩ := hz y (by simp)
        simp only [List.not_mem_nil, and_false, if_false, List.mem_singleton, ne_eq, not_true, List.cons_ne_nil, not_false_eq_true, and_true, nextOf, prv, hd]
        by_cases hdn : dn = []
        · simp only [hdn, true_and, not_true, false_and, if_false]
          have ha0 : a = 0 := by
            rcases ha with ⟨_, h⟩ | ⟨d, z, h, _⟩
            · exact h
            · rw [hdn] at h; simp at h
          by_cases c1 : f = 3 ∧ s = y
          · obtain ⟨rfl, rfl⟩ := c1; rw [if_neg (by omega), if_pos ⟨rfl, rfl⟩, if_pos rfl, z3]
          · rw [if_neg c1]
            by_cases c2 : f = 4 ∧ s = y
            · obtain ⟨rfl, rfl⟩ := c2; rw [if_neg (by omega), if_pos ⟨rfl, rfl⟩, if_pos rfl, z4, ha0]
            · rw [if_neg c2]
              by_cases c3 : f = 2 ∧ s = i
              · rw [if_pos (by omega), if_pos (by simpa using c3)]
              · rw [if_neg (by omega), if_neg (by simpa using c3)]
        · simp only [hdn, false_and, if_false, not_false_eq_true, true_and, and_false]
          by_cases c1 : f = 3 ∧ s = y
          · obtain ⟨rfl, rfl⟩ := c1; rw [if_neg (by omega), if_pos ⟨rfl, rfl⟩, if_pos rfl, z3]
          · rw [if_neg c1]
            by_cases c2 : f = 4 ∧ s = y
            · obtain ⟨rfl, rfl⟩ := c2; rw [if_pos rfl, if_pos ⟨rfl, rfl⟩, if_pos rfl]
            · rw [if_neg c2, if_neg (by omega)]
    | cons u r =>
      have hu := hr u (by rw [hk]; simp)
      have hum : at_ x.Kids (m + 1) = some u := by
        unfold at_
        have hm1 : m + 1 = (dn ++ [y]).length := by rw [hm]; simp
        rw [decide_eq_true (by omega), cond_true, hk', hm1, Int.toNat_natCast, List.getElem?_append_right (Nat.le_refl _)]; simp
      rw [decide_eq_true (by simp at hlen; omega), cond_true, hum, Option.bind_some, w64_id (x := 5 * y) (by omega) (by omega), w64_id (x := 5 * y + 3) (by omega) (by omega), rd_at l1 (by omega), Option.bind_some, w64_id (x := u + 1) (by omega) (by omega), wu64_id (x := u + 1) (by omega) (by omega)]
      have l1' : (q1.set (5 * y + 3).toNat (u + 1)).length = 738 := by simpa using l1
      have G : ∀ j : Int, 0 ≤ j → (q1.set (5 * y + 3).toNat (u + 1)).getD j.toNat 0 = if j = 5 * y + 3 then u + 1 else if dn = [] ∧ j = 5 * i + 2 then y + 1 else if dn ≠ [] ∧ j = 5 * y + 4 then a else q.getD j.toNat 0 := fun j hj => by
        rw [set_at l1 _ _ _ (by omega) hj, g1 j hj]
      generalize q1.set (5 * y + 3).toNat (u + 1) = q2 at G l1'
      have hyr : ∀ w ∈ u :: r, w ≠ y := fun w hw e => by subst e; exact hnd2.1 hw
      obtain ⟨q', e2, l2, g2, g3⟩ := ih (dn ++ [y]) (y + 1) (m + 1) k q2 hk' (by simp [hm]) ha' (by simp at hl ⊢; omega) l1' hnd2.2 (fun w hw => by
        have hwr := hr w (by rw [hk]; simp only [List.mem_append, List.mem_cons]; right; right; simpa using hw)
        have h1 := hyr w hw
        obtain ⟨z3, z4⟩ := hz w (List.mem_cons_of_mem _ hw)
        rw [G _ (by omega), G _ (by omega), if_neg (by omega), if_neg (by omega), if_neg (by omega), if_neg (by omega), if_neg (by omega), if_neg (by omega)]
        exact ⟨z3, z4⟩)
      refine ⟨q', e2, l2, fun j hj => ?_, fun s f h1 h2 h3 h4 => ?_⟩
      · rw [g2 j hj, G j (by omega), if_neg (by omega), if_neg (by omega), if_neg (by omega)]
      · rw [g3 s f h1 h2 h3 h4, G _ (by omega)]
        obtain ⟨z3, z4⟩ := hz y (by simp)
        have en : nextOf (y :: u :: r) s = if s = y then u + 1 else nextOf (u :: r) s := rfl
        have ep : prv a (y :: u :: r) s = if s = y then a else prv (y + 1) (u :: r) s := rfl
        rw [en, ep]
        have hne : dn ++ [y] ≠ [] := by simp
        by_cases c3 : f = 3
        · subst c3
          by_cases c1 : s = y
          · subst c1
            have : s ∉ u :: r := hnd2.1
            rw [if_neg (fun h => this h.2), if_neg (fun h => this h.2), if_neg (by omega), if_pos rfl, if_pos ⟨rfl, List.mem_cons_self⟩, if_pos rfl]
          · by_cases c2 : s ∈ u :: r
            · rw [if_pos ⟨rfl, c2⟩, if_pos ⟨rfl, List.mem_cons_of_mem _ c2⟩, if_neg c1]
            · rw [if_neg (fun h => c2 h.2), if_neg (by omega), if_neg (by omega), if_neg (by omega), if_neg (by omega), if_neg (by omega), if_neg (fun h => by rcases List.mem_cons.1 h.2 with e | e; exact c1 e; exact c2 e), if_neg (by omega), if_neg (by omega)]
        · by_cases c4 : f = 4
          · subst c4
            by_cases c1 : s = y
            · subst c1
              have : s ∉ u :: r := hnd2.1
              rw [if_neg (by omega), if_neg (fun h => this h.2), if_neg (by omega), if_neg (by omega), if_neg (by omega)]
              by_cases hdn : dn = []
              · rw [if_neg (fun h => h.1 hdn), if_neg (by omega), if_pos ⟨rfl, List.mem_cons_self⟩, if_pos rfl]
                rcases ha with ⟨_, h⟩ | ⟨d, z, h, _⟩
                · rw [h]; exact z4
                · rw [hdn] at h; simp at h
              · rw [if_pos ⟨hdn, rfl⟩, if_neg (by omega), if_pos ⟨rfl, List.mem_cons_self⟩, if_pos rfl]
            · by_cases c2 : s ∈ u :: r
              · rw [if_neg (by omega), if_pos ⟨rfl, c2⟩, if_neg (by omega), if_pos ⟨rfl, List.mem_cons_of_mem _ c2⟩, if_neg c1]
              · rw [if_neg (by omega), if_neg (fun h => c2 h.2), if_neg (by omega), if_neg (by omega), if_neg (by omega), if_neg (by omega), if_neg (by omega), if_neg (fun h => by rcases List.mem_cons.1 h.2 with e | e; exact c1 e; exact c2 e), if_neg (by omega)]
          · rw [if_neg (fun h => c3 h.1), if_neg (fun h => c4 h.1), if_neg (fun h => hne h.2.2.1), if_neg (by omega)]
            by_cases c5 : f = 2 ∧ s = i ∧ dn = []
            · rw [if_pos ⟨c5.2.2, by omega⟩, if_neg (fun h => c3 h.1), if_neg (fun h => c4 h.1), if_pos ⟨c5.1, c5.2.1, c5.2.2, by simp⟩]; rfl
            · rw [if_neg (fun h => c5 ⟨by omega, by omega, h.1⟩), if_neg (by omega), if_neg (fun h => c3 h.1), if_neg (fun h => c4 h.1), if_neg (fun h => c5 ⟨h.1, h.2.1, h.2.2.1⟩)]
end
/-- All words that slots below i have set. -/
def SI (st : ref10_State) (i : Int) (q : List Int) : Prop :=
  (∀ j : Int, 480 ≤ j → q.getD j.toNat 0 = 0) ∧ ∀ s f, 0 ≤ s → s < 96 → 0 ≤ f → f < 5 → q.getD (5 * s + f).toNat 0 = if f < 3 then (if s < i then sl st s f else 0) else (if (slt st s).Parent < i then sl st s f else 0)
theorem slots_ok {st : ref10_State} (h : WF st) : ∀ (m k : Nat) (i : Int) (q : List Int), 0 ≤ i → i ≤ 96 → 96 - i = m → m + 100 < k → q.length = 738 → SI st i q → ∃ q', ref10_State_Words.l1 st k (i, q) = some q' ∧ q'.length = 738 ∧ SI st 96 q' := by
  intro m
  induction m with
  | zero =>
    intro k i q h0 h1 h2 hk hq hI
    obtain ⟨k, rfl⟩ : ∃ z, k = z + 1 := ⟨k - 1, by omega⟩
    obtain rfl : i = 96 := by omega
    unfold ref10_State_Words.l1
    rw [decide_eq_false (by omega), cond_false]
    exact ⟨q, rfl, hq, hI⟩
  | succ m ih =>
    intro k i q h0 h1 h2 hk hq hI
    obtain ⟨k, rfl⟩ : ∃ z, k = z + 1 := ⟨k - 1, by omega⟩
    have hi : 0 ≤ i ∧ i < 96 := by omega
    have hx : at_ st.Slots i = some (slt st i) := at_getD h0 (by rw [h.ls]; omega)
    have hc := word_ok (h.cap i h0 hi.2)
    have hp := h.par i h0 hi.2
    have hkr := fun y hy => h.kid i h0 hi.2 y hy
    have hkn := nodup_len 96 (h.nodk i h0 hi.2) (fun y hy => ⟨(hkr y hy).1, (hkr y hy).2.1⟩)
    unfold ref10_State_Words.l1
    rw [decide_eq_true (by omega), cond_true, hx, Option.bind_some, hc, Option.bind_some, w64_id (x := 5 * i) (by omega) (by omega), rd_at hq (by omega), Option.bind_some, w64_id (x := 5 * i + 1) (by omega) (by omega), rd_at (by simpa using hq) (by omega), Option.bind_some, w64_id (x := (slt st i).Parent + 1) (by omega) (by omega), wu64_id (x := (slt st i).Parent + 1) (by omega) (by omega)]
    have l2 : ((q.set (5 * i).toNat (capWord (slt st i).Cap)).set (5 * i + 1).toNat ((slt st i).Parent + 1)).length = 738 := by simpa using hq
    have G : ∀ j : Int, 0 ≤ j → ((q.set (5 * i).toNat (capWord (slt st i).Cap)).set (5 * i + 1).toNat ((slt st i).Parent + 1)).getD j.toNat 0 = if j = 5 * i + 1 then (slt st i).Parent + 1 else if j = 5 * i then capWord (slt st i).Cap else q.getD j.toNat 0 := fun j hj => by
      rw [set_at (by simpa using hq) _ _ _ (by omega) hj, set_at hq _ _ _ (by omega) hj]
    generalize (q.set (5 * i).toNat (capWord (slt st i).Cap)).set (5 * i + 1).toNat ((slt st i).Parent + 1) = q2 at G l2
    obtain ⟨q3, e3, l3, g3, g4⟩ := kids_ok i (slt st i) hi hkn (fun y hy => ⟨(hkr y hy).1, (hkr y hy).2.1⟩) (slt st i).Kids [] 0 0 k q2 rfl rfl (.inl ⟨rfl, rfl⟩) (by omega) l2 (h.nodk i h0 hi.2) (fun y hy => by
      obtain ⟨y1, y2, y3⟩ := hkr y hy
      rw [G _ (by omega), G _ (by omega), if_neg (by omega), if_neg (by omega), if_neg (by omega), if_neg (by omega), hI.2 y 3 y1 y2 (by decide) (by decide), hI.2 y 4 y1 y2 (by decide) (by decide), y3]
      simp)
    rw [e3, Option.bind_some]
    try simp only []
    rw [w64_id (by omega) (by omega)]
    refine ih k (i + 1) q3 (by omega) (by omega) (by omega) (by omega) l3 ⟨fun j hj => ?_, fun s f s1 s2 f1 f2 => ?_⟩
    · rw [g3 j hj, G j (by omega), if_neg (by omega), if_neg (by omega)]; exact hI.1 j hj
    · rw [g4 s f s1 s2 f1 f2, G _ (by omega), hI.2 s f s1 s2 f1 f2]
      by_cases c : s ∈ (slt st i).Kids
      · obtain ⟨_, _, y3⟩ := hkr s c
        by_cases c3 : f = 3
        · subst c3
          rw [if_pos ⟨rfl, c⟩, if_neg (by omega), if_pos (by omega)]
          unfold sl
          rw [if_neg (by omega), if_neg (by omega), if_neg (by omega), y3, if_pos h0, if_pos rfl]
        · by_cases c4 : f = 4
          · subst c4
            rw [if_neg (by omega), if_pos ⟨rfl, c⟩, if_neg (by omega), if_pos (by omega)]
            unfold sl
            rw [if_neg (by omega), if_neg (by omega), if_neg (by omega), y3, if_pos h0, if_neg (by omega)]
          · rw [if_neg (fun q => c3 q.1), if_neg (fun q => c4 q.1), if_pos (show f < 3 by omega), if_pos (show f < 3 by omega)]
            by_cases e : s = i
            · subst e
              rw [if_pos (show s < s + 1 by omega)]
              unfold sl
              by_cases f0 : f = 0
              · subst f0; rw [if_neg (by omega), if_neg (by omega), if_pos (by omega), if_pos rfl]
              · by_cases f1 : f = 1
                · subst f1; rw [if_neg (by omega), if_pos (by omega), if_neg (by omega), if_pos rfl]
                · obtain rfl : f = 2 := by omega
                  have : (slt st s).Kids ≠ [] := fun q => by rw [q] at c; simp at c
                  rw [if_pos ⟨rfl, rfl, rfl, this⟩, if_neg (by omega), if_neg (by omega), if_pos rfl]
            · rw [if_neg (by omega), if_neg (by omega), if_neg (by omega)]
              by_cases e2 : s < i
              · rw [if_pos e2, if_pos (by omega)]
              · rw [if_neg e2, if_neg (by omega)]
      · rw [if_neg (fun q => c q.2), if_neg (fun q => c q.2)]
        by_cases f3 : f < 3
        · rw [if_pos f3, if_pos f3]
          by_cases e : s = i
          · subst e
            unfold sl
            rw [if_neg (by omega : ¬ s < s), if_pos (by omega : s < s + 1)]
            by_cases f0 : f = 0
            · subst f0; rw [if_neg (by omega), if_neg (by omega), if_pos (by omega), if_pos rfl]
            · by_cases f1 : f = 1
              · subst f1; rw [if_neg (by omega), if_pos (by omega), if_neg (by omega), if_pos rfl]
              · obtain rfl : f = 2 := by omega
                rw [if_neg f0, if_neg f1, if_pos rfl]
                by_cases hk0 : (slt st s).Kids = []
                · rw [if_neg (fun q => q.2.2.2 hk0), if_neg (by omega), if_neg (by omega), hk0]; rfl
                · rw [if_pos ⟨rfl, rfl, rfl, hk0⟩]
          · rw [if_neg (fun q => e q.2.1), if_neg (by omega), if_neg (by omega)]
            by_cases e2 : s < i
            · rw [if_pos e2, if_pos (by omega)]
            · rw [if_neg e2, if_neg (by omega)]
        · rw [if_neg f3, if_neg f3, if_neg (by omega), if_neg (by omega), if_neg (by omega)]
          have : (slt st s).Parent ≠ i := fun e => by
            have := h.all s s1 s2 (by omega)
            rw [e] at this; exact c this
          by_cases e2 : (slt st s).Parent < i
          · rw [if_pos e2, if_pos (by omega)]
          · rw [if_neg e2, if_neg (by omega)]
end Go.Proofs
/-! All words of a state: the objects. -/
set_option linter.unusedVariables false
namespace Go.Proofs
open Go.Sl
theorem pages_ok (i : Int) (x : ref10_Obj) (hi : 0 ≤ i ∧ i < 32) (hx : OW x) : ∀ (m k : Nat) (p : Int) (q : List Int), 0 ≤ p → p ≤ 4 → 4 - p = m → m < k → q.length = 738 →
    ∃ q', ref10_State_Words.l6 i x k (p, q) = some q' ∧ q'.length = 738 ∧ ∀ j : Int, 0 ≤ j → q'.getD j.toNat 0 = if 480 + 8 * i + 1 + p ≤ j ∧ j < 480 + 8 * i + 5 ∧ 0 ≤ x.Pages.nth (j - (480 + 8 * i + 1)) then pgw x (j - (480 + 8 * i + 1)) else q.getD j.toNat 0 := by
  intro m
  induction m with
  | zero =>
    intro k p q h0 h1 h2 hk hq
    obtain ⟨k, rfl⟩ : ∃ z, k = z + 1 := ⟨k - 1, by omega⟩
    obtain rfl : p = 4 := by omega
    unfold ref10_State_Words.l6
    rw [decide_eq_false (by omega), cond_false]
    exact ⟨q, rfl, hq, fun j hj => by rw [if_neg (by omega)]⟩
  | succ m ih =>
    intro k p q h0 h1 h2 hk hq
    obtain ⟨k, rfl⟩ : ∃ z, k = z + 1 := ⟨k - 1, by omega⟩
    have a1 := hx.pages p h0 (by omega)
    have a2 := hx.right p h0 (by omega)
    unfold ref10_State_Words.l6
    rw [decide_eq_true (by omega), cond_true, A4.get_nth _ (by omega), Option.bind_some, w64_id (x := p + 1) (by omega) (by omega)]
    by_cases c : 0 ≤ x.Pages.nth p
    · rw [decide_eq_true c, cond_true, Option.bind_some, A4.get_nth _ (by omega), Option.bind_some, w64_id (x := 8 * i) (by omega) (by omega), w64_id (x := 480 + 8 * i) (by omega) (by omega), w64_id (x := 480 + 8 * i + 1) (by omega) (by omega), w64_id (x := 480 + 8 * i + 1 + p) (by omega) (by omega), rd_at hq (by omega), Option.bind_some,
        w64_id (x := x.Pages.nth p + 1) (by omega) (by omega), w64_id (x := 8 * (x.Pages.nth p + 1)) (by omega) (by omega), w64_id (x := 8 * (x.Pages.nth p + 1) + x.Right.nth p) (by omega) (by omega), wu64_id (by omega) (by omega)]
      obtain ⟨q', e, l, g⟩ := ih k (p + 1) (q.set (480 + 8 * i + 1 + p).toNat (8 * (x.Pages.nth p + 1) + x.Right.nth p)) (by omega) (by omega) (by omega) (by omega) (by simpa using hq)
      refine ⟨q', e, l, fun j hj => ?_⟩
      rw [g j hj, set_at hq _ _ _ (by omega) hj]
      by_cases e1 : j = 480 + 8 * i + 1 + p
      · subst e1
        rw [if_neg (by omega), if_pos rfl, show 480 + 8 * i + 1 + p - (480 + 8 * i + 1) = p by omega, if_pos ⟨by omega, by omega, c⟩]
        unfold pgw; rw [if_pos c]
      · rw [if_neg e1]
        by_cases e2 : 480 + 8 * i + 1 + p ≤ j ∧ j < 480 + 8 * i + 5 ∧ 0 ≤ x.Pages.nth (j - (480 + 8 * i + 1))
        · rw [if_pos e2, if_pos ⟨by omega, e2.2⟩]
        · rw [if_neg e2, if_neg (fun h => e2 ⟨by omega, h.2⟩)]
    · rw [decide_eq_false c, cond_false]
      obtain ⟨q', e, l, g⟩ := ih k (p + 1) q (by omega) (by omega) (by omega) (by omega) hq
      refine ⟨q', e, l, fun j hj => ?_⟩
      rw [g j hj]
      by_cases e1 : j = 480 + 8 * i + 1 + p
      · subst e1
        rw [if_neg (by omega), if_neg]
        rw [show 480 + 8 * i + 1 + p - (480 + 8 * i + 1) = p by omega]
        exact fun h => c h.2.2
      · by_cases e2 : 480 + 8 * i + 1 + p ≤ j ∧ j < 480 + 8 * i + 5 ∧ 0 ≤ x.Pages.nth (j - (480 + 8 * i + 1))
        · rw [if_pos e2, if_pos ⟨by omega, e2.2⟩]
        · rw [if_neg e2, if_neg (fun h => e2 ⟨by omega, h.2⟩)]
section
variable (i : Int) (x : ref10_Obj) (hi : 0 ≤ i ∧ i < 32) (hn : x.Queue.length ≤ 32) (hr : ∀ y ∈ x.Queue, 0 ≤ y ∧ y < 32 ∧ y ≠ i)
include hi hn hr
theorem queue_ok : ∀ (rest dn : List Int) (m : Int) (k : Nat) (q : List Int), x.Queue = dn ++ rest → m = dn.length → rest.length < k → q.length = 738 → rest.Nodup → (∀ y ∈ rest, q.getD (480 + 8 * y + 2).toNat 0 = 0) →
    ∃ q', ref10_State_Words.l7 i x k (m, q) = some q' ∧ q'.length = 738 ∧ (∀ j : Int, 0 ≤ j → j < 480 ∨ 736 ≤ j → q'.getD j.toNat 0 = q.getD j.toNat 0) ∧
      ∀ s f, 0 ≤ s → s < 32 → 0 ≤ f → f < 8 → q'.getD (480 + 8 * s + f).toNat 0 = if f = 2 ∧ s ∈ rest then nextOf rest s else if f = 2 ∧ s = i ∧ dn = [] ∧ rest ≠ [] then hd rest else if f = 3 ∧ s = i ∧ rest ≠ [] then la rest else q.getD (480 + 8 * s + f).toNat 0 := by
  intro rest
  induction rest with
  | nil =>
    intro dn m k q hk hm hl hq hnd hz
    obtain ⟨k, rfl⟩ : ∃ z, k = z + 1 := ⟨k - 1, by simp at hl; omega⟩
    have : m = x.Queue.length := by rw [hk, hm]; simp
    unfold ref10_State_Words.l7
    rw [decide_eq_false (by omega), cond_false]
    exact ⟨q, rfl, hq, fun _ _ _ => rfl, fun s f _ _ _ _ => by simp⟩
  | cons y r ih =>
    intro dn m k q hk hm hl hq hnd hz
    obtain ⟨k, rfl⟩ : ∃ z, k = z + 1 := ⟨k - 1, by simp at hl; omega⟩
    have hlen : (x.Queue.length : Int) = m + 1 + r.length := by rw [hk, hm]; simp; omega
    have hy := hr y (by rw [hk]; simp)
    have hym : at_ x.Queue m = some y := by
      unfold at_
      rw [decide_eq_true (by omega), cond_true, hk, hm, Int.toNat_natCast, List.getElem?_append_right (Nat.le_refl _)]; simp
    have hnd2 := List.nodup_cons.1 hnd
    unfold ref10_State_Words.l7
    rw [decide_eq_true (by omega), cond_true, hym, Option.bind_some, w64_id (x := 8 * i) (by omega) (by omega), w64_id (x := 480 + 8 * i) (by omega) (by omega), w64_id (x := 480 + 8 * i + 2) (by omega) (by omega), w64_id (x := 480 + 8 * i + 3) (by omega) (by omega)]
    have step1 : ∃ q1, (bif m == 0 then ((at_ q (480 + 8 * i + 2)).bind fun x151 => some (q.set (480 + 8 * i + 2).toNat (wu64 (w64 (y + 1))))) else (some q)) = some q1 ∧ q1.length = 738 ∧ ∀ j : Int, 0 ≤ j → q1.getD j.toNat 0 = if dn = [] ∧ j = 480 + 8 * i + 2 then y + 1 else q.getD j.toNat 0 := by
      by_cases hdn : dn = []
      · have hm0 : (m == 0) = true := by simp [hm, hdn]
        rw [hm0, cond_true, rd_at hq (by omega), Option.bind_some, w64_id (by omega) (by omega), wu64_id (by omega) (by omega)]
        refine ⟨_, rfl, by simpa using hq, fun j hj => ?_⟩
        rw [set_at hq _ _ _ (by omega) hj]
        simp only [hdn, true_and]
      · have hm0 : (m == 0) = false := by
          have : 0 < dn.length := List.length_pos_iff.2 hdn
          simp [hm]; exact hdn
        rw [hm0, cond_false]
        exact ⟨_, rfl, hq, fun j hj => by rw [if_neg (fun h => hdn h.1)]⟩
    obtain ⟨q1, e1, l1, g1⟩ := step1
    rw [e1, Option.bind_some, w64_id (x := m + 1) (by omega) (by omega)]
    have hk' : x.Queue = (dn ++ [y]) ++ r := by rw [hk]; simp
    have hne : dn ++ [y] ≠ [] := by simp
    cases r with
    | nil =>
      rw [decide_eq_false (by simp at hlen; omega), cond_false, rd_at l1 (by omega), Option.bind_some, w64_id (x := y + 1) (by omega) (by omega), wu64_id (x := y + 1) (by omega) (by omega)]
      obtain ⟨q', e2, l2, g2, g3⟩ := ih (dn ++ [y]) (m + 1) k (q1.set (480 + 8 * i + 3).toNat (y + 1)) hk' (by simp [hm]) (by simp at hl ⊢; omega) (by simpa using l1) List.nodup_nil (by simp)
      refine ⟨q', e2, l2, fun j hj hj2 => ?_, fun s f h1 h2 h3 h4 => ?_⟩
      · rw [g2 j hj hj2, set_at l1 _ _ _ (by omega) hj, if_neg (by omega), g1 j hj, if_neg (by omega)]
      · rw [g3 s f h1 h2 h3 h4, set_at l1 _ _ _ (by omega) (by omega), g1 _ (by omega)]
        have z2 := hz y (by simp)
        have el : la [y] = y + 1 := rfl
        rw [el]
        simp only [List.not_mem_nil, and_false, if_false, List.mem_singleton, ne_eq, not_true, List.cons_ne_nil, not_false_eq_true, and_true, nextOf, hd]
        by_cases c1 : f = 2 ∧ s = y
        · obtain ⟨rfl, rfl⟩ := c1; rw [if_neg (by omega), if_neg (by omega), if_pos ⟨rfl, rfl⟩, if_pos rfl, z2]
        · rw [if_neg c1]
          by_cases c2 : f = 3 ∧ s = i
          · rw [if_pos (by omega), if_neg (by omega), if_pos c2]
          · rw [if_neg (by omega : ¬ (480 + 8 * s + f = 480 + 8 * i + 3))]
            by_cases c3 : f = 2 ∧ s = i ∧ dn = []
            · rw [if_pos ⟨c3.2.2, by omega⟩, if_pos c3]
            · rw [if_neg (fun h => c3 ⟨by omega, by omega, h.1⟩), if_neg c3, if_neg c2]
    | cons u r =>
      have hu := hr u (by rw [hk]; simp)
      have hum : at_ x.Queue (m + 1) = some u := by
        unfold at_
        have hm1 : m + 1 = (dn ++ [y]).length := by rw [hm]; simp
        rw [decide_eq_true (by omega), cond_true, hk', hm1, Int.toNat_natCast, List.getElem?_append_right (Nat.le_refl _)]; simp
      rw [decide_eq_true (by simp at hlen; omega), cond_true, hum, Option.bind_some, w64_id (x := 8 * y) (by omega) (by omega), w64_id (x := 480 + 8 * y) (by omega) (by omega), w64_id (x := 480 + 8 * y + 2) (by omega) (by omega), rd_at l1 (by omega), Option.bind_some, w64_id (x := u + 1) (by omega) (by omega), wu64_id (x := u + 1) (by omega) (by omega)]
      have l1' : (q1.set (480 + 8 * y + 2).toNat (u + 1)).length = 738 := by simpa using l1
      have G : ∀ j : Int, 0 ≤ j → (q1.set (480 + 8 * y + 2).toNat (u + 1)).getD j.toNat 0 = if j = 480 + 8 * y + 2 then u + 1 else if dn = [] ∧ j = 480 + 8 * i + 2 then y + 1 else q.getD j.toNat 0 := fun j hj => by
        rw [set_at l1 _ _ _ (by omega) hj, g1 j hj]
      generalize q1.set (480 + 8 * y + 2).toNat (u + 1) = q2 at G l1'
      have hyr : ∀ w ∈ u :: r, w ≠ y := fun w hw e => by subst e; exact hnd2.1 hw
      obtain ⟨q', e2, l2, g2, g3⟩ := ih (dn ++ [y]) (m + 1) k q2 hk' (by simp [hm]) (by simp at hl ⊢; omega) l1' hnd2.2 (fun w hw => by
        have hwr := hr w (by rw [hk]; simp only [List.mem_append, List.mem_cons]; right; right; simpa using hw)
        have h1 := hyr w hw
        rw [G _ (by omega), if_neg (by omega), if_neg (by omega)]
        exact hz w (List.mem_cons_of_mem _ hw))
      refine ⟨q', e2, l2, fun j hj hj2 => ?_, fun s f h1 h2 h3 h4 => ?_⟩
      · rw [g2 j hj hj2, G j hj, if_neg (by omega), if_neg (by omega)]
      · rw [g3 s f h1 h2 h3 h4, G _ (by omega)]
        have en : nextOf (y :: u :: r) s = if s = y then u + 1 else nextOf (u :: r) s := rfl
        have el : la (y :: u :: r) = la (u :: r) := by unfold la; rw [List.getLast?_cons_cons]
        rw [en, el]
        by_cases f2 : f = 2
        · subst f2
          by_cases c1 : s = y
          · subst c1
            have : s ∉ u :: r := hnd2.1
            rw [if_neg (fun h => this h.2), if_neg (fun h => hne h.2.2.1), if_neg (by omega), if_pos rfl, if_pos ⟨rfl, List.mem_cons_self⟩, if_pos rfl]
          · by_cases c2 : s ∈ u :: r
            · rw [if_pos ⟨rfl, c2⟩, if_pos ⟨rfl, List.mem_cons_of_mem _ c2⟩, if_neg c1]
            · rw [if_neg (fun h => c2 h.2), if_neg (fun h => hne h.2.2.1), if_neg (by omega), if_neg (by omega)]
              by_cases c5 : s = i ∧ dn = []
              · rw [if_pos ⟨c5.2, by omega⟩, if_neg (fun h => by rcases List.mem_cons.1 h.2 with e | e; exact c1 e; exact c2 e), if_pos ⟨rfl, c5.1, c5.2, by simp⟩]; rfl
              · rw [if_neg (fun h => c5 ⟨by omega, h.1⟩), if_neg (fun h => by rcases List.mem_cons.1 h.2 with e | e; exact c1 e; exact c2 e), if_neg (fun h => c5 ⟨h.2.1, h.2.2.1⟩), if_neg (by omega)]
        · rw [if_neg (fun h => f2 h.1), if_neg (fun h => f2 h.1)]
          by_cases c5 : f = 3 ∧ s = i
          · rw [if_pos ⟨c5.1, c5.2, by simp⟩, if_neg (fun h => f2 h.1), if_neg (fun h => f2 h.1), if_pos ⟨c5.1, c5.2, by simp⟩]
          · rw [if_neg (fun h => c5 ⟨h.1, h.2.1⟩), if_neg (by omega), if_neg (by omega), if_neg (fun h => f2 h.1), if_neg (fun h => f2 h.1), if_neg (fun h => c5 ⟨h.1, h.2.1⟩)]
end
end Go.Proofs
/-! All words of a state: the whole. -/
set_option linter.unusedVariables false
namespace Go.Proofs
open Go.Sl
theorem own0 {o : ref10_Obj} (K : o.Kind = 0) (f : Int) : own o f = if f = 0 then 0 else 0 := by unfold own; simp [K]
theorem own1 {o : ref10_Obj} (K : o.Kind = 1) (f : Int) : own o f = if f = 0 then 1 else if f = 1 then o.Size else if f = 2 then o.Used else 0 := by unfold own; simp [K]
theorem own2 {o : ref10_Obj} (K : o.Kind = 2) (f : Int) : own o f = if f = 0 then 2 else if f = 1 then o.First else if f = 2 then o.Radix else 0 := by unfold own; simp [K]
theorem own3 {o : ref10_Obj} (K : o.Kind = 3) (f : Int) : own o f = if f = 0 then 3 else if f = 1 then o.Wait else 0 := by unfold own; simp [K]
theorem own4 {o : ref10_Obj} (K : o.Kind = 4) (f : Int) : own o f = if f = 0 then 4 else if f = 1 then o.Word else 0 := by unfold own; simp [K]
theorem own5 {o : ref10_Obj} (K : o.Kind = 5) (f : Int) : own o f = if f = 0 then 5 else if f = 1 then o.State else if f = 2 then o.Owing + 1 else if f = 3 then o.Word else if f = 4 then o.Badge else if f = 5 then o.Prio + 256 * (o.On + 1) else if f = 6 then o.Owes + 1 else capWord o.Root := by unfold own; simp [K]
theorem own6 {o : ref10_Obj} (K : o.Kind = 6) (f : Int) : own o f = if f = 0 then 6 else if f = 1 then o.In + 1 else if f = 2 then o.Page else 0 := by unfold own; simp [K]
theorem own7 {o : ref10_Obj} (K : o.Kind = 7) (f : Int) : own o f = if f = 0 then 7 else if 1 ≤ f ∧ f ≤ 4 then pgw o (f - 1) else 0 := by unfold own; simp [K]
theorem own8 {o : ref10_Obj} (K : o.Kind = 8) (f : Int) : own o f = if f = 0 then 8 else if f = 1 then o.Bound + 1 else if f = 2 then o.Badge else if f = 3 then o.Mask else 0 := by unfold own; simp [K]
theorem eqa (a b c : Int) : (a + b = a + c) = (b = c) := by apply propext; omega
theorem eqc (a b : Int) : (a = a + b) = (b = 0) := by apply propext; omega
theorem eqb (a b : Int) : (a + b = a) = (b = 0) := by apply propext; omega
def OI (st : ref10_State) (i : Int) (b q : List Int) : Prop :=
  (∀ j : Int, 0 ≤ j → j < 480 ∨ 736 ≤ j → q.getD j.toNat 0 = b.getD j.toNat 0) ∧ ∀ s f, 0 ≤ s → s < 32 → 0 ≤ f → f < 8 → q.getD (480 + 8 * s + f).toNat 0 = if f = 2 ∧ (obt st s).Kind = 5 ∧ 0 ≤ (obt st s).On then (if (obt st s).On < i then ob st s 2 else 0) else if s < i then ob st s f else 0
set_option maxHeartbeats 2000000 in
theorem objs_ok {st : ref10_State} (h : WF st) (b : List Int) : ∀ (m k : Nat) (i : Int) (q : List Int), 0 ≤ i → i ≤ 32 → 32 - i = m → m + 100 < k → q.length = 738 → OI st i b q → ∃ q', ref10_State_Words.l4 st k (i, q) = some q' ∧ q'.length = 738 ∧ OI st 32 b q' := by
  intro m
  induction m with
  | zero =>
    intro k i q h0 h1 h2 hk hq hI
    obtain ⟨k, rfl⟩ : ∃ z, k = z + 1 := ⟨k - 1, by omega⟩
    obtain rfl : i = 32 := by omega
    unfold ref10_State_Words.l4
    rw [decide_eq_false (by omega), cond_false]
    exact ⟨q, rfl, hq, hI⟩
  | succ m ih =>
    intro k i q h0 h1 h2 hk hq hI
    obtain ⟨k, rfl⟩ : ∃ z, k = z + 1 := ⟨k - 1, by omega⟩
    have hi : 0 ≤ i ∧ i < 32 := by omega
    have hx : at_ st.Objs i = some (obt st i) := at_getD h0 (by rw [h.lo]; omega)
    have hw := h.obj i h0 hi.2
    have hqr := fun y hy => h.que i h0 hi.2 y hy
    have hqk := h.qk i h0 hi.2
    have hne : ∀ y ∈ (obt st i).Queue, 0 ≤ y ∧ y < 32 ∧ y ≠ i := fun y hy => by
      obtain ⟨y1, y2, y3, y4, y5⟩ := hqr y hy
      have := hqk (List.ne_nil_of_mem hy)
      refine ⟨y1, y2, fun e => ?_⟩
      rw [e] at y3; omega
    have hqn := nodup_len 32 (h.nodq i h0 hi.2) (fun y hy => ⟨(hne y hy).1, (hne y hy).2.1⟩)
    -- what follows the object's own words
    have cont : ∀ q5 : List Int, q5.length = 738 → (∀ j : Int, 0 ≤ j → q5.getD j.toNat 0 = if 480 + 8 * i ≤ j ∧ j < 488 + 8 * i then own (obt st i) (j - (480 + 8 * i)) + (if j = 480 + 8 * i + 2 ∧ (obt st i).Kind = 5 then q.getD j.toNat 0 else 0) else q.getD j.toNat 0) →
        ∃ q', ((ref10_State_Words.l7 i (obt st i) k (0, q5)).bind fun qv5_e7 => ref10_State_Words.l4 st k (w64 (i + 1), qv5_e7)) = some q' ∧ q'.length = 738 ∧ OI st 32 b q' := by
      intro q5 l5 G
      obtain ⟨q', e2, l2, g2, g3⟩ := queue_ok i (obt st i) hi hqn hne (obt st i).Queue [] 0 k q5 rfl rfl (by omega) l5 (h.nodq i h0 hi.2) (fun y hy => by
        obtain ⟨y1, y2, y3, y4, y5⟩ := hqr y hy
        have := (hne y hy).2.2
        rw [G _ (by omega), if_neg (by omega), hI.2 y 2 y1 y2 (by decide) (by decide), if_pos ⟨rfl, y3, by omega⟩, if_neg (by omega)])
      rw [e2, Option.bind_some]
      try simp only []
      rw [w64_id (by omega) (by omega)]
      refine ih k (i + 1) q' (by omega) (by omega) (by omega) (by omega) l2 ⟨fun j hj hj2 => ?_, fun s f s1 s2 f1 f2 => ?_⟩
      · rw [g2 j hj hj2, G j hj, if_neg (by omega)]; exact hI.1 j hj hj2
      · rw [g3 s f s1 s2 f1 f2, G _ (by omega)]
        have hIs := hI.2 s f s1 s2 f1 f2
        by_cases c : f = 2 ∧ s ∈ (obt st i).Queue
        · obtain ⟨y1, y2, y3, y4, y5⟩ := hqr s c.2
          rw [if_pos c, if_pos ⟨c.1, y3, by omega⟩, if_pos (by omega)]
          unfold ob
          rw [if_pos ⟨rfl, y3, by omega⟩, y4]
        · rw [if_neg c]
          by_cases e : s = i
          · subst e
            rw [if_pos (show 480 + 8 * s ≤ 480 + 8 * s + f ∧ 480 + 8 * s + f < 488 + 8 * s by omega), show 480 + 8 * s + f - (480 + 8 * s) = f by omega]
            by_cases k5 : f = 2 ∧ (obt st s).Kind = 5
            · have hq0 : (obt st s).Queue = [] := by
                rcases Classical.em ((obt st s).Queue = []) with z | z
                · exact z
                · have := hqk z; omega
              obtain ⟨rfl, k5⟩ := k5
              rw [if_neg (fun z => z.2.2.2 hq0), if_neg (fun z => z.2.2 hq0), if_pos ⟨by omega, k5⟩, hIs]
              have eo : own (obt st s) 2 = (obt st s).Owing + 1 := by
                unfold own; simp [k5]
              rw [eo]
              by_cases on : 0 ≤ (obt st s).On
              · have hm := h.onq s h0 hi.2 k5 on
                have hon := hw.on
                have how := (h.que _ on hon.2 s hm).2.2.2.2
                rw [if_pos ⟨rfl, k5, on⟩, how]
                have hno : (obt st s).On ≠ s := fun z => by rw [z] at hm; exact c ⟨rfl, hm⟩
                by_cases lt : (obt st s).On < s
                · rw [if_pos lt, if_pos ⟨rfl, k5, on⟩, if_pos (by omega)]; omega
                · rw [if_neg lt, if_pos ⟨rfl, k5, on⟩, if_neg (by omega)]; rfl
              · rw [if_neg (fun z => on z.2.2), if_neg (by omega), if_neg (fun z => on z.2.2), if_pos (by omega)]
                unfold ob
                rw [if_neg (fun z => on z.2.2), if_neg (fun z => z.2 hq0), if_neg (by omega), eo]; omega
            · have eR : (if f = 2 ∧ (obt st s).Kind = 5 ∧ 0 ≤ (obt st s).On then (if (obt st s).On < s + 1 then ob st s 2 else 0) else if s < s + 1 then ob st s f else 0) = ob st s f := by
                rw [if_neg (fun z => k5 ⟨z.1, z.2.1⟩), if_pos (by omega)]
              have eo : ob st s f = if f = 2 ∧ (obt st s).Queue ≠ [] then hd (obt st s).Queue else if f = 3 ∧ (obt st s).Queue ≠ [] then la (obt st s).Queue else own (obt st s) f := by
                unfold ob; rw [if_neg (fun z => k5 ⟨z.1, z.2.1⟩)]
              rw [eR, eo]
              by_cases c2 : f = 2 ∧ (obt st s).Queue ≠ []
              · rw [if_pos ⟨c2.1, rfl, rfl, c2.2⟩, if_pos c2]
              · rw [if_neg (fun z => c2 ⟨z.1, z.2.2.2⟩), if_neg c2]
                by_cases c3 : f = 3 ∧ (obt st s).Queue ≠ []
                · rw [if_pos ⟨c3.1, rfl, c3.2⟩, if_pos c3]
                · rw [if_neg (fun z => c3 ⟨z.1, z.2.2⟩), if_neg c3, if_neg (fun z => k5 ⟨by omega, z.2⟩)]; omega
          · rw [if_neg (fun z => e z.2.1), if_neg (fun z => e z.2.1), if_neg (by omega), hIs]
            by_cases k5 : f = 2 ∧ (obt st s).Kind = 5 ∧ 0 ≤ (obt st s).On
            · rw [if_pos k5, if_pos k5]
              have hno : (obt st s).On ≠ i := fun z => by
                have hm := h.onq s s1 s2 k5.2.1 k5.2.2
                rw [z] at hm; exact c ⟨k5.1, hm⟩
              by_cases lt : (obt st s).On < i
              · rw [if_pos lt, if_pos (by omega)]
              · rw [if_neg lt, if_neg (by omega)]
            · rw [if_neg k5, if_neg k5]
              by_cases lt : s < i
              · rw [if_pos lt, if_pos (by omega)]
              · rw [if_neg lt, if_neg (by omega)]
    have hz : ∀ f, 0 ≤ f → f < 8 → ¬ (f = 2 ∧ (obt st i).Kind = 5) → q.getD (480 + 8 * i + f).toNat 0 = 0 := fun f f1 f2 hf => by
      rw [hI.2 i f h0 hi.2 f1 f2, if_neg (fun z => hf ⟨z.1, z.2.1⟩), if_neg (by omega)]
    have hc2 : 0 ≤ q.getD (480 + 8 * i + 2).toNat 0 ∧ q.getD (480 + 8 * i + 2).toNat 0 ≤ 32 := by
      rw [hI.2 i 2 h0 hi.2 (by decide) (by decide)]
      by_cases c : (obt st i).Kind = 5 ∧ 0 ≤ (obt st i).On
      · rw [if_pos ⟨rfl, c⟩]
        split
        · unfold ob
          rw [if_pos ⟨rfl, c⟩]
          exact nextOf_rg (by decide) _ fun y hy => by
            have := h.que _ c.2 hw.on.2 y hy; omega
        · decide
      · rw [if_neg (fun z => c z.2), if_neg (by omega)]; decide
    unfold ref10_State_Words.l4
    rw [decide_eq_true (by omega), cond_true, hx, Option.bind_some]
    have p0 : w64 (480 + w64 (8 * i)) = 480 + 8 * i := by rw [w64_id (x := 8 * i) (by omega) (by omega), w64_id (by omega) (by omega)]
    have p1 : w64 (480 + 8 * i + 1) = 480 + 8 * i + 1 := w64_id (by omega) (by omega)
    have p2 : w64 (480 + 8 * i + 2) = 480 + 8 * i + 2 := w64_id (by omega) (by omega)
    have p3 : w64 (480 + 8 * i + 3) = 480 + 8 * i + 3 := w64_id (by omega) (by omega)
    have p4 : w64 (480 + 8 * i + 4) = 480 + 8 * i + 4 := w64_id (by omega) (by omega)
    have p5 : w64 (480 + 8 * i + 5) = 480 + 8 * i + 5 := w64_id (by omega) (by omega)
    have p6 : w64 (480 + 8 * i + 6) = 480 + 8 * i + 6 := w64_id (by omega) (by omega)
    have p7 : w64 (480 + 8 * i + 7) = 480 + 8 * i + 7 := w64_id (by omega) (by omega)
    have A : ∀ (q' : List Int) (c : Int), q'.length = 738 → 0 ≤ c → c < 8 → at_ q' (480 + 8 * i + c) = some (q'.getD (480 + 8 * i + c).toNat 0) := fun q' c z c0 c1 => rd_at z (by omega)
    have A0 : at_ q (480 + 8 * i) = some (q.getD (480 + 8 * i).toNat 0) := rd_at hq (by omega)
    have S : ∀ (q' : List Int) (c v j : Int), q'.length = 738 → 0 ≤ c → c < 8 → 0 ≤ j → (q'.set (480 + 8 * i + c).toNat v).getD j.toNat 0 = if j = 480 + 8 * i + c then v else q'.getD j.toNat 0 := fun q' c v j z c0 c1 hj => set_at z _ _ _ (by omega) hj
    have S0 : ∀ (v j : Int), 0 ≤ j → (q.set (480 + 8 * i).toNat v).getD j.toNat 0 = if j = 480 + 8 * i then v else q.getD j.toNat 0 := fun v j hj => set_at hq _ _ _ (by omega) hj
    obtain ⟨w1, w2, w3, w4, w5, w6, w7, w8, w9, w10, w11, w12, w13, w14, w15, w16, w17, w18, w19, w20⟩ := hw
    have v1 : wu64 (obt st i).Kind = (obt st i).Kind := wu64_id (by omega) (by omega)
    have z0 := hz 0 (by decide) (by decide) (by omega)
    rw [Int.add_zero] at z0
    have z1 := hz 1 (by decide) (by decide) (by omega)
    have z3 := hz 3 (by decide) (by decide) (by omega)
    have z4 := hz 4 (by decide) (by decide) (by omega)
    have z5 := hz 5 (by decide) (by decide) (by omega)
    have z6 := hz 6 (by decide) (by decide) (by omega)
    have z7 := hz 7 (by decide) (by decide) (by omega)
    simp only [p0, p1, p2, p3, p4, p5, p6, p7, A0, Option.bind_some, v1]
    have fin : ∀ q5 : List Int, q5.length = 738 → (∀ j : Int, 0 ≤ j → ¬ (480 + 8 * i ≤ j ∧ j < 488 + 8 * i) → q5.getD j.toNat 0 = q.getD j.toNat 0) → (∀ f, 0 ≤ f → f < 8 → q5.getD (480 + 8 * i + f).toNat 0 = own (obt st i) f + (if f = 2 ∧ (obt st i).Kind = 5 then q.getD (480 + 8 * i + 2).toNat 0 else 0)) →
        ∃ q', ((ref10_State_Words.l7 i (obt st i) k (0, q5)).bind fun qv5_e7 => ref10_State_Words.l4 st k (w64 (i + 1), qv5_e7)) = some q' ∧ q'.length = 738 ∧ OI st 32 b q' := fun q5 l5 a1 a2 => cont q5 l5 fun j hj => by
      by_cases c : 480 + 8 * i ≤ j ∧ j < 488 + 8 * i
      · rw [if_pos c]
        have := a2 (j - (480 + 8 * i)) (by omega) (by omega)
        rw [show 480 + 8 * i + (j - (480 + 8 * i)) = j by omega] at this
        rw [this]
        by_cases d : j = 480 + 8 * i + 2
        · subst d
          rw [show 480 + 8 * i + 2 - (480 + 8 * i) = 2 by omega]
          simp only [true_and]
        · rw [if_neg (fun z => d (by omega)), if_neg (fun z => d z.1)]
      · rw [if_neg c]; exact a1 j hj c
    rcases (by omega : (obt st i).Kind = 0 ∨ (obt st i).Kind = 1 ∨ (obt st i).Kind = 2 ∨ (obt st i).Kind = 3 ∨ (obt st i).Kind = 4 ∨ (obt st i).Kind = 5 ∨ (obt st i).Kind = 6 ∨ (obt st i).Kind = 7 ∨ (obt st i).Kind = 8) with K | K | K | K | K | K | K | K | K
    · simp only [K, show ((0 : Int) == 1) = false from rfl, show ((0 : Int) == 2) = false from rfl, show ((0 : Int) == 3) = false from rfl, show ((0 : Int) == 4) = false from rfl, show ((0 : Int) == 5) = false from rfl, show ((0 : Int) == 6) = false from rfl, show ((0 : Int) == 7) = false from rfl, show ((0 : Int) == 8) = false from rfl, cond_false, cond_true, Option.bind_some]
      refine fin _ (by simp only [List.length_set, hq]) (fun j hj c => ?_) (fun f f1 f2 => ?_)
      · rw [S0 _ _ hj, if_neg (by omega)]
      · rw [own0 K, if_neg (show ¬ (f = 2 ∧ (obt st i).Kind = 5) by omega), S0 _ _ (by omega)]
        rcases (by omega : f = 0 ∨ f = 1 ∨ f = 2 ∨ f = 3 ∨ f = 4 ∨ f = 5 ∨ f = 6 ∨ f = 7) with rfl | rfl | rfl | rfl | rfl | rfl | rfl | rfl
        all_goals simp [-List.getD_eq_getElem?_getD, eqa, eqb, eqc, hz 2 (by decide) (by decide) (by omega), z1, z3, z4, z5, z6, z7]
    · simp only [K, show ((1 : Int) == 1) = true from rfl, show ((1 : Int) == 2) = false from rfl, show ((1 : Int) == 3) = false from rfl, show ((1 : Int) == 4) = false from rfl, show ((1 : Int) == 5) = false from rfl, show ((1 : Int) == 6) = false from rfl, show ((1 : Int) == 7) = false from rfl, show ((1 : Int) == 8) = false from rfl, cond_false, cond_true, Option.bind_some]
      rw [A _ 1 (by simp only [List.length_set, hq]) (by decide) (by decide), Option.bind_some, A _ 2 (by simp only [List.length_set, hq]) (by decide) (by decide), Option.bind_some]
      rw [wu64_id (x := (obt st i).Size) (by omega) (by omega), wu64_id (x := (obt st i).Used) (by omega) (by omega)]
      refine fin _ (by simp only [List.length_set, hq]) (fun j hj c => ?_) (fun f f1 f2 => ?_)
      · rw [S _ 2 _ _ (by simp only [List.length_set, hq]) (by decide) (by decide) hj, S _ 1 _ _ (by simp only [List.length_set, hq]) (by decide) (by decide) hj, S0 _ _ hj, if_neg (by omega), if_neg (by omega), if_neg (by omega)]
      · rw [own1 K, if_neg (show ¬ (f = 2 ∧ (obt st i).Kind = 5) by omega), S _ 2 _ _ (by simp only [List.length_set, hq]) (by decide) (by decide) (by omega), S _ 1 _ _ (by simp only [List.length_set, hq]) (by decide) (by decide) (by omega), S0 _ _ (by omega)]
        rcases (by omega : f = 0 ∨ f = 1 ∨ f = 2 ∨ f = 3 ∨ f = 4 ∨ f = 5 ∨ f = 6 ∨ f = 7) with rfl | rfl | rfl | rfl | rfl | rfl | rfl | rfl
        all_goals simp [-List.getD_eq_getElem?_getD, eqa, eqb, eqc, hz 2 (by decide) (by decide) (by omega), z1, z3, z4, z5, z6, z7]
    · simp only [K, show ((2 : Int) == 1) = false from rfl, show ((2 : Int) == 2) = true from rfl, show ((2 : Int) == 3) = false from rfl, show ((2 : Int) == 4) = false from rfl, show ((2 : Int) == 5) = false from rfl, show ((2 : Int) == 6) = false from rfl, show ((2 : Int) == 7) = false from rfl, show ((2 : Int) == 8) = false from rfl, cond_false, cond_true, Option.bind_some]
      rw [A _ 1 (by simp only [List.length_set, hq]) (by decide) (by decide), Option.bind_some, A _ 2 (by simp only [List.length_set, hq]) (by decide) (by decide), Option.bind_some]
      rw [wu64_id (x := (obt st i).First) (by omega) (by omega), wu64_id (x := (obt st i).Radix) (by omega) (by omega)]
      refine fin _ (by simp only [List.length_set, hq]) (fun j hj c => ?_) (fun f f1 f2 => ?_)
      · rw [S _ 2 _ _ (by simp only [List.length_set, hq]) (by decide) (by decide) hj, S _ 1 _ _ (by simp only [List.length_set, hq]) (by decide) (by decide) hj, S0 _ _ hj, if_neg (by omega), if_neg (by omega), if_neg (by omega)]
      · rw [own2 K, if_neg (show ¬ (f = 2 ∧ (obt st i).Kind = 5) by omega), S _ 2 _ _ (by simp only [List.length_set, hq]) (by decide) (by decide) (by omega), S _ 1 _ _ (by simp only [List.length_set, hq]) (by decide) (by decide) (by omega), S0 _ _ (by omega)]
        rcases (by omega : f = 0 ∨ f = 1 ∨ f = 2 ∨ f = 3 ∨ f = 4 ∨ f = 5 ∨ f = 6 ∨ f = 7) with rfl | rfl | rfl | rfl | rfl | rfl | rfl | rfl
        all_goals simp [-List.getD_eq_getElem?_getD, eqa, eqb, eqc, hz 2 (by decide) (by decide) (by omega), z1, z3, z4, z5, z6, z7]
    · simp only [K, show ((3 : Int) == 1) = false from rfl, show ((3 : Int) == 2) = false from rfl, show ((3 : Int) == 3) = true from rfl, show ((3 : Int) == 4) = false from rfl, show ((3 : Int) == 5) = false from rfl, show ((3 : Int) == 6) = false from rfl, show ((3 : Int) == 7) = false from rfl, show ((3 : Int) == 8) = false from rfl, cond_false, cond_true, Option.bind_some]
      rw [A _ 1 (by simp only [List.length_set, hq]) (by decide) (by decide), Option.bind_some]
      rw [wu64_id (x := (obt st i).Wait) (by omega) (by omega)]
      refine fin _ (by simp only [List.length_set, hq]) (fun j hj c => ?_) (fun f f1 f2 => ?_)
      · rw [S _ 1 _ _ (by simp only [List.length_set, hq]) (by decide) (by decide) hj, S0 _ _ hj, if_neg (by omega), if_neg (by omega)]
      · rw [own3 K, if_neg (show ¬ (f = 2 ∧ (obt st i).Kind = 5) by omega), S _ 1 _ _ (by simp only [List.length_set, hq]) (by decide) (by decide) (by omega), S0 _ _ (by omega)]
        rcases (by omega : f = 0 ∨ f = 1 ∨ f = 2 ∨ f = 3 ∨ f = 4 ∨ f = 5 ∨ f = 6 ∨ f = 7) with rfl | rfl | rfl | rfl | rfl | rfl | rfl | rfl
        all_goals simp [-List.getD_eq_getElem?_getD, eqa, eqb, eqc, hz 2 (by decide) (by decide) (by omega), z1, z3, z4, z5, z6, z7]
    · simp only [K, show ((4 : Int) == 1) = false from rfl, show ((4 : Int) == 2) = false from rfl, show ((4 : Int) == 3) = false from rfl, show ((4 : Int) == 4) = true from rfl, show ((4 : Int) == 5) = false from rfl, show ((4 : Int) == 6) = false from rfl, show ((4 : Int) == 7) = false from rfl, show ((4 : Int) == 8) = false from rfl, cond_false, cond_true, Option.bind_some]
      rw [A _ 1 (by simp only [List.length_set, hq]) (by decide) (by decide), Option.bind_some]
      rw [wu64_id (x := (obt st i).Word) (by omega) (by omega)]
      refine fin _ (by simp only [List.length_set, hq]) (fun j hj c => ?_) (fun f f1 f2 => ?_)
      · rw [S _ 1 _ _ (by simp only [List.length_set, hq]) (by decide) (by decide) hj, S0 _ _ hj, if_neg (by omega), if_neg (by omega)]
      · rw [own4 K, if_neg (show ¬ (f = 2 ∧ (obt st i).Kind = 5) by omega), S _ 1 _ _ (by simp only [List.length_set, hq]) (by decide) (by decide) (by omega), S0 _ _ (by omega)]
        rcases (by omega : f = 0 ∨ f = 1 ∨ f = 2 ∨ f = 3 ∨ f = 4 ∨ f = 5 ∨ f = 6 ∨ f = 7) with rfl | rfl | rfl | rfl | rfl | rfl | rfl | rfl
        all_goals simp [-List.getD_eq_getElem?_getD, eqa, eqb, eqc, hz 2 (by decide) (by decide) (by omega), z1, z3, z4, z5, z6, z7]
    · simp only [K, show ((5 : Int) == 1) = false from rfl, show ((5 : Int) == 2) = false from rfl, show ((5 : Int) == 3) = false from rfl, show ((5 : Int) == 4) = false from rfl, show ((5 : Int) == 5) = true from rfl, show ((5 : Int) == 6) = false from rfl, show ((5 : Int) == 7) = false from rfl, show ((5 : Int) == 8) = false from rfl, cond_false, cond_true, Option.bind_some]
      rw [A _ 1 (by simp only [List.length_set, hq]) (by decide) (by decide), Option.bind_some, A _ 2 (by simp only [List.length_set, hq]) (by decide) (by decide), Option.bind_some, Option.bind_some, A _ 3 (by simp only [List.length_set, hq]) (by decide) (by decide), Option.bind_some, A _ 4 (by simp only [List.length_set, hq]) (by decide) (by decide), Option.bind_some, A _ 5 (by simp only [List.length_set, hq]) (by decide) (by decide), Option.bind_some, A _ 6 (by simp only [List.length_set, hq]) (by decide) (by decide), Option.bind_some, word_ok w14, Option.bind_some, A _ 7 (by simp only [List.length_set, hq]) (by decide) (by decide), Option.bind_some]
      rw [wu64_id (x := (obt st i).State) (by omega) (by omega), wu64_id (x := (obt st i).Word) (by omega) (by omega), wu64_id (x := (obt st i).Badge) (by omega) (by omega), w64_id (x := (obt st i).Owing + 1) (by omega) (by omega), wu64_id (x := (obt st i).Owing + 1) (by omega) (by omega), w64_id (x := (obt st i).Owes + 1) (by omega) (by omega), wu64_id (x := (obt st i).Owes + 1) (by omega) (by omega), w64_id (x := (obt st i).On + 1) (by omega) (by omega), w64_id (x := 256 * ((obt st i).On + 1)) (by omega) (by omega), w64_id (x := (obt st i).Prio + 256 * ((obt st i).On + 1)) (by omega) (by omega), wu64_id (x := (obt st i).Prio + 256 * ((obt st i).On + 1)) (by omega) (by omega)]
      rw [S _ 1 _ _ (by simp only [List.length_set, hq]) (by decide) (by decide) (by omega), S0 _ _ (by omega), if_neg (by omega), if_neg (by omega), wu64_id (x := q.getD (480 + 8 * i + 2).toNat 0 + ((obt st i).Owing + 1)) (by omega) (by omega)]
      refine fin _ (by simp only [List.length_set, hq]) (fun j hj c => ?_) (fun f f1 f2 => ?_)
      · rw [S _ 7 _ _ (by simp only [List.length_set, hq]) (by decide) (by decide) hj, S _ 6 _ _ (by simp only [List.length_set, hq]) (by decide) (by decide) hj, S _ 5 _ _ (by simp only [List.length_set, hq]) (by decide) (by decide) hj, S _ 4 _ _ (by simp only [List.length_set, hq]) (by decide) (by decide) hj, S _ 3 _ _ (by simp only [List.length_set, hq]) (by decide) (by decide) hj, S _ 2 _ _ (by simp only [List.length_set, hq]) (by decide) (by decide) hj, S _ 1 _ _ (by simp only [List.length_set, hq]) (by decide) (by decide) hj, S0 _ _ hj, if_neg (by omega), if_neg (by omega), if_neg (by omega), if_neg (by omega), if_neg (by omega), if_neg (by omega), if_neg (by omega), if_neg (by omega)]
      · rw [own5 K, S _ 7 _ _ (by simp only [List.length_set, hq]) (by decide) (by decide) (by omega), S _ 6 _ _ (by simp only [List.length_set, hq]) (by decide) (by decide) (by omega), S _ 5 _ _ (by simp only [List.length_set, hq]) (by decide) (by decide) (by omega), S _ 4 _ _ (by simp only [List.length_set, hq]) (by decide) (by decide) (by omega), S _ 3 _ _ (by simp only [List.length_set, hq]) (by decide) (by decide) (by omega), S _ 2 _ _ (by simp only [List.length_set, hq]) (by decide) (by decide) (by omega), S _ 1 _ _ (by simp only [List.length_set, hq]) (by decide) (by decide) (by omega), S0 _ _ (by omega)]
        rcases (by omega : f = 0 ∨ f = 1 ∨ f = 2 ∨ f = 3 ∨ f = 4 ∨ f = 5 ∨ f = 6 ∨ f = 7) with rfl | rfl | rfl | rfl | rfl | rfl | rfl | rfl
        all_goals simp [-List.getD_eq_getElem?_getD, eqa, eqb, eqc, K, z1, z3, z4, z5, z6, z7]
        omega
    · simp only [K, show ((6 : Int) == 1) = false from rfl, show ((6 : Int) == 2) = false from rfl, show ((6 : Int) == 3) = false from rfl, show ((6 : Int) == 4) = false from rfl, show ((6 : Int) == 5) = false from rfl, show ((6 : Int) == 6) = true from rfl, show ((6 : Int) == 7) = false from rfl, show ((6 : Int) == 8) = false from rfl, cond_false, cond_true, Option.bind_some]
      rw [A _ 1 (by simp only [List.length_set, hq]) (by decide) (by decide), Option.bind_some, A _ 2 (by simp only [List.length_set, hq]) (by decide) (by decide), Option.bind_some]
      rw [w64_id (x := (obt st i).In + 1) (by omega) (by omega), wu64_id (x := (obt st i).In + 1) (by omega) (by omega), wu64_id (x := (obt st i).Page) (by omega) (by omega)]
      refine fin _ (by simp only [List.length_set, hq]) (fun j hj c => ?_) (fun f f1 f2 => ?_)
      · rw [S _ 2 _ _ (by simp only [List.length_set, hq]) (by decide) (by decide) hj, S _ 1 _ _ (by simp only [List.length_set, hq]) (by decide) (by decide) hj, S0 _ _ hj, if_neg (by omega), if_neg (by omega), if_neg (by omega)]
      · rw [own6 K, if_neg (show ¬ (f = 2 ∧ (obt st i).Kind = 5) by omega), S _ 2 _ _ (by simp only [List.length_set, hq]) (by decide) (by decide) (by omega), S _ 1 _ _ (by simp only [List.length_set, hq]) (by decide) (by decide) (by omega), S0 _ _ (by omega)]
        rcases (by omega : f = 0 ∨ f = 1 ∨ f = 2 ∨ f = 3 ∨ f = 4 ∨ f = 5 ∨ f = 6 ∨ f = 7) with rfl | rfl | rfl | rfl | rfl | rfl | rfl | rfl
        all_goals simp [-List.getD_eq_getElem?_getD, eqa, eqb, eqc, hz 2 (by decide) (by decide) (by omega), z1, z3, z4, z5, z6, z7]
    · simp only [K, show ((7 : Int) == 1) = false from rfl, show ((7 : Int) == 2) = false from rfl, show ((7 : Int) == 3) = false from rfl, show ((7 : Int) == 4) = false from rfl, show ((7 : Int) == 5) = false from rfl, show ((7 : Int) == 6) = false from rfl, show ((7 : Int) == 7) = true from rfl, show ((7 : Int) == 8) = false from rfl, cond_false, cond_true, Option.bind_some]
      obtain ⟨q6, e6, l6, g6⟩ := pages_ok i (obt st i) hi (h.obj i h0 hi.2) 4 k 0 (q.set (480 + 8 * i).toNat 7) (by decide) (by decide) (by decide) (by omega) (by simpa using hq)
      rw [e6, Option.bind_some]
      simp only [Option.bind_some]
      refine fin _ l6 (fun j hj c => ?_) (fun f f1 f2 => ?_)
      · rw [g6 j hj, if_neg (by omega), S0 _ _ hj, if_neg (by omega)]
      · rw [own7 K, if_neg (show ¬ (f = 2 ∧ (obt st i).Kind = 5) by omega), g6 _ (by omega), S0 _ _ (by omega)]
        by_cases e0 : f = 0
        · subst e0; rw [if_neg (by omega), if_pos (by omega), if_pos rfl]; rfl
        · rw [if_neg e0]
          by_cases e1 : 1 ≤ f ∧ f ≤ 4
          · rw [show 480 + 8 * i + f - (480 + 8 * i + 1) = f - 1 by omega, if_pos e1]
            unfold pgw
            by_cases e2 : 0 ≤ (obt st i).Pages.nth (f - 1)
            · rw [if_pos ⟨by omega, by omega, e2⟩, if_pos e2]; omega
            · rw [if_neg (fun z => e2 z.2.2), if_neg (by omega), if_neg e2, hz f f1 f2 (by omega)]; rfl
          · rw [if_neg e1, if_neg (by omega), if_neg (by omega), hz f f1 f2 (by omega)]; rfl
    · simp only [K, show ((8 : Int) == 1) = false from rfl, show ((8 : Int) == 2) = false from rfl, show ((8 : Int) == 3) = false from rfl, show ((8 : Int) == 4) = false from rfl, show ((8 : Int) == 5) = false from rfl, show ((8 : Int) == 6) = false from rfl, show ((8 : Int) == 7) = false from rfl, show ((8 : Int) == 8) = true from rfl, cond_false, cond_true, Option.bind_some]
      rw [A _ 1 (by simp only [List.length_set, hq]) (by decide) (by decide), Option.bind_some, A _ 2 (by simp only [List.length_set, hq]) (by decide) (by decide), Option.bind_some, A _ 3 (by simp only [List.length_set, hq]) (by decide) (by decide), Option.bind_some]
      rw [w64_id (x := (obt st i).Bound + 1) (by omega) (by omega), wu64_id (x := (obt st i).Bound + 1) (by omega) (by omega), wu64_id (x := (obt st i).Badge) (by omega) (by omega), wu64_id (x := (obt st i).Mask) (by omega) (by omega)]
      refine fin _ (by simp only [List.length_set, hq]) (fun j hj c => ?_) (fun f f1 f2 => ?_)
      · rw [S _ 3 _ _ (by simp only [List.length_set, hq]) (by decide) (by decide) hj, S _ 2 _ _ (by simp only [List.length_set, hq]) (by decide) (by decide) hj, S _ 1 _ _ (by simp only [List.length_set, hq]) (by decide) (by decide) hj, S0 _ _ hj, if_neg (by omega), if_neg (by omega), if_neg (by omega), if_neg (by omega)]
      · rw [own8 K, if_neg (show ¬ (f = 2 ∧ (obt st i).Kind = 5) by omega), S _ 3 _ _ (by simp only [List.length_set, hq]) (by decide) (by decide) (by omega), S _ 2 _ _ (by simp only [List.length_set, hq]) (by decide) (by decide) (by omega), S _ 1 _ _ (by simp only [List.length_set, hq]) (by decide) (by decide) (by omega), S0 _ _ (by omega)]
        rcases (by omega : f = 0 ∨ f = 1 ∨ f = 2 ∨ f = 3 ∨ f = 4 ∨ f = 5 ∨ f = 6 ∨ f = 7) with rfl | rfl | rfl | rfl | rfl | rfl | rfl | rfl
        all_goals simp [-List.getD_eq_getElem?_getD, eqa, eqb, eqc, hz 2 (by decide) (by decide) (by omega), z1, z3, z4, z5, z6, z7]
end Go.Proofs
/-! All words of a state are what IsW says. -/
set_option linter.unusedVariables false
namespace Go.Proofs
open Go.Sl
theorem words_ok {st : ref10_State} (h : WF st) {k : Nat} (hk : 250 ≤ k) : ∃ w, ref10_State_Words.f k st = some w ∧ IsW st w := by
  unfold ref10_State_Words.f
  have hm : mk_ (0 : Int) 738 = some (List.replicate 738 0) := rfl
  have hg : ∀ j : Nat, (List.replicate 738 (0 : Int)).getD j 0 = 0 := fun j => by
    rw [List.getD]
    by_cases e : j < 738
    · rw [List.getElem?_replicate, if_pos e]; rfl
    · rw [List.getElem?_replicate, if_neg e]; rfl
  have hl : (List.replicate 738 (0 : Int)).length = 738 := List.length_replicate
  rw [hm, Option.bind_some]
  generalize List.replicate 738 (0 : Int) = z at hg hl
  obtain ⟨q1, e1, l1, i1⟩ := slots_ok h 96 k 0 z (by decide) (by decide) (by decide) (by omega) hl ⟨fun j _ => hg _, fun s f s1 s2 f1 f2 => by
    rw [hg]
    split
    · rw [if_neg (by omega)]
    · split
      · unfold sl
        have := (h.par s s1 s2).1
        rw [if_neg (by omega), if_neg (by omega), if_neg (by omega), if_neg (by omega)]
      · rfl⟩
  rw [e1, Option.bind_some]
  obtain ⟨q2, e2, l2, i2⟩ := objs_ok h q1 32 k 0 q1 (by decide) (by decide) (by decide) (by omega) l1 ⟨fun j _ _ => rfl, fun s f s1 s2 f1 f2 => by
    rw [i1.1 _ (by omega)]
    split
    · rename_i c; rw [if_neg (by omega)]
    · rw [if_neg (by omega)]⟩
  rw [e2, Option.bind_some, rd_at l2 (by decide), Option.bind_some, rd_at (by simpa using l2) (by decide), Option.bind_some, wu64_id h.ns.1 (by have := h.ns; omega), wu64_id h.no.1 (by have := h.no; omega)]
  refine ⟨_, rfl, by simpa using l2, fun i f h1 h2 h3 h4 => ?_, fun i f h1 h2 h3 h4 => ?_, ?_, ?_⟩
  · rw [set_at (by simpa using l2) _ _ _ (by decide) (by omega), set_at l2 _ _ _ (by decide) (by omega), if_neg (by omega), if_neg (by omega), i2.1 _ (by omega) (by omega), i1.2 i f h1 h2 h3 h4]
    rw [if_pos h2, if_pos (h.par i h1 h2).2]
    split <;> rfl
  · rw [set_at (by simpa using l2) _ _ _ (by decide) (by omega), set_at l2 _ _ _ (by decide) (by omega), if_neg (by omega), if_neg (by omega), i2.2 i f h1 h2 h3 h4]
    rw [if_pos h2, if_pos (h.obj i h1 h2).on.2]
    split
    · rename_i c; rw [c.1]
    · rfl
  · have := set_at (q := q2.set (736 : Int).toNat st.NS) (by simpa using l2) 737 736 st.NO (by decide) (by decide)
    rw [show (736 : Nat) = (736 : Int).toNat from rfl, this, if_neg (by decide), set_at l2 _ _ _ (by decide) (by decide), if_pos rfl]
  · have := set_at (q := q2.set (736 : Int).toNat st.NS) (by simpa using l2) 737 737 st.NO (by decide) (by decide)
    rw [show (737 : Nat) = (737 : Int).toNat from rfl, this, if_pos rfl]
theorem words_is {st : ref10_State} {v : List Int} (h : WF st) (hv : IsW st v) {k : Nat} (hk : 250 ≤ k) : ref10_State_Words.f k st = some v := by
  obtain ⟨w, e, hw⟩ := words_ok h hk
  rw [e, hv.uniq hw]
theorem capWord_rg {c : api_Cap} (h : CapMay c) : 0 ≤ capWord c ∧ capWord c ≤ 4611686018427387904 := by
  have hg := guard_lt h
  obtain ⟨h1, h2, h3, h4, h5, h6, h7, h8, h9, h10, -, -, -, h14, h15⟩ := h
  unfold capWord
  constructor <;> omega
theorem own_rg {o : ref10_Obj} (h : OW o) {f : Int} (hf : 0 ≤ f ∧ f < 8) : 0 ≤ own o f ∧ own o f ≤ 4611686018427387904 := by
  obtain ⟨w1, w2, w3, w4, w5, w6, w7, w8, w9, w10, w11, w12, w13, w14, w15, w16, w17, w18, w19, w20⟩ := h
  have hc := capWord_rg w14
  rcases (by omega : o.Kind = 0 ∨ o.Kind = 1 ∨ o.Kind = 2 ∨ o.Kind = 3 ∨ o.Kind = 4 ∨ o.Kind = 5 ∨ o.Kind = 6 ∨ o.Kind = 7 ∨ o.Kind = 8) with K | K | K | K | K | K | K | K | K
  · rw [own0 K]; split <;> decide
  · rw [own1 K]; repeat' split
    all_goals omega
  · rw [own2 K]; repeat' split
    all_goals omega
  · rw [own3 K]; repeat' split
    all_goals omega
  · rw [own4 K]; repeat' split
    all_goals omega
  · rw [own5 K]; repeat' split
    all_goals omega
  · rw [own6 K]; repeat' split
    all_goals omega
  · rw [own7 K]
    split
    · decide
    · split
      · rename_i c
        have a1 := w15 (f - 1) (by omega) (by omega)
        have a2 := w16 (f - 1) (by omega) (by omega)
        unfold pgw
        split <;> omega
      · decide
  · rw [own8 K]; repeat' split
    all_goals omega
section
variable {st : ref10_State} (h : WF st)
include h
theorem kids_rg {i : Int} (h0 : 0 ≤ i) (h1 : i < 96) : ∀ x ∈ (slt st i).Kids, 0 ≤ x ∧ x < 96 := fun x hx => by have := h.kid i h0 h1 x hx; omega
theorem queue_rg {i : Int} (h0 : 0 ≤ i) (h1 : i < 32) : ∀ x ∈ (obt st i).Queue, 0 ≤ x ∧ x < 32 := fun x hx => by have := h.que i h0 h1 x hx; omega
theorem ob_rg {i f : Int} (hi : 0 ≤ i ∧ i < 32) (hf : 0 ≤ f ∧ f < 8) : 0 ≤ ob st i f ∧ ob st i f ≤ 4611686018427387904 := by
  have hw := h.obj i hi.1 hi.2
  unfold ob
  split
  · rename_i c
    have := nextOf_rg (n := 32) (by decide) i (queue_rg h c.2.2 hw.on.2); omega
  · split
    · have := hd_rg (n := 32) (by decide) (queue_rg h hi.1 hi.2); omega
    · split
      · have := la_rg (n := 32) (by decide) (queue_rg h hi.1 hi.2); omega
      · exact own_rg hw hf
theorem sl_rg {i f : Int} (hi : 0 ≤ i ∧ i < 96) (hf : 1 ≤ f ∧ f < 5) : 0 ≤ sl st i f ∧ sl st i f ≤ 96 := by
  have hp := h.par i hi.1 hi.2
  unfold sl
  rw [if_neg (by omega)]
  split
  · omega
  · split
    · exact hd_rg (by decide) (kids_rg h hi.1 hi.2)
    · split
      · rename_i c
        split
        · exact nextOf_rg (by decide) _ (kids_rg h c hp.2)
        · exact prv_rg (by decide) _ (by decide) (by decide) (kids_rg h c hp.2)
      · decide
theorem IsW.good {v : List Int} (hv : IsW st v) : GoodU v := by
  have key : ∀ j : Nat, 0 ≤ v.getD j 0 ∧ v.getD j 0 ≤ 4611686018427387904 := fun j => by
    by_cases q : j < 480
    · have e := hv.slot (j / 5 : Nat) (j % 5 : Nat) (by omega) (by omega) (by omega) (by omega)
      rw [show (5 * ((j / 5 : Nat) : Int) + ((j % 5 : Nat) : Int)).toNat = j by omega] at e
      rw [e]
      by_cases f0 : j % 5 = 0
      · rw [f0]
        have := capWord_rg (h.cap (j / 5 : Nat) (by omega) (by omega))
        exact this
      · have := sl_rg h (i := (j / 5 : Nat)) (f := (j % 5 : Nat)) (by omega) (by omega); omega
    · by_cases q2 : j < 736
      · have e := hv.obj ((j - 480) / 8 : Nat) ((j - 480) % 8 : Nat) (by omega) (by omega) (by omega) (by omega)
        rw [show (480 + 8 * (((j - 480) / 8 : Nat) : Int) + (((j - 480) % 8 : Nat) : Int)).toNat = j by omega] at e
        rw [e]; exact ob_rg h (by omega) (by omega)
      · by_cases q3 : j < 738
        · have : j = 736 ∨ j = 737 := by omega
          have h1 := h.ns
          have h2 := h.no
          rcases this with rfl | rfl
          · rw [hv.ns]; omega
          · rw [hv.no]; omega
        · have := hv.len
          rw [List.getD, List.getElem?_eq_none (by omega)]; decide
  exact ⟨⟨hv.len, fun j => (key j).1⟩, fun j => by have := key j; omega⟩
theorem IsW.fv {v : List Int} (hv : IsW st v) {i f : Int} (hi : 0 ≤ i ∧ i < 32) (hf : 0 ≤ f ∧ f < 8) : fld v i f = ob st i f := by
  unfold fld
  rw [if_pos ⟨hi.1, hi.2, hf.1, hf.2⟩, hv.obj i f hi.1 hi.2 hf.1 hf.2, numb_id (ob_rg h hi hf).2]
end
end Go.Proofs
/-! Words that fields tell as they are. -/
set_option linter.unusedVariables false
namespace Go.Proofs
open Go.Sl
def Sm (s : List Int) : Prop := ∀ j, s.getD j 0 ≤ 4611686018427387904
theorem sm_put {s : List Int} (h : Sm s) {i f n : Int} (hn : n ≤ 4611686018427387904) : Sm (put s i f n) := by
  intro j; unfold put; split
  · rw [getD_set]; split
    · exact hn
    · exact h j
  · exact h j
theorem raw_fld {s : List Int} (h : Sm s) {i f : Int} (hi : InObj i f) : s.getD (480 + 8 * i + f).toNat 0 = fld s i f := by
  unfold fld; rw [if_pos hi, numb_id (h _)]
theorem raw_at {s : List Int} (g : Good s) (h : Sm s) {i f : Int} (hi : InObj i f) : at_ s (480 + 8 * i + f) = some (fld s i f) := by
  have hi' := hi
  unfold InObj at hi'
  have hlt : (480 + 8 * i + f).toNat < s.length := by rw [g.1]; omega
  have hr := raw_fld h hi
  unfold at_
  rw [decide_eq_true (by omega), cond_true, List.getElem?_eq_getElem hlt]
  rw [List.getD, List.getElem?_eq_getElem hlt] at hr
  simpa using hr
def smB (s : List Int) : Bool := s.all fun x => decide (x ≤ 4611686018427387904)
theorem sm_of {s : List Int} (h : smB s = true) : Sm s := by
  simp only [smB, List.all_eq_true, decide_eq_true_eq] at h
  intro j
  rw [List.getD]
  cases e : s[j]? with
  | none => simp
  | some x => simpa using h x (List.mem_of_getElem? e)
end Go.Proofs
/-! Objects of a state that are changed, and their words. -/
set_option linter.unusedVariables false
namespace Go.Proofs
open Go.Sl
def upd (st : ref10_State) (a : Int) (x : ref10_Obj) : ref10_State := { st with Objs := st.Objs.set a.toNat x }
theorem getD_setD {α : Type} [Inhabited α] (l : List α) (a b : Nat) (v : α) : (l.set a v).getD b default = if a = b ∧ b < l.length then v else l.getD b default := by
  simp only [List.getD]
  by_cases e : a = b
  · subst e
    by_cases h : a < l.length
    · rw [List.getElem?_set_self h]; simp [h]
    · rw [List.getElem?_eq_none (by simpa using h), List.getElem?_eq_none (by omega)]; simp [h]
  · rw [List.getElem?_set_ne e]; simp [e]
theorem obt_upd {st : ref10_State} (hl : st.Objs.length = 32) {a i : Int} (ha : 0 ≤ a ∧ a < 32) (hi : 0 ≤ i) (x : ref10_Obj) : obt (upd st a x) i = if i = a then x else obt st i := by
  unfold obt upd
  simp only []
  rw [getD_setD]
  by_cases e : i = a
  · rw [if_pos (by omega), if_pos e]
  · rw [if_neg (by omega), if_neg e]
theorem obt_up2 {st : ref10_State} (hl : st.Objs.length = 32) {a i : Int} (ha : 0 ≤ a ∧ a < 32) (hi : 0 ≤ i) (x : ref10_Obj) : (st.Objs.set a.toNat x).getD i.toNat default = if i = a then x else obt st i := obt_upd hl ha hi x
theorem slt_upd (st : ref10_State) (a i : Int) (x : ref10_Obj) : slt (upd st a x) i = slt st i := rfl
theorem upd_len (st : ref10_State) (a : Int) (x : ref10_Obj) : (upd st a x).Objs.length = st.Objs.length := by simp [upd]
theorem upd_upd (st : ref10_State) (a : Int) (x y : ref10_Obj) : upd (upd st a x) a y = upd st a y := by unfold upd; simp
/-- An object changes, but not what it is, nor what waits. -/
theorem WF.upd {st : ref10_State} (h : WF st) {a : Int} (ha : 0 ≤ a ∧ a < 32) {x : ref10_Obj} (hx : OW x) (hk : x.Kind = (obt st a).Kind) (hq : x.Queue = (obt st a).Queue) (ho : x.On = (obt st a).On) (hw : x.Owing = (obt st a).Owing ∨ x.Kind = 5 ∧ x.On < 0 ∨ x.Kind ≠ 5) : WF (upd st a x) := by
  have O := fun i (hi : 0 ≤ i) => obt_upd h.lo ha hi x
  have e1 : ∀ i, 0 ≤ i → (obt (Go.Proofs.upd st a x) i).Kind = (obt st i).Kind := fun i hi => by rw [O i hi]; split <;> simp_all
  have e2 : ∀ i, 0 ≤ i → (obt (Go.Proofs.upd st a x) i).Queue = (obt st i).Queue := fun i hi => by rw [O i hi]; split <;> simp_all
  have e3 : ∀ i, 0 ≤ i → (obt (Go.Proofs.upd st a x) i).On = (obt st i).On := fun i hi => by rw [O i hi]; split <;> simp_all
  refine ⟨h.ls, by rw [upd_len]; exact h.lo, h.cap, h.par, h.kid, h.all, h.nodk, h.irr, fun i h0 h1 => ?_, fun i h0 h1 t ht => ?_, fun i h0 h1 hn => ?_, fun t h0 h1 k5 on => ?_, fun i h0 h1 => ?_, h.ns, h.no⟩
  · rw [O i h0]; split
    · exact hx
    · exact h.obj i h0 h1
  · rw [e2 i h0] at ht
    obtain ⟨y1, y2, y3, y4, y5⟩ := h.que i h0 h1 t ht
    refine ⟨y1, y2, by rw [e1 t y1]; exact y3, by rw [e3 t y1]; exact y4, ?_⟩
    rw [O t y1]; split
    · rename_i e; subst e
      rcases hw with z | z | z
      · rw [z]; exact y5
      · rw [ho, y4] at z; omega
      · rw [hk] at z; exact absurd y3 z
    · exact y5
  · rw [e2 i h0] at hn; rw [e1 i h0]; exact h.qk i h0 h1 hn
  · rw [e1 t h0] at k5; rw [e3 t h0] at on ⊢
    rw [e2 _ on]; exact h.onq t h0 h1 k5 on
  · rw [e2 i h0]; exact h.nodq i h0 h1
/-- An object's own words, behind a change. -/
theorem ob_upd {st : ref10_State} (h : WF st) {a : Int} (ha : 0 ≤ a ∧ a < 32) {x : ref10_Obj} (hq : x.Queue = (obt st a).Queue) {i f : Int} (hi : 0 ≤ i ∧ i < 32) : ob (upd st a x) i f = if i = a then (if f = 2 ∧ x.Kind = 5 ∧ 0 ≤ x.On then nextOf (obt st x.On).Queue a else if f = 2 ∧ (obt st a).Queue ≠ [] then hd (obt st a).Queue else if f = 3 ∧ (obt st a).Queue ≠ [] then la (obt st a).Queue else own x f) else ob st i f := by
  have O := fun i (hi : 0 ≤ i) => obt_upd h.lo ha hi x
  have e2 : ∀ i, 0 ≤ i → (obt (Go.Proofs.upd st a x) i).Queue = (obt st i).Queue := fun i hi => by rw [O i hi]; split <;> simp_all
  unfold ob
  rw [e2 i hi.1]
  by_cases e : i = a
  · subst e
    rw [if_pos rfl, O i hi.1, if_pos rfl]
    by_cases c : f = 2 ∧ x.Kind = 5 ∧ 0 ≤ x.On
    · rw [if_pos c, if_pos c, e2 _ c.2.2]
    · rw [if_neg c, if_neg c]
  · rw [if_neg e, O i hi.1, if_neg e]
    by_cases c : f = 2 ∧ (obt st i).Kind = 5 ∧ 0 ≤ (obt st i).On
    · rw [if_pos c, if_pos c, e2 _ c.2.2]
    · rw [if_neg c, if_neg c]
/-- Only words of objects differ. -/
def Low (v v' : List Int) : Prop := v'.length = 738 ∧ ∀ j : Nat, j < 480 ∨ 736 ≤ j → v'.getD j 0 = v.getD j 0
theorem Low.refl {v : List Int} (h : v.length = 738) : Low v v := ⟨h, fun _ _ => rfl⟩
theorem Low.put {v v' : List Int} (h : Low v v') (i f n : Int) : Low v (put v' i f n) := by
  refine ⟨by rw [put_len]; exact h.1, fun j hj => ?_⟩
  unfold Go.Proofs.put
  split
  · rename_i c
    have c := c.1
    unfold InObj at c
    rw [getD_set, if_neg (by omega)]; exact h.2 j hj
  · exact h.2 j hj
theorem IsW.sm {st : ref10_State} (h : WF st) {v : List Int} (hv : IsW st v) : Sm v := by
  intro j
  by_cases q : j < 480
  · have e := hv.slot (j / 5 : Nat) (j % 5 : Nat) (by omega) (by omega) (by omega) (by omega)
    rw [show (5 * ((j / 5 : Nat) : Int) + ((j % 5 : Nat) : Int)).toNat = j by omega] at e
    rw [e]
    by_cases f0 : j % 5 = 0
    · rw [f0]
      exact (capWord_rg (h.cap (j / 5 : Nat) (by omega) (by omega))).2
    · have := sl_rg h (i := (j / 5 : Nat)) (f := (j % 5 : Nat)) (by omega) (by omega); omega
  · by_cases q2 : j < 736
    · have e := hv.obj ((j - 480) / 8 : Nat) ((j - 480) % 8 : Nat) (by omega) (by omega) (by omega) (by omega)
      rw [show (480 + 8 * (((j - 480) / 8 : Nat) : Int) + (((j - 480) % 8 : Nat) : Int)).toNat = j by omega] at e
      rw [e]; exact (ob_rg h (by omega) (by omega)).2
    · by_cases q3 : j < 738
      · have : j = 736 ∨ j = 737 := by omega
        have h1 := h.ns
        have h2 := h.no
        rcases this with rfl | rfl
        · rw [hv.ns]; omega
        · rw [hv.no]; omega
      · have := hv.len
        rw [List.getD, List.getElem?_eq_none (by omega)]; decide
theorem IsW.of_fld {st st' : ref10_State} {v v' : List Int} (hv : IsW st v) (hl : Low v v') (hs : Sm v') (h1 : ∀ i f, sl st' i f = sl st i f) (h2 : st'.NS = st.NS) (h3 : st'.NO = st.NO) (hf : ∀ i f, 0 ≤ i → i < 32 → 0 ≤ f → f < 8 → fld v' i f = ob st' i f) : IsW st' v' := by
  refine ⟨hl.1, fun i f a b c d => ?_, fun i f a b c d => ?_, ?_, ?_⟩
  · rw [hl.2 _ (by omega), h1]; exact hv.slot i f a b c d
  · rw [raw_fld hs ⟨a, b, c, d⟩]; exact hf i f a b c d
  · rw [hl.2 _ (by omega), h2]; exact hv.ns
  · rw [hl.2 _ (by omega), h3]; exact hv.no
theorem at_set {α : Type} {l : List α} {i : Int} (h0 : 0 ≤ i) (h1 : i < (l.length : Int)) (v : α) (j : Int) : at_ (l.set i.toNat v) j = if j = i then some v else at_ l j := by
  unfold at_
  by_cases e : j = i
  · subst e
    rw [if_pos rfl, decide_eq_true h0, cond_true, List.getElem?_set_self (by omega)]
  · rw [if_neg e]
    by_cases q : 0 ≤ j
    · rw [decide_eq_true q, cond_true, cond_true, List.getElem?_set_ne (by omega)]
    · rw [decide_eq_false q, cond_false, cond_false]
theorem _root_.Go.Sl.A4.nth_put (a : A4) {i j : Int} (x : Int) (hi : 0 ≤ i ∧ i < 4) (hj : 0 ≤ j ∧ j < 4) : (A4.put a i x).nth j = if j = i then x else a.nth j := by
  have h1 : i = 0 ∨ i = 1 ∨ i = 2 ∨ i = 3 := by omega
  have h2 : j = 0 ∨ j = 1 ∨ j = 2 ∨ j = 3 := by omega
  rcases h1 with rfl | rfl | rfl | rfl <;> rcases h2 with rfl | rfl | rfl | rfl <;> rfl
/-- Own words, of what has no queue and is no thread. -/
theorem ob_own {st : ref10_State} (h : WF st) {i : Int} (f : Int) (hi : 0 ≤ i ∧ i < 32) (hk : (obt st i).Kind ≠ 3 ∧ (obt st i).Kind ≠ 4 ∧ (obt st i).Kind ≠ 5) : ob st i f = own (obt st i) f := by
  have hq : (obt st i).Queue = [] := by
    rcases Classical.em ((obt st i).Queue = []) with z | z
    · exact z
    · have := h.qk i hi.1 hi.2 z; omega
  unfold ob
  rw [if_neg (by omega), if_neg (fun q => q.2 hq), if_neg (fun q => q.2 hq)]
theorem ob_kind {st : ref10_State} (i : Int) : ob st i 0 = (obt st i).Kind := by
  unfold ob
  rw [if_neg (by omega), if_neg (by omega), if_neg (by omega)]; rfl
/-- What an object is, out of the words. -/
theorem IsW.kind {st : ref10_State} (h : WF st) {v : List Int} (hv : IsW st v) {i k : Int} (hk : k ≠ 0) : Go.Proofs.fld v i 0 = k ↔ 0 ≤ i ∧ i < 32 ∧ (obt st i).Kind = k := by
  by_cases hi : 0 ≤ i ∧ i < 32
  · rw [hv.fv h hi (by decide), ob_kind]
    exact ⟨fun e => ⟨hi.1, hi.2, e⟩, fun e => e.2.2⟩
  · unfold Go.Proofs.fld
    rw [if_neg (fun q => hi ⟨q.1, q.2.1⟩)]
    exact ⟨fun e => absurd e.symm hk, fun e => absurd ⟨e.1, e.2.1⟩ hi⟩
theorem at_obj {st : ref10_State} (h : WF st) {a : Int} (ha : 0 ≤ a ∧ a < 32) : at_ st.Objs a = some (obt st a) := at_getD ha.1 (by rw [h.lo]; omega)
end Go.Proofs
/-! The fields of objects, in a list of words. -/
set_option linter.unusedVariables false
namespace Go.Proofs
open Go.Sl
theorem obj_ok (a b : Int) : lay_Obj.f a b = some (if InObj a b then (480 + 8 * a + b, true) else (0, false)) := by
  unfold lay_Obj.f InObj
  simp only [lay_in.f]
  by_cases h1 : 0 ≤ a <;> by_cases h2 : a < 32 <;> by_cases h3 : 0 ≤ b <;> by_cases h4 : b < 8 <;> simp [h1, h2, h3, h4]
  rw [w64_id (x := a * 8) (by omega) (by omega), w64_id (x := 480 + a * 8) (by omega) (by omega), w64_id (by omega) (by omega)]; omega
theorem field_ok {s : List Int} (h : Good s) (i f : Int) : VM.run plainI (lay_Field.f i f) s = some (fld s i f, s) := by
  unfold lay_Field.f fld
  rw [runB, runO, obj_ok]
  by_cases hi : InObj i f
  · rw [if_pos hi, if_pos hi]
    have hi' := hi
    unfold InObj at hi'
    have hg := h.2 (480 + 8 * i + f).toNat
    simp only [Option.map_some, Option.bind_some, Bool.not_true, cond_false]
    rw [runRd _ (by rw [h.1]; omega)]
    generalize s.getD (480 + 8 * i + f).toNat 0 = x at hg
    unfold numb
    by_cases hb : 4611686018427387904 < x
    · rw [decide_eq_true hb, if_pos hb]; rfl
    · rw [decide_eq_false hb, if_neg hb, w64_id (by omega) (by omega)]; rfl
  · rw [if_neg hi, if_neg hi]; rfl
theorem put_ok {s : List Int} (h : Good s) (i f n : Int) (hn : n ≤ 9223372036854775807) : VM.run plainI (lay_Put.f i f n) s = some ((), put s i f n) := by
  unfold lay_Put.f put
  rw [runB, runO, obj_ok]
  by_cases hi : InObj i f
  · rw [if_pos hi]
    have hi' := hi
    unfold InObj at hi'
    by_cases h0 : 0 ≤ n
    · simp only [Option.map_some, Option.bind_some, decide_eq_true h0, Bool.and_true, cond_true]
      rw [runWr _ (by rw [h.1]; omega), wu64_id h0 (by omega), if_pos ⟨hi, h0⟩]; rfl
    · simp only [Option.map_some, Option.bind_some, decide_eq_false h0, Bool.and_false, cond_false, runR]
      rw [if_neg (fun e => h0 e.2)]
  · rw [if_neg hi, if_neg (fun e => hi e.1)]; rfl
end Go.Proofs
/-! References in fields. -/
set_option linter.unusedVariables false
namespace Go.Proofs
open Go.Sl
theorem ref_ok {s : List Int} (h : Good s) (i f : Int) : VM.run plainI (lay_Ref.f i f) s = some (if 1 ≤ fld s i f ∧ fld s i f ≤ 32 then (fld s i f - 1, true) else (0, false), s) := by
  unfold lay_Ref.f
  rw [runB, field_ok h]
  have h0 := fld_nn h i f
  have h1 := fld_le s i f
  simp only [Option.bind_some]
  by_cases q : 1 ≤ fld s i f ∧ fld s i f ≤ 32
  · have : (decide (fld s i f < 1) || decide (32 < fld s i f)) = false := by simp; omega
    rw [this, if_pos q, cond_false, w64_id (by omega) (by omega)]; rfl
  · have : (decide (fld s i f < 1) || decide (32 < fld s i f)) = true := by simp; omega
    rw [this, if_neg q, cond_true]; rfl
end Go.Proofs
/-! Queues, plainly. -/
set_option linter.unusedVariables false
namespace Go.Proofs
open Go.Sl
def nxt (s : List Int) (i : Int) : Option Int := if 1 ≤ fld s i 2 ∧ fld s i 2 ≤ 32 then some (fld s i 2 - 1) else none
def chain (s : List Int) : Nat → Option Int → List Int
  | 0, _ => []
  | _ + 1, none => []
  | n + 1, some t => t :: chain s n (nxt s t)
def qlist (s : List Int) (obj : Int) : List Int := chain s 32 (nxt s obj)
theorem nxt_rg {s : List Int} {i t : Int} (h : nxt s i = some t) : 0 ≤ t ∧ t < 32 := by
  unfold nxt at h; split at h
  · injection h with h; omega
  · cases h
theorem chain_rg {s : List Int} : ∀ (n : Nat) (o : Option Int), (∀ t, o = some t → 0 ≤ t ∧ t < 32) → ∀ x ∈ chain s n o, 0 ≤ x ∧ x < 32
  | 0, _, _, x, h => by simp [chain] at h
  | n + 1, none, _, x, h => by simp [chain] at h
  | n + 1, some t, ho, x, h => by
    simp only [chain, List.mem_cons] at h
    rcases h with rfl | h
    · exact ho _ rfl
    · exact chain_rg n _ (fun t e => nxt_rg e) x h
theorem chain_len (s : List Int) : ∀ (n : Nat) (o : Option Int), (chain s n o).length ≤ n
  | 0, _ => by simp [chain]
  | n + 1, none => by simp [chain]
  | n + 1, some t => by simp only [chain, List.length_cons]; have := chain_len s n (nxt s t); omega
theorem qlist_rg {s : List Int} {obj : Int} : ∀ x ∈ qlist s obj, 0 ≤ x ∧ x < 32 := chain_rg 32 _ fun t e => nxt_rg e
theorem ref2 {s : List Int} (g : Good s) (i : Int) : ∃ t b, VM.run plainI (lay_Ref.f i 2) s = some ((t, b), s) ∧ (if b then some t else none) = nxt s i ∧ (b = false → t = 0) := by
  rw [ref_ok g]
  unfold nxt
  by_cases q : 1 ≤ fld s i 2 ∧ fld s i 2 ≤ 32
  · rw [if_pos q, if_pos q]; exact ⟨_, _, rfl, rfl, fun e => by cases e⟩
  · rw [if_neg q, if_neg q]; exact ⟨_, _, rfl, rfl, fun _ => rfl⟩
def pushTo (s : List Int) (obj t : Int) : List Int :=
  if 1 ≤ fld (put s t 2 0) obj 3 ∧ fld (put s t 2 0) obj 3 ≤ 32 then put (put (put s t 2 0) (fld (put s t 2 0) obj 3 - 1) 2 (t + 1)) obj 3 (t + 1)
  else put (put (put s t 2 0) obj 2 (t + 1)) obj 3 (t + 1)
theorem there_ok (i : Int) : queue_there.f i = some (decide (InObj i 0)) := by
  unfold queue_there.f
  rw [obj_ok]
  by_cases h : InObj i 0 <;> simp [h]
theorem good_pushTo {s : List Int} (g : Good s) (obj t : Int) : Good (pushTo s obj t) := by
  unfold pushTo; split <;> exact good_put (good_put (good_put g _ _ _) _ _ _) _ _ _
theorem push_ok {s : List Int} (g : Good s) (obj t : Int) : VM.run plainI (queue_Push.f obj t) s = some (if InObj obj 0 ∧ InObj t 0 then (none, pushTo s obj t) else (some 2, s)) := by
  unfold queue_Push.f
  simp only [runB, runO, runC, there_ok, Option.map_some, Option.bind_some, runR]
  by_cases h1 : InObj obj 0
  · by_cases h2 : InObj t 0
    · have h2' := h2
      unfold InObj at h2'
      have g1 := good_put g t 2 0
      have ew : w64 (t + 1) = t + 1 := w64_id (by omega) (by omega)
      simp only [h1, h2, decide_true, Bool.not_true, cond_false, Option.bind_some, and_self, if_true, put_ok g t 2 0 (by decide), ref_ok g1, ew]
      unfold pushTo
      generalize fld (put s t 2 0) obj 3 = l
      by_cases q : 1 ≤ l ∧ l ≤ 32
      · have g2 := good_put g1 (l - 1) 2 (t + 1)
        simp only [if_pos q, cond_true, put_ok g1 (l - 1) 2 (t + 1) (by omega), put_ok g2 obj 3 (t + 1) (by omega), Option.bind_some]
      · have g2 := good_put g1 obj 2 (t + 1)
        simp only [if_neg q, cond_false, put_ok g1 obj 2 (t + 1) (by omega), put_ok g2 obj 3 (t + 1) (by omega), Option.bind_some]
    · simp only [h1, h2, decide_true, decide_false, Bool.not_true, Bool.not_false, cond_false, cond_true, Option.bind_some, and_false, if_false]
  · simp only [h1, decide_false, Bool.not_false, cond_true, Option.bind_some, false_and, if_false]
def popTo (s : List Int) (obj t : Int) : List Int :=
  let s1 := put s obj 2 (fld s t 2)
  if nxt s1 t = none then put (put (put s1 obj 2 0) obj 3 0) t 2 0 else put s1 t 2 0
theorem good_popTo {s : List Int} (g : Good s) (obj t : Int) : Good (popTo s obj t) := by
  unfold popTo; simp only []; split
  · exact good_put (good_put (good_put (good_put g _ _ _) _ _ _) _ _ _) _ _ _
  · exact good_put (good_put g _ _ _) _ _ _
theorem pop_ok {s : List Int} (g : Good s) (obj : Int) : VM.run plainI (queue_Pop.f obj) s = some (match nxt s obj with | none => ((0, false), s) | some t => ((t, true), popTo s obj t)) := by
  unfold queue_Pop.f
  obtain ⟨t, b, hr, hn, h0⟩ := ref2 g obj
  rw [runB, hr, Option.bind_some, ← hn]
  cases b with
  | false => rfl
  | true =>
    have hf := fld_le s t 2
    have g1 := good_put g obj 2 (fld s t 2)
    simp only [Bool.not_true, cond_false, runB, field_ok g, Option.bind_some, put_ok g obj 2 (fld s t 2) (by omega), if_true]
    obtain ⟨t', b', hr', hn', -⟩ := ref2 g1 t
    rw [hr', Option.bind_some]
    unfold popTo
    simp only [← hn']
    cases b' with
    | false =>
      have g2 := good_put g1 obj 2 0
      have g3 := good_put g2 obj 3 0
      simp only [Bool.not_false, cond_true, runB, put_ok g1 obj 2 0 (by decide), put_ok g2 obj 3 0 (by decide), put_ok g3 t 2 0 (by decide), Option.bind_some, runR]
      rfl
    | true =>
      simp only [Bool.not_true, cond_false, runB, put_ok g1 t 2 0 (by decide), Option.bind_some, runR]
      rfl
end Go.Proofs
/-! What lies in a queue. -/
set_option linter.unusedVariables false
namespace Go.Proofs
open Go.Sl
def Lnk (F : Int → Int) : List Int → Prop
  | [] => True
  | [t] => F t = 0
  | t :: u :: l => F t = u + 1 ∧ Lnk F (u :: l)
theorem Lnk.congr {F F' : Int → Int} : ∀ {l : List Int}, (∀ x ∈ l, F' x = F x) → Lnk F l → Lnk F' l
  | [], _, _ => trivial
  | [t], h, k => by show F' t = 0; rw [h t List.mem_cons_self]; exact k
  | t :: u :: l, h, k => ⟨by rw [h t List.mem_cons_self]; exact k.1, Lnk.congr (fun x hx => h x (List.mem_cons_of_mem _ hx)) k.2⟩
theorem Lnk.tail {F : Int → Int} : ∀ {t : Int} {l : List Int}, Lnk F (t :: l) → Lnk F l
  | _, [], _ => trivial
  | _, _ :: _, h => h.2
theorem Lnk.head {F : Int → Int} {t : Int} {l : List Int} (h : Lnk F (t :: l)) : F t = match l with | [] => 0 | u :: _ => u + 1 := by
  cases l with
  | nil => exact h
  | cons u l => exact h.1
theorem Lnk.head' {F : Int → Int} {t : Int} {l : List Int} (h : Lnk F (t :: l)) : F t = hd l := by
  rw [h.head]; cases l <;> rfl
theorem Lnk.snoc {F F' : Int → Int} {t : Int} : ∀ {l : List Int} {z : Int}, l.getLast? = some z → (l ++ [t]).Nodup → Lnk F l → (∀ x ∈ l, x ≠ z → F' x = F x) → F' z = t + 1 → F' t = 0 → Lnk F' (l ++ [t])
  | [], _, h, _, _, _, _, _ => by simp at h
  | [x], z, h, _, _, _, h1, h2 => by
    simp at h; subst h
    exact ⟨h1, h2⟩
  | x :: u :: l, z, h, hn, hk, hF, h1, h2 => by
    have h' : (u :: l).getLast? = some z := by simpa [List.getLast?_cons_cons] using h
    have hz : z ∈ u :: l := List.mem_of_getLast? h'
    have hx : x ≠ z := by
      intro e; subst e
      have := (List.nodup_cons.1 (show (x :: ((u :: l) ++ [t])).Nodup from hn)).1
      exact this (List.mem_append_left _ hz)
    refine ⟨by rw [hF x List.mem_cons_self hx]; exact hk.1, ?_⟩
    exact Lnk.snoc (l := u :: l) h' (List.nodup_cons.1 (show (x :: ((u :: l) ++ [t])).Nodup from hn)).2 hk.2 (fun y hy => hF y (List.mem_cons_of_mem _ hy)) h1 h2
/-- An object's queue. -/
structure IsQ (s : List Int) (o : Int) (l : List Int) : Prop where
  first : fld s o 2 = hd l
  last : fld s o 3 = la l
  lnk : Lnk (fun t => fld s t 2) l
theorem chain_of {s : List Int} : ∀ (n : Nat) (l : List Int), l.length ≤ n → (∀ x ∈ l, 0 ≤ x ∧ x < 32) → Lnk (fun t => fld s t 2) l → chain s n l.head? = l
  | 0, [], _, _, _ => rfl
  | 0, _ :: _, h, _, _ => by simp at h
  | n + 1, [], _, _, _ => rfl
  | n + 1, t :: l, h, hr, hk => by
    have e : nxt s t = l.head? := by
      have := hk.head
      unfold nxt
      cases l with
      | nil => simp only at this; rw [this]; rfl
      | cons u l =>
        simp only at this
        have := hr u (by simp)
        rw [if_pos (by omega)]
        simp only [List.head?_cons]; congr 1; omega
    simp only [List.head?_cons, chain, e]
    rw [chain_of n l (by simpa using h) (fun x hx => hr x (List.mem_cons_of_mem _ hx)) hk.tail]
theorem IsQ.nxt {s : List Int} {o : Int} {l : List Int} (h : IsQ s o l) (hr : ∀ x ∈ l, 0 ≤ x ∧ x < 32) : nxt s o = l.head? := by
  unfold Go.Proofs.nxt
  rw [h.first]
  cases l with
  | nil => rfl
  | cons t l =>
    have := hr t List.mem_cons_self
    show (if 1 ≤ t + 1 ∧ t + 1 ≤ 32 then some (t + 1 - 1) else none) = some t
    rw [if_pos (by omega)]; congr 1; omega
theorem IsQ.list {s : List Int} {o : Int} {l : List Int} (h : IsQ s o l) (hr : ∀ x ∈ l, 0 ≤ x ∧ x < 32) (hl : l.length ≤ 32) : qlist s o = l := by
  unfold qlist
  rw [h.nxt hr]
  exact chain_of 32 l hl hr h.lnk
theorem IsQ.congr {s s' : List Int} {o : Int} {l : List Int} (h : IsQ s o l) (h2 : fld s' o 2 = fld s o 2) (h3 : fld s' o 3 = fld s o 3) (hl : ∀ x ∈ l, fld s' x 2 = fld s x 2) : IsQ s' o l :=
  ⟨h2.trans h.first, h3.trans h.last, h.lnk.congr hl⟩
/-- Put elsewhere. -/
theorem IsQ.put {s : List Int} (g : Good s) {o : Int} {l : List Int} (h : IsQ s o l) {i f n : Int} (hn : n ≤ 4611686018427387904) (h1 : ¬ (i = o ∧ (f = 2 ∨ f = 3))) (h2 : ¬ (i ∈ l ∧ f = 2)) : IsQ (put s i f n) o l := by
  refine h.congr ?_ ?_ fun x hx => ?_
  · rw [fld_put g i f n o 2 hn, if_neg (by rintro ⟨rfl, rfl, _⟩; exact h1 ⟨rfl, .inl rfl⟩)]
  · rw [fld_put g i f n o 3 hn, if_neg (by rintro ⟨rfl, rfl, _⟩; exact h1 ⟨rfl, .inr rfl⟩)]
  · rw [fld_put g i f n x 2 hn, if_neg (by rintro ⟨rfl, rfl, _⟩; exact h2 ⟨hx, rfl⟩)]
theorem la_snoc (l : List Int) (t : Int) : la (l ++ [t]) = t + 1 := by simp [la]
theorem hd_snoc (l : List Int) (t : Int) (h : l ≠ []) : hd (l ++ [t]) = hd l := by cases l with | nil => exact absurd rfl h | cons a l => rfl
/-- The fields behind a push. -/
theorem fld_pushTo {s : List Int} (g : Good s) {o t : Int} {l : List Int} (h : IsQ s o l) (ho : 0 ≤ o ∧ o < 32) (ht : 0 ≤ t ∧ t < 32) (hr : ∀ x ∈ l, 0 ≤ x ∧ x < 32) (i f : Int) :
    fld (pushTo s o t) i f = if i = o ∧ f = 3 then t + 1 else if l = [] ∧ i = o ∧ f = 2 then t + 1 else if l.getLast? = some i ∧ f = 2 then t + 1 else if i = t ∧ f = 2 then 0 else fld s i f := by
  have g1 := good_put g t 2 0
  have i1 : InObj t 2 := ⟨ht.1, ht.2, by omega, by omega⟩
  have i2 : InObj o 2 := ⟨ho.1, ho.2, by omega, by omega⟩
  have i3 : InObj o 3 := ⟨ho.1, ho.2, by omega, by omega⟩
  have hla : fld (put s t 2 0) o 3 = la l := by
    rw [fld_put g t 2 0 o 3 (by omega), if_neg (by omega)]; exact h.last
  unfold pushTo
  rw [hla]
  cases hz : l.getLast? with
  | none =>
    have hl : l = [] := List.getLast?_eq_none_iff.1 hz
    have : la l = 0 := by unfold la; rw [hz]
    rw [this, if_neg (by omega)]
    rw [fld_put (good_put g1 _ _ _) o 3 (t + 1) i f (by omega), fld_put g1 o 2 (t + 1) i f (by omega), fld_put g t 2 0 i f (by omega)]
    simp only [i1, i2, i3, (by omega : 0 ≤ t + 1), true_and, and_true, hl, reduceCtorEq, false_and, if_false, Int.le_refl]
    simp only [eq_comm (a := o) (b := i), eq_comm (a := t) (b := i), eq_comm (a := (3 : Int)) (b := f), eq_comm (a := (2 : Int)) (b := f)]
  | some z =>
    have hl : l ≠ [] := by intro e; subst e; simp at hz
    have hzr := hr z (List.mem_of_getLast? hz)
    have iz : InObj z 2 := ⟨hzr.1, hzr.2, by omega, by omega⟩
    have : la l = z + 1 := by unfold la; rw [hz]
    rw [this, if_pos (by omega), show z + 1 - 1 = z by omega]
    rw [fld_put (good_put g1 _ _ _) o 3 (t + 1) i f (by omega), fld_put g1 z 2 (t + 1) i f (by omega), fld_put g t 2 0 i f (by omega)]
    simp only [i1, i3, iz, (by omega : 0 ≤ t + 1), true_and, and_true, hl, Option.some.injEq, false_and, if_false, Int.le_refl]
    simp only [eq_comm (a := o) (b := i), eq_comm (a := t) (b := i), eq_comm (a := z) (b := i), eq_comm (a := (3 : Int)) (b := f), eq_comm (a := (2 : Int)) (b := f)]
theorem IsQ.push {s : List Int} (g : Good s) {o t : Int} {l : List Int} (h : IsQ s o l) (ho : 0 ≤ o ∧ o < 32) (ht : 0 ≤ t ∧ t < 32) (hr : ∀ x ∈ l, 0 ≤ x ∧ x < 32) (hol : o ∉ l) (hto : t ≠ o) (hn : (l ++ [t]).Nodup) : IsQ (pushTo s o t) o (l ++ [t]) := by
  have F := fld_pushTo g h ho ht hr
  have htl : t ∉ l := by
    intro q
    have := List.nodup_append.1 hn
    exact this.2.2 t q t (by simp) rfl
  refine ⟨?_, ?_, ?_⟩
  · rw [F, if_neg (by omega)]
    cases l with
    | nil => rw [if_pos ⟨rfl, rfl, rfl⟩]; rfl
    | cons a l =>
      rw [if_neg (by simp), if_neg, if_neg (by omega), h.first]; rfl
      rintro ⟨q, _⟩; exact hol (List.mem_of_getLast? q)
  · rw [F, if_pos ⟨rfl, rfl⟩, la_snoc]
  · cases hz : l.getLast? with
    | none =>
      have hl : l = [] := List.getLast?_eq_none_iff.1 hz
      subst hl
      show fld (pushTo s o t) t 2 = 0
      rw [F, if_neg (by omega), if_neg (by rintro ⟨_, q, _⟩; exact hto q), if_neg (by simp), if_pos ⟨rfl, rfl⟩]
    | some z =>
      have hl : l ≠ [] := by intro e; subst e; simp at hz
      have hzl := List.mem_of_getLast? hz
      refine h.lnk.snoc hz hn (fun x hx hxz => ?_) ?_ ?_
      · show fld (pushTo s o t) x 2 = fld s x 2
        rw [F, if_neg (by omega), if_neg (fun q => hl q.1), if_neg (by rw [hz]; rintro ⟨q, _⟩; exact hxz (by injection q with q; exact q.symm)), if_neg (by rintro ⟨rfl, _⟩; exact htl hx)]
      · show fld (pushTo s o t) z 2 = t + 1
        rw [F, if_neg (by omega), if_neg (fun q => hl q.1), if_pos ⟨hz, rfl⟩]
      · show fld (pushTo s o t) t 2 = 0
        rw [F, if_neg (by omega), if_neg (fun q => hl q.1), if_neg (by rw [hz]; rintro ⟨q, _⟩; injection q with q; subst q; exact htl hzl), if_pos ⟨rfl, rfl⟩]
/-- The fields behind a pop. -/
theorem fld_popTo {s : List Int} (g : Good s) {o t : Int} {l : List Int} (h : IsQ s o (t :: l)) (ho : 0 ≤ o ∧ o < 32) (hr : ∀ x ∈ t :: l, 0 ≤ x ∧ x < 32) (hto : t ≠ o) (i f : Int) :
    fld (popTo s o t) i f = if i = o ∧ f = 2 then hd l else if l = [] ∧ i = o ∧ f = 3 then 0 else if i = t ∧ f = 2 then 0 else fld s i f := by
  have ht := hr t List.mem_cons_self
  have hft : fld s t 2 = hd l := h.lnk.head'
  have hhd : 0 ≤ hd l ∧ hd l ≤ 32 := by
    cases l with
    | nil => exact ⟨Int.le_refl _, by decide⟩
    | cons u l => have := hr u (by simp); show 0 ≤ u + 1 ∧ u + 1 ≤ 32; omega
  have g1 := good_put g o 2 (hd l)
  have i1 : InObj t 2 := ⟨ht.1, ht.2, by omega, by omega⟩
  have i2 : InObj o 2 := ⟨ho.1, ho.2, by omega, by omega⟩
  have i3 : InObj o 3 := ⟨ho.1, ho.2, by omega, by omega⟩
  have hn1 : fld (put s o 2 (hd l)) t 2 = hd l := by
    rw [fld_put g o 2 (hd l) t 2 (by omega), if_neg (by rintro ⟨q, _⟩; exact hto q.symm)]; exact hft
  unfold popTo
  simp only [hft]
  have hnx : nxt (put s o 2 (hd l)) t = l.head? := by
    unfold nxt; rw [hn1]
    cases l with
    | nil => rfl
    | cons u l =>
      have := hr u (by simp)
      show (if 1 ≤ u + 1 ∧ u + 1 ≤ 32 then some (u + 1 - 1) else none) = some u
      rw [if_pos (by omega)]; congr 1; omega
  rw [hnx]
  cases l with
  | nil =>
    rw [if_pos (show ([] : List Int).head? = none from rfl)]
    have g2 := good_put g1 o 2 0
    have g3 := good_put g2 o 3 0
    rw [fld_put g3 t 2 0 i f (by omega), fld_put g2 o 3 0 i f (by omega), fld_put g1 o 2 0 i f (by omega), fld_put g o 2 _ i f (by omega)]
    simp only [i1, i2, i3, Int.le_refl, true_and, and_true]
    show _ = if i = o ∧ f = 2 then 0 else if i = o ∧ f = 3 then 0 else if i = t ∧ f = 2 then 0 else fld s i f
    by_cases e1 : t = i ∧ 2 = f
    · rw [if_pos e1]; obtain ⟨rfl, rfl⟩ := e1; rw [if_neg (fun q => hto q.1), if_neg (by omega), if_pos ⟨rfl, rfl⟩]
    · rw [if_neg e1]
      by_cases e2 : o = i ∧ 3 = f
      · rw [if_pos e2]; obtain ⟨rfl, rfl⟩ := e2; rw [if_neg (by omega), if_pos ⟨rfl, rfl⟩]
      · rw [if_neg e2]
        by_cases e3 : o = i ∧ 2 = f
        · rw [if_pos e3]; obtain ⟨rfl, rfl⟩ := e3; rw [if_pos ⟨rfl, rfl⟩]
        · rw [if_neg e3, if_neg (show ¬ (o = i ∧ 2 = f ∧ 0 ≤ hd []) from fun q => e3 ⟨q.1, q.2.1⟩), if_neg (fun q => e3 ⟨q.1.symm, q.2.symm⟩), if_neg (fun q => e2 ⟨q.1.symm, q.2.symm⟩), if_neg (fun q => e1 ⟨q.1.symm, q.2.symm⟩)]
  | cons u l =>
    rw [if_neg (by simp), fld_put g1 t 2 0 i f (by omega), fld_put g o 2 _ i f (by omega)]
    simp only [i1, i2, Int.le_refl, true_and, and_true, reduceCtorEq, false_and, if_false]
    by_cases e1 : t = i ∧ 2 = f
    · rw [if_pos e1]; obtain ⟨rfl, rfl⟩ := e1; rw [if_neg (fun q => hto q.1), if_pos ⟨rfl, rfl⟩]
    · rw [if_neg e1, if_neg (fun q : i = t ∧ f = 2 => e1 ⟨q.1.symm, q.2.symm⟩)]
      by_cases e3 : o = i ∧ 2 = f
      · rw [if_pos ⟨e3.1, e3.2, hhd.1⟩, if_pos ⟨e3.1.symm, e3.2.symm⟩]
      · rw [if_neg (fun q => e3 ⟨q.1, q.2.1⟩), if_neg (fun q => e3 ⟨q.1.symm, q.2.symm⟩)]
theorem IsQ.pop {s : List Int} (g : Good s) {o t : Int} {l : List Int} (h : IsQ s o (t :: l)) (ho : 0 ≤ o ∧ o < 32) (hr : ∀ x ∈ t :: l, 0 ≤ x ∧ x < 32) (hol : o ∉ t :: l) (hn : (t :: l).Nodup) : IsQ (popTo s o t) o l := by
  have hto : t ≠ o := fun e => hol (by rw [e]; exact List.mem_cons_self)
  have F := fld_popTo g h ho hr hto
  refine ⟨?_, ?_, h.lnk.tail.congr fun x hx => ?_⟩
  · rw [F, if_pos ⟨rfl, rfl⟩]
  · rw [F, if_neg (by omega)]
    cases l with
    | nil => rw [if_pos ⟨rfl, rfl, rfl⟩]; rfl
    | cons u l => rw [if_neg (by simp), if_neg (by omega), h.last]; simp [la, List.getLast?_cons_cons]
  · show fld (popTo s o t) x 2 = fld s x 2
    rw [F, if_neg (by rintro ⟨rfl, _⟩; exact hol (List.mem_cons_of_mem _ hx)), if_neg (by omega), if_neg]
    rintro ⟨rfl, _⟩
    exact (List.nodup_cons.1 hn).1 hx
end Go.Proofs
/-! Queues of a state that are changed, and their words. -/
set_option linter.unusedVariables false
namespace Go.Proofs
open Go.Sl
theorem Lnk.next {F : Int → Int} : ∀ {l : List Int} {y : Int}, Lnk F l → l.Nodup → y ∈ l → F y = nextOf l y
  | [], y, _, _, h => by cases h
  | [t], y, h, _, hy => by
    rw [List.mem_singleton] at hy; subst hy
    show F y = if y = y then hd [] else nextOf [] y
    rw [if_pos rfl]; exact h
  | t :: u :: l, y, h, hn, hy => by
    have hn2 := List.nodup_cons.1 hn
    show F y = if y = t then hd (u :: l) else nextOf (u :: l) y
    by_cases e : y = t
    · rw [if_pos e, e]; exact h.1
    · rw [if_neg e]
      rcases List.mem_cons.1 hy with z | z
      · exact absurd z e
      · exact Lnk.next h.2 hn2.2 z
theorem Lnk.of_next {F : Int → Int} : ∀ {l : List Int}, l.Nodup → (∀ y ∈ l, F y = nextOf l y) → Lnk F l
  | [], _, _ => trivial
  | [t], _, h => by
    have := h t List.mem_cons_self
    show F t = 0
    rw [this]; show (if t = t then hd [] else _) = 0
    rw [if_pos rfl]; rfl
  | t :: u :: l, hn, h => by
    have hn2 := List.nodup_cons.1 hn
    refine ⟨?_, Lnk.of_next hn2.2 fun y hy => ?_⟩
    · rw [h t List.mem_cons_self]; show (if t = t then hd (u :: l) else _) = u + 1
      rw [if_pos rfl]; rfl
    · rw [h y (List.mem_cons_of_mem _ hy)]
      show (if y = t then _ else nextOf (u :: l) y) = _
      rw [if_neg (fun e => by subst e; exact hn2.1 hy)]
theorem hd_nil : hd [] = 0 := rfl
theorem la_nil : la [] = 0 := rfl
/-- The words of a queue's object. -/
theorem ob_q {st : ref10_State} {o : Int} (hk : (obt st o).Kind = 3 ∨ (obt st o).Kind = 4) (f : Int) : ob st o f = if f = 2 then hd (obt st o).Queue else if f = 3 then la (obt st o).Queue else own (obt st o) f := by
  unfold ob
  rw [if_neg (by omega)]
  by_cases h2 : f = 2
  · rw [if_pos h2]
    by_cases hq : (obt st o).Queue = []
    · rw [if_neg (fun z => z.2 hq), if_neg (fun z => z.2 hq), hq, h2]
      rcases hk with k | k
      · rw [own3 k]; rfl
      · rw [own4 k]; rfl
    · rw [if_pos ⟨h2, hq⟩]
  · rw [if_neg (fun z => h2 z.1), if_neg h2]
    by_cases h3 : f = 3
    · rw [if_pos h3]
      by_cases hq : (obt st o).Queue = []
      · rw [if_neg (fun z => z.2 hq), hq, h3]
        rcases hk with k | k
        · rw [own3 k]; rfl
        · rw [own4 k]; rfl
      · rw [if_pos ⟨h3, hq⟩]
    · rw [if_neg (fun z => h3 z.1), if_neg h3]
theorem noq {st : ref10_State} (h : WF st) {t : Int} (ht : 0 ≤ t ∧ t < 32) (hk : (obt st t).Kind ≠ 3 ∧ (obt st t).Kind ≠ 4) : (obt st t).Queue = [] := by
  rcases Classical.em ((obt st t).Queue = []) with z | z
  · exact z
  · have := h.qk t ht.1 ht.2 z; omega
/-- The words of a thread. -/
theorem ob_t {st : ref10_State} (h : WF st) {t : Int} (ht : 0 ≤ t ∧ t < 32) (hk : (obt st t).Kind = 5) (f : Int) : ob st t f = if f = 2 ∧ 0 ≤ (obt st t).On then nextOf (obt st (obt st t).On).Queue t else own (obt st t) f := by
  have hq := noq h ht (by omega)
  unfold ob
  by_cases c : f = 2 ∧ 0 ≤ (obt st t).On
  · rw [if_pos ⟨c.1, hk, c.2⟩, if_pos c]
  · rw [if_neg (fun z => c ⟨z.1, z.2.2⟩), if_neg (fun z => z.2 hq), if_neg (fun z => z.2 hq), if_neg c]
theorem IsW.isq {st : ref10_State} (h : WF st) {v : List Int} (hv : IsW st v) {o : Int} (ho : 0 ≤ o ∧ o < 32) (hk : (obt st o).Kind = 3 ∨ (obt st o).Kind = 4) : IsQ v o (obt st o).Queue := by
  refine ⟨?_, ?_, Lnk.of_next (h.nodq o ho.1 ho.2) fun y hy => ?_⟩
  · rw [hv.fv h ho (by decide), ob_q hk, if_pos rfl]
  · rw [hv.fv h ho (by decide), ob_q hk, if_neg (by decide), if_pos rfl]
  · obtain ⟨y1, y2, y3, y4, y5⟩ := h.que o ho.1 ho.2 y hy
    rw [hv.fv h ⟨y1, y2⟩ (by decide), ob_t h ⟨y1, y2⟩ y3, y4, if_pos ⟨rfl, ho.1⟩]
/-- A queue and one of its threads change. -/
structure QCh (st : ref10_State) (o t : Int) (xo xt : ref10_Obj) : Prop where
  ho : 0 ≤ o ∧ o < 32
  ht : 0 ≤ t ∧ t < 32
  ko : (obt st o).Kind = 3 ∨ (obt st o).Kind = 4
  kt : (obt st t).Kind = 5
  wo : OW xo
  wt : OW xt
  ko' : xo.Kind = (obt st o).Kind
  kt' : xt.Kind = 5
  qt : xt.Queue = []
  nd : xo.Queue.Nodup
  mem : ∀ y, y ≠ t → (y ∈ xo.Queue ↔ y ∈ (obt st o).Queue)
  mt : t ∈ xo.Queue ↔ xt.On = o
  on : xt.On = o ∨ xt.On = -1
  ow : xt.On = o → xt.Owing = -1
  was : (obt st t).On = -1 ∨ (obt st t).On = o
section
variable {st : ref10_State} {o t : Int} {xo xt : ref10_Obj} (h : WF st) (c : QCh st o t xo xt)
include h c
theorem QCh.obt (i : Int) (hi : 0 ≤ i) : obt (upd (upd st o xo) t xt) i = if i = t then xt else if i = o then xo else obt st i := by
  rw [obt_upd (by rw [upd_len]; exact h.lo) c.ht hi, obt_upd h.lo c.ho hi]
theorem QCh.kind (i : Int) (hi : 0 ≤ i) : (Go.Proofs.obt (upd (upd st o xo) t xt) i).Kind = (Go.Proofs.obt st i).Kind := by
  rw [c.obt h i hi]; split
  · rename_i e; rw [c.kt', e, c.kt]
  · split
    · rename_i e; rw [c.ko', e]
    · rfl
theorem QCh.ne : o ≠ t := fun e => by have := c.ko; rw [e, c.kt] at this; omega
theorem QCh.que (i : Int) (hi : 0 ≤ i ∧ i < 32) : (Go.Proofs.obt (upd (upd st o xo) t xt) i).Queue = if i = o then xo.Queue else (Go.Proofs.obt st i).Queue := by
  have hne := c.ne h
  rw [c.obt h i hi.1]
  by_cases e : i = t
  · subst e
    rw [if_pos rfl, if_neg (fun z => hne z.symm), c.qt, noq h hi (by rw [c.kt]; omega)]
  · rw [if_neg e]; split <;> rfl
theorem QCh.wf : WF (upd (upd st o xo) t xt) := by
  have hne := c.ne h
  have O := c.obt h
  have K := c.kind h
  have Q := c.que h
  refine ⟨h.ls, by rw [upd_len, upd_len]; exact h.lo, h.cap, h.par, h.kid, h.all, h.nodk, h.irr, fun i h0 h1 => ?_, fun i h0 h1 y hy => ?_, fun i h0 h1 hn => ?_, fun y h0 h1 k5 on => ?_, fun i h0 h1 => ?_, h.ns, h.no⟩
  · rw [O i h0]; split
    · exact c.wt
    · split
      · exact c.wo
      · exact h.obj i h0 h1
  · rw [Q i ⟨h0, h1⟩] at hy
    by_cases e : i = o
    · rw [if_pos e] at hy
      subst e
      by_cases et : y = t
      · subst et
        have := c.mt.1 hy
        refine ⟨c.ht.1, c.ht.2, by rw [K y c.ht.1]; exact c.kt, ?_, ?_⟩
        · rw [O y c.ht.1, if_pos rfl]; exact this
        · rw [O y c.ht.1, if_pos rfl]; exact c.ow this
      · obtain ⟨y1, y2, y3, y4, y5⟩ := h.que i h0 h1 y ((c.mem y et).1 hy)
        have yo : y ≠ i := fun z => by rw [z] at y3; have := c.ko; omega
        refine ⟨y1, y2, by rw [K y y1]; exact y3, ?_, ?_⟩
        · rw [O y y1, if_neg et, if_neg yo]; exact y4
        · rw [O y y1, if_neg et, if_neg yo]; exact y5
    · rw [if_neg e] at hy
      obtain ⟨y1, y2, y3, y4, y5⟩ := h.que i h0 h1 y hy
      have et : y ≠ t := fun z => by
        rw [z] at y4
        rcases c.was with w | w
        · omega
        · exact e (y4.symm.trans w)
      have yo : y ≠ o := fun z => by rw [z] at y3; have := c.ko; omega
      refine ⟨y1, y2, by rw [K y y1]; exact y3, ?_, ?_⟩
      · rw [O y y1, if_neg et, if_neg yo]; exact y4
      · rw [O y y1, if_neg et, if_neg yo]; exact y5
  · rw [K i h0]
    rw [Q i ⟨h0, h1⟩] at hn
    by_cases e : i = o
    · rw [e]; exact c.ko
    · rw [if_neg e] at hn; exact h.qk i h0 h1 hn
  · rw [K y h0] at k5
    have yo : y ≠ o := fun z => by rw [z] at k5; have := c.ko; omega
    rw [O y h0] at on ⊢
    by_cases et : y = t
    · subst et
      rw [if_pos rfl] at on ⊢
      rcases c.on with z | z
      · rw [z, Q o c.ho, if_pos rfl]; exact c.mt.2 z
      · omega
    · rw [if_neg et, if_neg yo] at on ⊢
      have hm := h.onq y h0 h1 k5 on
      have hon := (h.obj y h0 h1).on
      rw [Q _ ⟨on, hon.2⟩]
      split
      · rename_i z; rw [z] at hm; exact (c.mem y et).2 hm
      · exact hm
  · rw [Q i ⟨h0, h1⟩]; split
    · exact c.nd
    · exact h.nodq i h0 h1
/-- The words behind it. -/
theorem QCh.isw {v v' : List Int} (hv : IsW st v) (low : Low v v') (sm : Sm v') (iq : IsQ v' o xo.Queue) (hoth : ∀ i f, i ≠ o → i ≠ t → 0 ≤ i → i < 32 → 0 ≤ f → f < 8 → f ≠ 2 ∨ i ∉ xo.Queue → fld v' i f = fld v i f) (ho : ∀ f, 0 ≤ f → f < 8 → f ≠ 2 → f ≠ 3 → fld v' o f = own xo f) (ht : ∀ f, 0 ≤ f → f < 8 → f ≠ 2 ∨ xt.On = -1 → fld v' t f = own xt f) : IsW (upd (upd st o xo) t xt) v' := by
  have hne := c.ne h
  have O := c.obt h
  have K := c.kind h
  have Q := c.que h
  have h' := c.wf h
  refine hv.of_fld low sm (fun _ _ => rfl) rfl rfl fun i f i0 i1 f0 f1 => ?_
  by_cases eo : i = o
  · subst eo
    rw [ob_q (by rw [K i i0]; exact c.ko), Q i ⟨i0, i1⟩, if_pos rfl, O i i0, if_neg hne, if_pos rfl]
    by_cases e2 : f = 2
    · rw [if_pos e2, e2]; exact iq.first
    · rw [if_neg e2]
      by_cases e3 : f = 3
      · rw [if_pos e3, e3]; exact iq.last
      · rw [if_neg e3]; exact ho f f0 f1 e2 e3
  · by_cases et : i = t
    · subst et
      rw [ob_t h' ⟨i0, i1⟩ (by rw [K i i0]; exact c.kt), O i i0, if_pos rfl]
      by_cases e2 : f = 2 ∧ 0 ≤ xt.On
      · rw [if_pos e2, e2.1]
        rcases c.on with z | z
        · rw [z, Q o c.ho, if_pos rfl]
          exact iq.lnk.next c.nd (c.mt.2 z)
        · omega
      · rw [if_neg e2]
        refine ht f f0 f1 ?_
        rcases c.on with z | z
        · left; intro q; exact e2 ⟨q, by rw [z]; exact c.ho.1⟩
        · exact .inr z
    · have same : f ≠ 2 ∨ i ∉ xo.Queue → ob (upd (upd st o xo) t xt) i f = ob st i f := fun hc => by
        unfold ob
        rw [O i i0, if_neg et, if_neg eo]
        by_cases z : f = 2 ∧ (Go.Proofs.obt st i).Kind = 5 ∧ 0 ≤ (Go.Proofs.obt st i).On
        · rw [if_pos z, if_pos z]
          have hon := (h.obj i i0 i1).on
          have hm := h.onq i i0 i1 z.2.1 z.2.2
          rw [Q _ ⟨z.2.2, hon.2⟩, if_neg]
          intro q
          rw [q] at hm
          rcases hc with w | w
          · exact w z.1
          · exact w ((c.mem i et).2 hm)
        · rw [if_neg z, if_neg z]
      by_cases hc : f ≠ 2 ∨ i ∉ xo.Queue
      · rw [same hc, hoth i f eo et i0 i1 f0 f1 hc, hv.fv h ⟨i0, i1⟩ ⟨f0, f1⟩]
      · have e2 : f = 2 := by
          rcases Classical.em (f = 2) with z | z
          · exact z
          · exact absurd (.inl z) hc
        have em : i ∈ xo.Queue := by
          rcases Classical.em (i ∈ xo.Queue) with z | z
          · exact z
          · exact absurd (.inr z) hc
        obtain ⟨y1, y2, y3, y4, y5⟩ := h.que o c.ho.1 c.ho.2 i ((c.mem i et).1 em)
        rw [ob_t h' ⟨i0, i1⟩ (by rw [K i i0]; exact y3), O i i0, if_neg et, if_neg eo, y4, if_pos ⟨e2, c.ho.1⟩, Q o c.ho, if_pos rfl, e2]
        exact iq.lnk.next c.nd em
end
end Go.Proofs
/-! What an object is. -/
set_option linter.unusedVariables false
namespace Go.Proofs
open Go.Sl
theorem ris_ok {st : ref10_State} (h : WF st) (a k : Int) : ref10_State_is.f st a k = some (decide (0 ≤ a ∧ a < 32 ∧ (obt st a).Kind = k)) := by
  unfold ref10_State_is.f
  by_cases c : 0 ≤ a ∧ a < 32
  · have e : (decide (a < 0) || decide (31 < a)) = false := by simp; omega
    rw [e, cond_false, at_getD c.1 (by rw [h.lo]; omega), Option.bind_some]
    congr 1
    show (decide _ : Bool) = _
    simp [c.1, c.2]; rfl
  · have e : (decide (a < 0) || decide (31 < a)) = true := by rw [← Bool.not_eq_false]; simp; omega
    rw [e, cond_true, decide_eq_false (fun q => c ⟨q.1, q.2.1⟩)]
end Go.Proofs
/-! Threads that are blocked, and woken. -/
set_option linter.unusedVariables false
namespace Go.Proofs
open Go.Sl
theorem state_ok {s : List Int} (g : Good s) (t : Int) : VM.run plainI (endp_State.f t) s = some (fld s t 1, s) := by
  unfold endp_State.f; rw [runB, field_ok g]; rfl
def onTo (s : List Int) (t x : Int) : List Int := put s t 5 (fld s t 5 % 256 + 256 * x)
theorem on_ok {s : List Int} (g : Good s) (t x : Int) (hx : 0 ≤ x ∧ x ≤ 33) : VM.run plainI (endp_on.f t x) s = some ((), onTo s t x) := by
  unfold endp_on.f onTo
  have h0 := fld_nn g t 5
  rw [runB, field_ok g, Option.bind_some]
  simp only []
  have e1 : (fld s t 5).tmod 256 = fld s t 5 % 256 := Int.tmod_eq_emod_of_nonneg h0
  rw [e1, w64_id (x := 256 * x) (by omega) (by omega), w64_id (by omega) (by omega), runB, put_ok g t 5 _ (by omega)]; rfl
theorem good_onTo {s : List Int} (g : Good s) (t x : Int) : Good (onTo s t x) := good_put g _ _ _
theorem sm_onTo {s : List Int} (h : Sm s) {t x : Int} (hx : x ≤ 33) : Sm (onTo s t x) := sm_put h (by omega)
theorem fld_onTo {s : List Int} (g : Good s) {t x : Int} (hx : 0 ≤ x ∧ x ≤ 33) (ht : 0 ≤ t ∧ t < 32) (i f : Int) : fld (onTo s t x) i f = if i = t ∧ f = 5 then fld s t 5 % 256 + 256 * x else fld s i f := by
  unfold onTo
  have i5 : InObj t 5 := ⟨ht.1, ht.2, by omega, by omega⟩
  have h0 : 0 ≤ fld s t 5 % 256 + 256 * x := by omega
  rw [fld_put g t 5 _ i f (by omega)]
  simp only [i5, h0, true_and, and_true, eq_comm (a := t) (b := i), eq_comm (a := (5 : Int)) (b := f)]
def wakeTo (s : List Int) (t w b : Int) : List Int := onTo (put (put (put s t 1 1) t 3 w) t 4 b) t 0
theorem good_wakeTo {s : List Int} (g : Good s) (t w b : Int) : Good (wakeTo s t w b) := good_onTo (good_put (good_put (good_put g _ _ _) _ _ _) _ _ _) _ _
theorem sm_wakeTo {s : List Int} (h : Sm s) {t w b : Int} (hw : w ≤ 4611686018427387904) (hb : b ≤ 4611686018427387904) : Sm (wakeTo s t w b) := sm_onTo (sm_put (sm_put (sm_put h (by decide)) hw) hb) (by decide)
theorem wake_ok {s : List Int} (g : Good s) (t w b : Int) (hw : w ≤ 9223372036854775807) (hb : b ≤ 9223372036854775807) : VM.run plainI (endp_Wake.f t w b) s = some ((), wakeTo s t w b) := by
  unfold endp_Wake.f wakeTo
  have g1 := good_put g t 1 1
  have g2 := good_put g1 t 3 w
  have g3 := good_put g2 t 4 b
  simp only [runB, put_ok g t 1 1 (by decide), put_ok g1 t 3 w hw, put_ok g2 t 4 b hb, on_ok g3 t 0 (by decide), Option.bind_some, runR]
theorem fld_wakeTo {s : List Int} (g : Good s) {t w b : Int} (hw : 0 ≤ w ∧ w ≤ 4611686018427387904) (hb : 0 ≤ b ∧ b ≤ 4611686018427387904) (ht : 0 ≤ t ∧ t < 32) (i f : Int) :
    fld (wakeTo s t w b) i f = if i = t ∧ f = 1 then 1 else if i = t ∧ f = 3 then w else if i = t ∧ f = 4 then b else if i = t ∧ f = 5 then fld s t 5 % 256 else fld s i f := by
  unfold wakeTo
  have g1 := good_put g t 1 1
  have g2 := good_put g1 t 3 w
  have g3 := good_put g2 t 4 b
  have i1 : InObj t 1 := ⟨ht.1, ht.2, by omega, by omega⟩
  have i3 : InObj t 3 := ⟨ht.1, ht.2, by omega, by omega⟩
  have i4 : InObj t 4 := ⟨ht.1, ht.2, by omega, by omega⟩
  have F : ∀ i f, fld (put (put (put s t 1 1) t 3 w) t 4 b) i f = if i = t ∧ f = 4 then b else if i = t ∧ f = 3 then w else if i = t ∧ f = 1 then 1 else fld s i f := by
    intro i f
    rw [fld_put g2 t 4 b i f hb.2, fld_put g1 t 3 w i f hw.2, fld_put g t 1 1 i f (by decide)]
    simp only [i1, i3, i4, hw.1, hb.1, true_and, and_true, (by decide : (0 : Int) ≤ 1), eq_comm (a := t) (b := i), eq_comm (a := (1 : Int)) (b := f), eq_comm (a := (3 : Int)) (b := f), eq_comm (a := (4 : Int)) (b := f)]
  rw [fld_onTo g3 (by decide) ht, F, F]
  by_cases e : i = t
  · subst e
    by_cases f5 : f = 5
    · subst f5; simp
    · by_cases f1 : f = 1
      · subst f1; simp
      · by_cases f3 : f = 3
        · subst f3; simp
        · by_cases f4 : f = 4
          · subst f4; simp
          · simp [f1, f3, f4, f5]
  · simp [e]
def blockTo (s : List Int) (o t x : Int) : List Int := onTo (put (pushTo s o t) t 1 x) t (o + 1)
theorem good_blockTo {s : List Int} (g : Good s) (o t x : Int) : Good (blockTo s o t x) := good_onTo (good_put (good_pushTo g _ _) _ _ _) _ _
theorem sm_pushTo {s : List Int} (sm : Sm s) {o t : Int} (ht : t < 32) : Sm (pushTo s o t) := by
  unfold pushTo; split <;> exact sm_put (sm_put (sm_put sm (by decide)) (by omega)) (by omega)
theorem sm_popTo {s : List Int} (sm : Sm s) (o t : Int) : Sm (popTo s o t) := by
  have := fld_le s t 2
  unfold popTo; simp only []; split
  · exact sm_put (sm_put (sm_put (sm_put sm this) (by decide)) (by decide)) (by decide)
  · exact sm_put (sm_put sm this) (by decide)
theorem sm_blockTo {s : List Int} (h : Sm s) {o t x : Int} (ht : t < 32) (ho : o < 32) (hx : x ≤ 4611686018427387904) : Sm (blockTo s o t x) := sm_onTo (sm_put (sm_pushTo h ht) hx) (by omega)
theorem block_ok {s : List Int} (g : Good s) {o t x : Int} (ho : 0 ≤ o ∧ o < 32) (ht : 0 ≤ t ∧ t < 32) (hx : x ≤ 9223372036854775807) : VM.run plainI (endp_Block.f o t x) s = some ((), blockTo s o t x) := by
  unfold endp_Block.f blockTo
  have g1 := good_pushTo g o t
  have g2 := good_put g1 t 1 x
  rw [runB, push_ok g, if_pos ⟨⟨ho.1, ho.2, by decide⟩, ⟨ht.1, ht.2, by decide⟩⟩, Option.bind_some]
  simp only [Option.isSome_none, cond_false, runB, put_ok g1 t 1 x hx, Option.bind_some]
  rw [w64_id (by omega) (by omega), on_ok g2 t (o + 1) (by omega)]; rfl
theorem fld_blockTo {s : List Int} (g : Good s) {o t x : Int} {l : List Int} (h : IsQ s o l) (ho : 0 ≤ o ∧ o < 32) (ht : 0 ≤ t ∧ t < 32) (hx : 0 ≤ x ∧ x ≤ 4611686018427387904) (hr : ∀ x ∈ l, 0 ≤ x ∧ x < 32) (i f : Int) :
    fld (blockTo s o t x) i f = if i = t ∧ f = 1 then x else if i = t ∧ f = 5 then fld s t 5 % 256 + 256 * (o + 1) else fld (pushTo s o t) i f := by
  unfold blockTo
  have g1 := good_pushTo g o t
  have g2 := good_put g1 t 1 x
  have i1 : InObj t 1 := ⟨ht.1, ht.2, by omega, by omega⟩
  have P := fld_pushTo g h ho ht hr
  have e5 : fld (pushTo s o t) t 5 = fld s t 5 := by
    rw [P, if_neg (by omega), if_neg (by omega), if_neg (by omega), if_neg (by omega)]
  have e5' : fld (put (pushTo s o t) t 1 x) t 5 = fld s t 5 := by rw [fld_put g1 t 1 x t 5 hx.2, if_neg (by omega), e5]
  rw [fld_onTo g2 (by omega) ht, e5', fld_put g1 t 1 x i f hx.2]
  simp only [i1, hx.1, true_and, and_true, eq_comm (a := t) (b := i), eq_comm (a := (1 : Int)) (b := f)]
  by_cases e : i = t
  · subst e
    by_cases f5 : f = 5
    · subst f5; simp
    · simp [f5]
  · simp [e]
/-- Put, but not where the queue is told. -/
theorem IsQ.wake {s : List Int} (g : Good s) {o : Int} {l : List Int} (h : IsQ s o l) {t w b : Int} (hw : 0 ≤ w ∧ w ≤ 4611686018427387904) (hb : 0 ≤ b ∧ b ≤ 4611686018427387904) (ht : 0 ≤ t ∧ t < 32) (hto : t ≠ o) : IsQ (wakeTo s t w b) o l := by
  have F := fld_wakeTo g hw hb ht
  have ne : ∀ i f, (i ≠ t ∨ f = 2) → fld (wakeTo s t w b) i f = fld s i f := fun i f q => by
    rw [F, if_neg (by omega), if_neg (by omega), if_neg (by omega), if_neg (by omega)]
  exact h.congr (ne _ _ (.inr rfl)) (ne _ _ (.inl hto.symm)) fun x hx => ne _ _ (.inr rfl)
theorem IsQ.block {s : List Int} (g : Good s) {o t x : Int} {l : List Int} (h : IsQ s o l) (ho : 0 ≤ o ∧ o < 32) (ht : 0 ≤ t ∧ t < 32) (hx : 0 ≤ x ∧ x ≤ 4611686018427387904) (hr : ∀ x ∈ l, 0 ≤ x ∧ x < 32) (hol : o ∉ l) (hto : t ≠ o) (hn : (l ++ [t]).Nodup) : IsQ (blockTo s o t x) o (l ++ [t]) := by
  have F := fld_blockTo g h ho ht hx hr
  have ne : ∀ i f, (i ≠ t ∨ f = 2) → fld (blockTo s o t x) i f = fld (pushTo s o t) i f := fun i f q => by
    rw [F, if_neg (by omega), if_neg (by omega)]
  exact (h.push g ho ht hr hol hto hn).congr (ne _ _ (.inr rfl)) (ne _ _ (.inl hto.symm)) fun x hx => ne _ _ (.inr rfl)
end Go.Proofs
/-! Blocking and waking, in the state and in the words. -/
set_option linter.unusedVariables false
namespace Go.Proofs
open Go.Sl
theorem Low.onTo {v s : List Int} (h : Low v s) (t x : Int) : Low v (onTo s t x) := h.put _ _ _
theorem Low.wakeTo {v s : List Int} (h : Low v s) (t w b : Int) : Low v (wakeTo s t w b) := (((h.put _ _ _).put _ _ _).put _ _ _).onTo _ _
theorem Low.pushTo {v s : List Int} (h : Low v s) (o t : Int) : Low v (pushTo s o t) := by
  unfold Go.Proofs.pushTo; split <;> exact ((h.put _ _ _).put _ _ _).put _ _ _
theorem Low.popTo {v s : List Int} (h : Low v s) (o t : Int) : Low v (popTo s o t) := by
  unfold Go.Proofs.popTo; simp only []; split
  · exact (((h.put _ _ _).put _ _ _).put _ _ _).put _ _ _
  · exact ((h.put _ _ _).put _ _ _)
theorem Low.blockTo {v s : List Int} (h : Low v s) (o t x : Int) : Low v (blockTo s o t x) := ((h.pushTo o t).put _ _ _).onTo _ _
theorem at_ob {st : ref10_State} (hl : st.Objs.length = 32) {a : Int} (ha : 0 ≤ a ∧ a < 32) : at_ st.Objs a = some (obt st a) := at_getD ha.1 (by rw [hl]; omega)
def wokeO (o : ref10_Obj) (w b : Int) : ref10_Obj := { o with State := 1, Word := w, Badge := b, On := -1 }
theorem wake_st {st : ref10_State} (hl : st.Objs.length = 32) {t : Int} (ht : 0 ≤ t ∧ t < 32) (w b : Int) : ref10_State_Wake.f st t w b = some (upd st t (wokeO (obt st t) w b)) := by
  unfold ref10_State_Wake.f
  have lt : t < (st.Objs.length : Int) := by rw [hl]; omega
  rw [at_ob hl ht, Option.bind_some, at_set ht.1 lt, if_pos rfl, Option.bind_some, List.set_set, at_set ht.1 lt, if_pos rfl, Option.bind_some, List.set_set, at_set ht.1 lt, if_pos rfl, Option.bind_some, List.set_set]
  rfl
theorem pop_nil {st : ref10_State} (hl : st.Objs.length = 32) {o : Int} (ho : 0 ≤ o ∧ o < 32) (hq : (obt st o).Queue = []) : ref10_State_pop.f st o = some (-1, st) := by
  unfold ref10_State_pop.f
  rw [at_ob hl ho, Option.bind_some, hq]; rfl
theorem pop_cons {st : ref10_State} (hl : st.Objs.length = 32) {o t : Int} {l : List Int} (ho : 0 ≤ o ∧ o < 32) (hq : (obt st o).Queue = t :: l) (hll : l.length ≤ 1000) : ref10_State_pop.f st o = some (t, upd st o { obt st o with Queue := l }) := by
  unfold ref10_State_pop.f
  have e : (((t :: l).length : Int) == 0) = false := by simp; omega
  have e1 : at_ (t :: l) 0 = some t := rfl
  have e2 : slcF (t :: l) 1 = some l := by
    unfold slcF
    have : (decide ((0 : Int) ≤ 1) && decide ((1 : Int) ≤ ((t :: l).length : Int))) = true := by simp; omega
    rw [this]; rfl
  have e3 : app ([] : List Int) l = some l := by
    unfold app
    rw [decide_eq_true (by simp; omega)]; rfl
  simp only [at_ob hl ho, Option.bind_some, hq, e, cond_false, e1, e2, e3]
  rfl
def blockO (o : ref10_Obj) (x on : Int) : ref10_Obj := { o with State := x, On := on }
theorem block_st {st : ref10_State} (hl : st.Objs.length = 32) {o t : Int} (ho : 0 ≤ o ∧ o < 32) (ht : 0 ≤ t ∧ t < 32) (hne : o ≠ t) (hq : (obt st o).Queue.length ≤ 1000) (x : Int) : ref10_State_Block.f st o t x = some (upd (upd st o { obt st o with Queue := (obt st o).Queue ++ [t] }) t (blockO (obt st t) x o)) := by
  unfold ref10_State_Block.f
  have lo : o < (st.Objs.length : Int) := by rw [hl]; omega
  have lt : t < (st.Objs.length : Int) := by rw [hl]; omega
  have e3 : app ([] : List Int) (obt st o).Queue = some (obt st o).Queue := by
    unfold app
    rw [decide_eq_true (by simp; omega)]; rfl
  have e4 : app (obt st o).Queue [t] = some ((obt st o).Queue ++ [t]) := by
    unfold app
    rw [decide_eq_true (by simp; omega)]; rfl
  rw [at_ob hl ho, Option.bind_some, e3, Option.bind_some, e4, Option.bind_some, Option.bind_some, at_set ho.1 lo, if_neg (fun z => hne z.symm), at_ob hl ht, Option.bind_some, at_set ht.1 (by rw [List.length_set]; exact lt), if_pos rfl, Option.bind_some, List.set_set]
  rfl
section
variable {st : ref10_State} {v : List Int} (h : WF st) (hv : IsW st v)
include h hv
theorem fv_t {t : Int} (ht : 0 ≤ t ∧ t < 32) (hk : (obt st t).Kind = 5) {f : Int} (hf : 0 ≤ f ∧ f < 8) (hc : f ≠ 2 ∨ (obt st t).On = -1) : fld v t f = own (obt st t) f := by
  rw [hv.fv h ht hf, ob_t h ht hk, if_neg]
  rintro ⟨a, b⟩
  rcases hc with z | z
  · exact z a
  · omega
omit h hv in
theorem fv_o {st : ref10_State} (h : WF st) {v : List Int} (hv : IsW st v) {o : Int} (ho : 0 ≤ o ∧ o < 32) (hk : (obt st o).Kind = 3 ∨ (obt st o).Kind = 4) {f : Int} (hf : 0 ≤ f ∧ f < 8) (h2 : f ≠ 2) (h3 : f ≠ 3) : fld v o f = own (obt st o) f := by
  rw [hv.fv h ho hf, ob_q hk, if_neg h2, if_neg h3]
/-- The first one is woken: its queue's object may change its first word besides. -/
theorem popwake_pl {o t : Int} {l : List Int} (ho : 0 ≤ o ∧ o < 32) (hk : (obt st o).Kind = 3 ∨ (obt st o).Kind = 4) (hq : (obt st o).Queue = t :: l) {w b : Int} (hw : 0 ≤ w ∧ w ≤ 1000000000000) (hb : 0 ≤ b ∧ b ≤ 1000000000000) :
    QCh st o t { obt st o with Queue := l } (wokeO (obt st t) w b) ∧ IsW (upd (upd st o { obt st o with Queue := l }) t (wokeO (obt st t) w b)) (wakeTo (popTo v o t) t w b) := by
  have hm : t ∈ (obt st o).Queue := by rw [hq]; exact List.mem_cons_self
  obtain ⟨t0, t1, k5, on, owg⟩ := h.que o ho.1 ho.2 t hm
  have hnd := h.nodq o ho.1 ho.2
  rw [hq] at hnd
  have hnd2 := List.nodup_cons.1 hnd
  have wt := h.obj t t0 t1
  have c : QCh st o t { obt st o with Queue := l } (wokeO (obt st t) w b) := {
    ho := ho, ht := ⟨t0, t1⟩, ko := hk, kt := k5, wo := { h.obj o ho.1 ho.2 with }, ko' := rfl, kt' := k5, qt := noq h ⟨t0, t1⟩ (by omega), nd := hnd2.2
    wt := { wt with word := hw, badge := hb, state := by show (0 : Int) ≤ 1 ∧ (1 : Int) ≤ 6; decide, on := by show (-1 : Int) ≤ -1 ∧ (-1 : Int) < 32; decide }
    mem := fun y hy => by rw [hq]; exact ⟨List.mem_cons_of_mem _, fun z => by rcases List.mem_cons.1 z with q | q; exact absurd q hy; exact q⟩
    mt := ⟨fun z => absurd z hnd2.1, fun z => by have : (-1 : Int) = o := z; omega⟩
    on := .inr rfl
    ow := fun z => by have : (-1 : Int) = o := z; omega
    was := .inr on }
  refine ⟨c, ?_⟩
  have hne := c.ne h
  have gv := (hv.good h).1
  have iq := hv.isq h ho hk
  rw [hq] at iq
  have hr : ∀ x ∈ t :: l, 0 ≤ x ∧ x < 32 := fun x hx => by rw [← hq] at hx; exact queue_rg h ho.1 ho.2 x hx
  have hol : o ∉ t :: l := fun z => by rw [← hq] at z; have := (h.que o ho.1 ho.2 o z).2.2.1; omega
  have gp := good_popTo gv o t
  have P := fld_popTo gv iq ho hr (fun z => hne z.symm)
  have W := fld_wakeTo gp (w := w) (b := b) (t := t) (by omega) (by omega) ⟨t0, t1⟩
  refine c.isw h hv (((Low.refl hv.len).popTo o t).wakeTo t w b) (sm_wakeTo (sm_popTo (hv.sm h) _ _) (by omega) (by omega)) ((iq.pop gv ho hr hol hnd).wake gp (by omega) (by omega) ⟨t0, t1⟩ (fun z => hne z.symm)) (fun i f io it i0 i1 f0 f1 hc => ?_) (fun f f0 f1 e2 e3 => ?_) (fun f f0 f1 hc => ?_)
  · rw [W, if_neg (by omega), if_neg (by omega), if_neg (by omega), if_neg (by omega), P, if_neg (by omega), if_neg (by omega), if_neg (by omega)]
  · rw [W, if_neg (by omega), if_neg (by omega), if_neg (by omega), if_neg (by omega), P, if_neg (by omega), if_neg (by omega), if_neg (by omega), fv_o h hv ho hk ⟨f0, f1⟩ e2 e3]
    rcases hk with k | k
    · rw [own3 k, own3 (o := { obt st o with Queue := l }) k]
    · rw [own4 k, own4 (o := { obt st o with Queue := l }) k]
  · rw [W, own5 (o := wokeO (obt st t) w b) k5]
    have e5 := fv_t h hv ⟨t0, t1⟩ k5 (f := 5) (by decide) (.inl (by decide))
    rw [own5 k5] at e5
    have hp := wt.prio
    by_cases f1 : f = 1
    · subst f1; rw [if_pos ⟨rfl, rfl⟩, if_neg (by decide), if_pos rfl]; rfl
    · rw [if_neg (fun z => f1 z.2)]
      by_cases f3 : f = 3
      · subst f3; rw [if_pos ⟨rfl, rfl⟩, if_neg (by decide), if_neg (by decide), if_neg (by decide), if_pos rfl]; rfl
      · rw [if_neg (fun z => f3 z.2)]
        by_cases f4 : f = 4
        · subst f4; rw [if_pos ⟨rfl, rfl⟩, if_neg (by decide), if_neg (by decide), if_neg (by decide), if_neg (by decide), if_pos rfl]; rfl
        · rw [if_neg (fun z => f4 z.2)]
          by_cases f5 : f = 5
          · subst f5
            rw [if_pos ⟨rfl, rfl⟩, P, if_neg (by omega), if_neg (by omega), if_neg (by omega), e5]
            show ((obt st t).Prio + 256 * ((obt st t).On + 1)) % 256 = (obt st t).Prio + 256 * (-1 + 1)
            omega
          · rw [if_neg (fun z => f5 z.2), P, if_neg (fun z => hne z.1.symm), if_neg (fun z => hne z.2.1.symm)]
            by_cases f2 : f = 2
            · subst f2
              rw [if_pos ⟨rfl, rfl⟩, if_neg (by decide), if_neg (by decide), if_pos rfl]
              show 0 = (obt st t).Owing + 1
              omega
            · rw [if_neg (fun z => f2 z.2), fv_t h hv ⟨t0, t1⟩ k5 ⟨f0, by assumption⟩ (.inl f2), own5 k5]
              simp only [f1, f2, f3, f4, f5, if_false]
              rfl
/-- One is blocked. -/
theorem block_pl {o t : Int} (ho : 0 ≤ o ∧ o < 32) (hk : (obt st o).Kind = 3 ∨ (obt st o).Kind = 4) (ht : 0 ≤ t ∧ t < 32) (k5 : (obt st t).Kind = 5) (on : (obt st t).On = -1) (owg : (obt st t).Owing = -1) {x : Int} (hx : 0 ≤ x ∧ x ≤ 6) :
    QCh st o t { obt st o with Queue := (obt st o).Queue ++ [t] } (blockO (obt st t) x o) ∧ IsW (upd (upd st o { obt st o with Queue := (obt st o).Queue ++ [t] }) t (blockO (obt st t) x o)) (blockTo v o t x) := by
  obtain ⟨t0, t1⟩ := ht
  have htq : t ∉ (obt st o).Queue := fun z => by have := (h.que o ho.1 ho.2 t z).2.2.2.1; omega
  have hnd0 := h.nodq o ho.1 ho.2
  have hnd : ((obt st o).Queue ++ [t]).Nodup := by
    rw [List.nodup_append]
    refine ⟨hnd0, by simp, fun a ha b hb => ?_⟩
    rw [List.mem_singleton] at hb; subst hb
    intro e; subst e; exact htq ha
  have wt := h.obj t t0 t1
  have c : QCh st o t { obt st o with Queue := (obt st o).Queue ++ [t] } (blockO (obt st t) x o) := {
    ho := ho, ht := ⟨t0, t1⟩, ko := hk, kt := k5, wo := { h.obj o ho.1 ho.2 with }, ko' := rfl, kt' := k5, qt := noq h ⟨t0, t1⟩ (by omega), nd := hnd
    wt := { wt with state := hx, on := by show (-1 : Int) ≤ o ∧ o < 32; omega }
    mem := fun y hy => ⟨fun z => by rcases List.mem_append.1 z with q | q; exact q; exact absurd (List.mem_singleton.1 q) hy, fun z => List.mem_append_left _ z⟩
    mt := ⟨fun _ => rfl, fun _ => List.mem_append_right _ (List.mem_singleton.2 rfl)⟩
    on := .inl rfl
    ow := fun _ => owg
    was := .inl on }
  refine ⟨c, ?_⟩
  have hne := c.ne h
  have gv := (hv.good h).1
  have iq := hv.isq h ho hk
  have hr := queue_rg h ho.1 ho.2
  have hol : o ∉ (obt st o).Queue := fun z => by have := (h.que o ho.1 ho.2 o z).2.2.1; omega
  have P := fld_pushTo gv iq ho ⟨t0, t1⟩ hr
  have B := fld_blockTo gv (x := x) iq ho ⟨t0, t1⟩ (by omega) hr
  refine c.isw h hv ((Low.refl hv.len).blockTo o t x) (sm_blockTo (hv.sm h) t1 ho.2 (by omega)) (iq.block gv ho ⟨t0, t1⟩ (by omega) hr hol (fun z => hne z.symm) hnd) (fun i f io it i0 i1 f0 f1 hc => ?_) (fun f f0 f1 e2 e3 => ?_) (fun f f0 f1 hc => ?_)
  · rw [B, if_neg (by omega), if_neg (by omega), P, if_neg (by omega), if_neg (by omega), if_neg, if_neg (by omega)]
    rintro ⟨z1, z2⟩
    rcases hc with z | z
    · exact z z2
    · exact z (List.mem_append_left _ (List.mem_of_getLast? z1))
  · rw [B, if_neg (by omega), if_neg (by omega), P, if_neg (by omega), if_neg (by omega), if_neg (by omega), if_neg (by omega), fv_o h hv ho hk ⟨f0, f1⟩ e2 e3]
    rcases hk with k | k
    · rw [own3 k, own3 (o := { obt st o with Queue := (obt st o).Queue ++ [t] }) k]
    · rw [own4 k, own4 (o := { obt st o with Queue := (obt st o).Queue ++ [t] }) k]
  · have f2 : f ≠ 2 := by
      rcases hc with z | z
      · exact z
      · have : o = -1 := z; omega
    rw [B, own5 (o := blockO (obt st t) x o) k5]
    have e5 := fv_t h hv ⟨t0, t1⟩ k5 (f := 5) (by decide) (.inl (by decide))
    rw [own5 k5] at e5
    have hp := wt.prio
    by_cases e1 : f = 1
    · subst e1; rw [if_pos ⟨rfl, rfl⟩, if_neg (by decide), if_pos rfl]; rfl
    · rw [if_neg (fun z => e1 z.2)]
      by_cases f5 : f = 5
      · subst f5
        rw [if_pos ⟨rfl, rfl⟩, e5]
        show ((obt st t).Prio + 256 * ((obt st t).On + 1)) % 256 + 256 * (o + 1) = (obt st t).Prio + 256 * (o + 1)
        omega
      · rw [if_neg (fun z => f5 z.2), P, if_neg (fun z => hne z.1.symm), if_neg (fun z => f2 z.2.2), if_neg (fun z => f2 z.2), if_neg (fun z => f2 z.2), fv_t h hv ⟨t0, t1⟩ k5 ⟨f0, f1⟩ (.inl f2), own5 k5]
        simp only [e1, f2, f5, if_false]
        rfl
end
end Go.Proofs
/-! The list of a queue. -/
set_option linter.unusedVariables false
namespace Go.Proofs
open Go.Sl
theorem list_l1 {s : List Int} (g : Good s) : ∀ (n k : Nat) (acc : List Int) (t : Int) (b : Bool), acc.length + n = 32 → n < k → VM.run plainI (queue_List.l1 k (acc, t, b)) s = some (acc ++ chain s n (if b then some t else none), s) := by
  intro n
  induction n with
  | zero =>
    intro k acc t b h hk
    obtain ⟨k, rfl⟩ : ∃ q, k = q + 1 := ⟨k - 1, by omega⟩
    unfold queue_List.l1
    have : decide ((acc.length : Int) < 32) = false := decide_eq_false (by omega)
    rw [this, Bool.and_false, cond_false]; simp [chain, runR]
  | succ n ih =>
    intro k acc t b h hk
    obtain ⟨k, rfl⟩ : ∃ q, k = q + 1 := ⟨k - 1, by omega⟩
    unfold queue_List.l1
    have h1 : decide ((acc.length : Int) < 32) = true := decide_eq_true (by omega)
    rw [h1, Bool.and_true]
    cases b with
    | false => rw [cond_false]; simp [chain, runR]
    | true =>
      have ha : app acc [t] = some (acc ++ [t]) := by
        unfold app; rw [decide_eq_true (by simp; omega)]; rfl
      obtain ⟨t', b', hr, hn, -⟩ := ref2 g t
      rw [cond_true, runB, runO, ha, Option.map_some, Option.bind_some, runB, hr, Option.bind_some]
      simp only []
      rw [ih k (acc ++ [t]) t' b' (by simp; omega) (by omega), hn]
      simp [chain]
theorem list_ok {s : List Int} (g : Good s) (k : Nat) (hk : 40 ≤ k) (obj : Int) : VM.run plainI (queue_List.f k obj) s = some (qlist s obj, s) := by
  unfold queue_List.f qlist
  obtain ⟨t, b, hr, hn, -⟩ := ref2 g obj
  rw [runB, hr, Option.bind_some]
  simp only []
  rw [runB, list_l1 g 32 k [] t b (by simp) (by omega), hn]; rfl
end Go.Proofs
/-! One is removed from a queue. -/
set_option linter.unusedVariables false
namespace Go.Proofs
open Go.Sl
def idx (l : List Int) (x : Int) : Int := if x ∈ l then (l.idxOf x : Int) else -1
theorem at_drop {l : List Int} {i : Nat} (h : i < l.length) : at_ l (i : Int) = some l[i] := by
  unfold at_
  rw [decide_eq_true (by omega), cond_true, show ((i : Int)).toNat = i by omega, List.getElem?_eq_getElem h]
theorem index_l1 (l : List Int) (x : Int) (hl : l.length ≤ 1000) : ∀ (n k i : Nat), i + n = l.length → n < k → x ∉ l.take i → slices_Index_int_int.l1 l x k (i : Int) = some (if x ∈ l then Brk.ret (l.idxOf x : Int) else Brk.nx ()) := by
  intro n
  induction n with
  | zero =>
    intro k i h hk hx
    obtain ⟨k, rfl⟩ : ∃ q, k = q + 1 := ⟨k - 1, by omega⟩
    unfold slices_Index_int_int.l1
    rw [decide_eq_false (by omega), cond_false]
    rw [List.take_of_length_le (by omega)] at hx
    rw [if_neg hx]
  | succ n ih =>
    intro k i h hk hx
    obtain ⟨k, rfl⟩ : ∃ q, k = q + 1 := ⟨k - 1, by omega⟩
    have hi : i < l.length := by omega
    unfold slices_Index_int_int.l1
    rw [decide_eq_true (by omega), cond_true, at_drop hi, Option.bind_some]
    by_cases e : x = l[i]
    · have hm : x ∈ l := by rw [e]; exact List.getElem_mem hi
      have hidx : l.idxOf x = i := by
        have h1 : l = l.take i ++ l[i] :: l.drop (i + 1) := by rw [← List.drop_eq_getElem_cons hi, List.take_append_drop]
        rw [h1, List.idxOf_append, if_neg hx, ← e, List.idxOf_cons_self]; simp; omega
      have : (x == l[i]) = true := by simpa using e
      rw [this, cond_true, if_pos hm, hidx]
    · have : (x == l[i]) = false := by simpa using e
      rw [this, cond_false, w64_id (by omega) (by omega)]
      have := ih k (i + 1) (by omega) (by omega) (by
        rw [List.take_succ_eq_append_getElem hi, List.mem_append]
        rintro (q | q)
        · exact hx q
        · exact e (by simpa using q))
      rw [show ((i : Int) + 1) = ((i + 1 : Nat) : Int) by omega]; exact this
theorem index_ok (l : List Int) (x : Int) (hl : l.length ≤ 32) (k : Nat) (hk : 40 ≤ k) : slices_Index_int_int.f k l x = some (idx l x) := by
  unfold slices_Index_int_int.f idx
  have := index_l1 l x (by omega) l.length k 0 (by omega) (by omega) (by simp)
  rw [show ((0 : Nat) : Int) = 0 from rfl] at this
  rw [this, Option.bind_some]
  by_cases h : x ∈ l
  · rw [if_pos h, if_pos h]; rfl
  · rw [if_neg h, if_neg h]; rfl
theorem delete_ok (l : List Int) (i : Nat) (hi : i < l.length) : slices_Delete_int_int.f l (i : Int) ((i : Int) + 1) = some (l.eraseIdx i) := by
  unfold slices_Delete_int_int.f
  have hc : delOk l (i : Int) ((i : Int) + 1) = true := by simp [delOk]; omega
  rw [hc]
  have e0 : ((i : Int) == (i : Int) + 1) = false := by simp; omega
  simp only [chk, cond_true, Option.bind_some, e0, cond_false]
  have hz := len_delz hc
  have hN : delN l (i : Int) ((i : Int) + 1) = l.length - 1 := by unfold delN; omega
  congr 1
  rw [hN]
  rw [List.take_append_of_le_length (by rw [List.length_take, hz]; omega), List.take_take, Nat.min_self]
  unfold delz
  rw [hN, show ((i : Int)).toNat = i by omega, show ((i : Int) + 1).toNat = i + 1 by omega, List.eraseIdx_eq_take_drop_succ]
  rw [List.take_append_of_le_length (by simp; omega), List.take_of_length_le (by simp; omega)]
/-- A queue is laid anew. -/
def layQ (s : List Int) : List Int → List Int
  | [] => s
  | [t] => put s t 2 0
  | t :: u :: l => layQ (put s t 2 (u + 1)) (u :: l)
def qput (s : List Int) (obj : Int) (l : List Int) : List Int :=
  match l with
  | [] => put (put (layQ s []) obj 2 0) obj 3 0
  | t :: r => put (put (layQ s (t :: r)) obj 2 (t + 1)) obj 3 ((t :: r).getLast (by simp) + 1)
theorem good_layQ : ∀ {l s : List Int}, Good s → Good (layQ s l)
  | [], _, g => g
  | [_], _, g => good_put g _ _ _
  | _ :: u :: l, _, g => good_layQ (l := u :: l) (good_put g _ _ _)
theorem good_qput {s : List Int} (g : Good s) (obj : Int) (l : List Int) : Good (qput s obj l) := by
  cases l with
  | nil => exact good_put (good_put g _ _ _) _ _ _
  | cons t r => exact good_put (good_put (good_layQ g) _ _ _) _ _ _
theorem put_l1 (l : List Int) (hl : l.length ≤ 1000) (hr : ∀ x ∈ l, 0 ≤ x ∧ x < 32) : ∀ (n k i : Nat) (s : List Int), Good s → i + n = l.length → n < k → VM.run plainI (queue_put.l1 l k (i : Int)) s = some ((), layQ s (l.drop i)) := by
  intro n
  induction n with
  | zero =>
    intro k i s g h hk
    obtain ⟨k, rfl⟩ : ∃ q, k = q + 1 := ⟨k - 1, by omega⟩
    unfold queue_put.l1
    rw [decide_eq_false (by omega), cond_false, List.drop_of_length_le (by omega)]; rfl
  | succ n ih =>
    intro k i s g h hk
    obtain ⟨k, rfl⟩ : ∃ q, k = q + 1 := ⟨k - 1, by omega⟩
    have hi : i < l.length := by omega
    have ew : w64 ((i : Int) + 1) = ((i + 1 : Nat) : Int) := by rw [w64_id (by omega) (by omega)]; omega
    unfold queue_put.l1
    rw [decide_eq_true (by omega), cond_true, runB, runO, at_drop hi, Option.map_some, Option.bind_some, ew, List.drop_eq_getElem_cons hi]
    have r1 := hr _ (List.getElem_mem hi)
    by_cases q : i + 1 < l.length
    · have r2 := hr _ (List.getElem_mem q)
      have e2 : w64 (l[i + 1] + 1) = l[i + 1] + 1 := w64_id (by omega) (by omega)
      rw [decide_eq_true (by omega), cond_true, runB, runO, at_drop q, Option.map_some, Option.bind_some, e2, runB, put_ok g _ 2 _ (by omega), Option.bind_some, ih k (i + 1) _ (good_put g _ _ _) (by omega) (by omega), List.drop_eq_getElem_cons q]
      rfl
    · rw [decide_eq_false (by omega), cond_false, runB, put_ok g _ 2 0 (by decide), Option.bind_some, ih k (i + 1) _ (good_put g _ _ _) (by omega) (by omega), List.drop_of_length_le (by omega)]
      rfl
theorem qput_ok {s : List Int} (g : Good s) (k : Nat) (obj : Int) (l : List Int) (hl : l.length ≤ 32) (hk : 40 ≤ k) (hr : ∀ x ∈ l, 0 ≤ x ∧ x < 32) : VM.run plainI (queue_put.f k obj l) s = some ((), qput s obj l) := by
  unfold queue_put.f
  have h0 := put_l1 l (by omega) hr l.length k 0 s g (by omega) (by omega)
  rw [show ((0 : Nat) : Int) = 0 from rfl] at h0
  rw [runB, h0, Option.bind_some, List.drop_zero]
  cases l with
  | nil =>
    rw [decide_eq_false (by simp), cond_false, runB, put_ok (good_layQ g) obj 2 0 (by decide), Option.bind_some, runB, put_ok (good_put (good_layQ g) _ _ _) obj 3 0 (by decide)]; rfl
  | cons t r =>
    have hlen : (t :: r).length = r.length + 1 := rfl
    have r1 := hr t List.mem_cons_self
    have r2 := hr ((t :: r).getLast (by simp)) (List.getLast_mem _)
    have e1 : at_ (t :: r) 0 = some t := rfl
    have e2 : at_ (t :: r) (w64 (((t :: r).length : Int) - 1)) = some ((t :: r).getLast (by simp)) := by
      rw [w64_id (by omega) (by omega), show (((t :: r).length : Int) - 1) = (((t :: r).length - 1 : Nat) : Int) by omega, at_drop (by omega), List.getLast_eq_getElem]
    rw [decide_eq_true (by omega), cond_true, runB, runO, e1, Option.map_some, Option.bind_some, runB, runO, e2, Option.map_some, Option.bind_some]
    have e3 : w64 (t + 1) = t + 1 := w64_id (by omega) (by omega)
    have e4 : w64 ((t :: r).getLast (by simp) + 1) = (t :: r).getLast (by simp) + 1 := w64_id (by omega) (by omega)
    rw [e3, e4, runB, put_ok (good_layQ g) obj 2 (t + 1) (by omega), Option.bind_some, runB, put_ok (good_put (good_layQ g) _ _ _) obj 3 _ (by omega)]
    rfl
def removeTo (s : List Int) (obj t : Int) : List Int := put (qput s obj ((qlist s obj).eraseIdx ((qlist s obj).idxOf t))) t 2 0
theorem remove_ok {s : List Int} (g : Good s) (k : Nat) (obj t : Int) (hk : 40 ≤ k) : VM.run plainI (queue_Remove.f k obj t) s = some (if t ∈ qlist s obj then (true, removeTo s obj t) else (false, s)) := by
  have hlen : (qlist s obj).length ≤ 32 := chain_len s 32 _
  unfold queue_Remove.f
  rw [runB, list_ok g k hk, Option.bind_some, runB, runO, index_ok _ _ hlen k hk, Option.map_some, Option.bind_some]
  unfold idx
  by_cases h : t ∈ qlist s obj
  · rw [if_pos h, if_pos h]
    have hi : (qlist s obj).idxOf t < (qlist s obj).length := List.idxOf_lt_length_iff.2 h
    rw [decide_eq_false (by omega), cond_false, w64_id (by omega) (by omega), runB, runO, delete_ok _ _ hi, Option.map_some, Option.bind_some, runB, qput_ok g k obj _ (by rw [List.length_eraseIdx]; split <;> omega) hk (fun x hx => qlist_rg x (List.mem_of_mem_eraseIdx hx)), Option.bind_some, runB, put_ok (good_qput g _ _) t 2 0 (by decide)]
    rfl
  · rw [if_neg h, if_neg h]; rfl
theorem good_removeTo {s : List Int} (g : Good s) (obj t : Int) : Good (removeTo s obj t) := good_put (good_qput g _ _) _ _ _
end Go.Proofs
