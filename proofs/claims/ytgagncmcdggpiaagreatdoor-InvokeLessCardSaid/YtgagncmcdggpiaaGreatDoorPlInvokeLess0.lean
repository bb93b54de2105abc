/- Plain laws of what is reached, parts Pz5WIn, Pz5VB, Pz5CapW, Pz5SB, Pz5Small, Pz5SlotB, Pz5View, Pz5Cap, Pz5Guard, Pz5Ref, Pz5Queue, Pz5QList, Pz5Remove, Pz5MayR, Pz5RightsP, Pz5Cost, Pz5CapSl, Pz5Slot, Pz5Tot, Pz5Is, Pz5FineP, Pz5TotB, Pz5TotD, Pz5WInB, Pz5WInD, Pz5Drf, Pz5Drf2. On no condition. -/
import Derived.Test.YtgagncmcdggpiaaGreatDoorFnInvokeLess0
import Derived.Test.YtgagncmcdggpiaaGreatDoorFr1
import Derived.Test.YtgagncmcdggpiaaGreatDoorFnInvokeLess2
import Derived.Test.YtgagncmcdggpiaaGreatDoorFnInvokeLess1
import Derived.Test.YtgagncmcdggpiaaGreatDoorFnInvokeLess3
import Derived.Test.YtgagncmcdggpiaaGreatDoorFnInvokeLess4
set_option linter.all false
namespace Go.Proofs
open Go.Sl
def WIn (n : Nat) {α : Type} : VM α → Prop
 | .ret _ => True
 | .fail => True
 | .rd _ k => ∀ x, WIn n (k x)
 | .wr i _ k => (0 ≤ i ∧ i < (n : Int)) ∧ WIn n k
theorem WIn.bind {n : Nat} {α β : Type} {m : VM α} {g : α → VM β} (h : WIn n m) (hg : ∀ x, WIn n (g x)) : WIn n (m.bind g) := by
 induction m with
 | ret a => exact hg a
 | fail => trivial
 | rd i k ih => exact fun x => ih x (h x)
 | wr i v k ih => exact ⟨h.1, ih h.2⟩
theorem WIn.optB {n : Nat} {α β : Type} {o : Option α} {g : α → VM β} (hg : ∀ x, o = some x → WIn n (g x)) : WIn n ((VM.opt o).bind g) := by
 cases o with
 | none => trivial
 | some x => exact hg x rfl
theorem WIn.opt {n : Nat} {α : Type} (o : Option α) : WIn n (VM.opt o) := by cases o <;> trivial
theorem WIn.cond {n : Nat} {α : Type} {c : Bool} {a b : VM α} (ha : c = true → WIn n a) (hb : c = false → WIn n b) : WIn n (bif c then a else b) := by
 cases c with
 | true => exact ha rfl
 | false => exact hb rfl
theorem WIn.ret {n : Nat} {α : Type} (a : α) : WIn n (VM.ret a) := trivial
theorem WIn.fail {n : Nat} {α : Type} : WIn n (VM.fail : VM α) := trivial
theorem WIn.rd {n : Nat} {α : Type} {i : Int} {k : Int → VM α} (h : ∀ x, WIn n (k x)) : WIn n (VM.rd i k) := h
theorem WIn.wr {n : Nat} {α : Type} {i v : Int} {k : VM α} (h1 : 0 ≤ i) (h2 : i < (n : Int)) (h : WIn n k) : WIn n (VM.wr i v k) := ⟨⟨h1, h2⟩, h⟩
def InObj (i f : Int) : Prop := 0 ≤ i ∧ i < 32 ∧ 0 ≤ f ∧ f < 8
instance (i f : Int) : Decidable (InObj i f) := inferInstanceAs (Decidable (_ ∧ _))
theorem prd {s : List Int} {i : Int} (h : 0 ≤ i ∧ i < (s.length : Int)) : plainI.rd s i = (s.getD i.toNat 0, s) := by
 show ((view_Plain_Read.f s i).getD 0, s) = _
 unfold view_Plain_Read.f view_Plain_has.f
 have h2 : s[i.toNat]? = some s[i.toNat] := List.getElem?_eq_getElem (by omega)
 have h1 : (decide (0 ≤ i) && decide (i < (s.length : Int))) = true := by simp; omega
 have h3 : at_ s i = some s[i.toNat] := by unfold at_; rw [decide_eq_true h.1, cond_true, h2]
 simp only [h1, Option.bind_some, Bool.not_true, cond_false, h3, Option.getD_some, List.getD, h2]
theorem runB {α β : Type} (x : VM α) (g : α → VM β) (s : List Int) : VM.run plainI (x.bind g) s = (VM.run plainI x s).bind fun p => VM.run plainI (g p.1) p.2 := VM.run_bind plainI x g s
theorem runR {α : Type} (a : α) (s : List Int) : VM.run plainI (VM.ret a) s = some (a, s) := rfl
theorem runO {α : Type} (x : Option α) (s : List Int) : VM.run plainI (VM.opt x) s = x.map fun a => (a, s) := by cases x <;> rfl
theorem runC {α : Type} (c : Bool) (x y : VM α) (s : List Int) : VM.run plainI (bif c then x else y) s = bif c then VM.run plainI x s else VM.run plainI y s := by cases c <;> rfl
theorem runRd {α : Type} {i : Int} (g : Int → VM α) {s : List Int} (h : 0 ≤ i ∧ i < (s.length : Int)) : VM.run plainI (VM.rd i g) s = VM.run plainI (g (s.getD i.toNat 0)) s := by
 show VM.run plainI (g (plainI.rd s i).1) (plainI.rd s i).2 = _
 have e := prd h
 exact congrArg (fun p : Int × List Int => VM.run plainI (g p.1) p.2) e
def Good (s : List Int) : Prop := s.length = 738 ∧ ∀ j, 0 ≤ s.getD j 0
def goodB (s : List Int) : Bool := s.length == 738 && s.all fun x => decide (0 ≤ x)
theorem good_of {s : List Int} (h : goodB s = true) : Good s := by
 simp only [goodB, Bool.and_eq_true, beq_iff_eq, List.all_eq_true, decide_eq_true_eq] at h
 refine ⟨h.1, fun j => ?_⟩
 rw [List.getD]
 cases e : s[j]? with
 | none => simp
 | some x => simpa using h.2 x (List.mem_of_getElem? e)
def numb (w : Int) : Int := if 4611686018427387904 < w then 0 else w
def fld (s : List Int) (i f : Int) : Int := if InObj i f then numb (s.getD (480 + 8 * i + f).toNat 0) else 0
theorem getD_set (s : List Int) (a b : Nat) (v : Int) : (s.set a v).getD b 0 = if a = b ∧ b < s.length then v else s.getD b 0 := by
 simp only [List.getD]
 by_cases e : a = b
 ·subst e
  by_cases h : a < s.length
  ·rw [List.getElem?_set_self h]; simp [h]
  ·rw [List.getElem?_eq_none (by simpa using h)]
   rw [List.getElem?_eq_none (by omega)]; simp [h]
 ·rw [List.getElem?_set_ne e]; simp [e]
theorem at_some {α : Type} {l : List α} {i : Int} (h : 0 ≤ i) (h2 : i < (l.length : Int)) : ∃ x, at_ l i = some x ∧ x ∈ l := by
 have h3 : l[i.toNat]? = some (l[i.toNat]'(by omega)) := List.getElem?_eq_getElem (by omega)
 refine ⟨l[i.toNat]'(by omega), ?_, List.getElem_mem _⟩
 unfold at_; rw [decide_eq_true h, cond_true, h3]
def CapMay (c : api_Cap) : Prop := 0 ≤ c.Kind ∧ c.Kind ≤ 8 ∧ 0 ≤ c.Rights ∧ c.Rights ≤ 7 ∧ 0 ≤ c.Obj ∧ c.Obj ≤ 31 ∧ 0 ≤ c.Badge ∧ c.Badge ≤ 65535 ∧ 0 ≤ c.Bits ∧ c.Bits ≤ 8 ∧
 (c.Kind = 0 → c.Rights = 0 ∧ c.Obj = 0) ∧ (c.Kind = 3 ∨ c.Kind = 4 ∨ c.Badge = 0) ∧ (c.Kind = 2 ∨ (c.Bits = 0 ∧ c.Guard = 0)) ∧ 0 ≤ c.Guard ∧ c.Guard < 2 ^ c.Bits.toNat
instance (c : api_Cap) : Decidable (CapMay c) := by unfold CapMay; exact inferInstance
theorem pow_lo (n : Nat) : (1 : Int) ≤ 2 ^ n := by have : (0 : Int) < 2 ^ n := Int.pow_pos (by decide); omega
theorem pow_le {n m : Nat} (h : n ≤ m) : (2 : Int) ^ n ≤ 2 ^ m := by
 have := Nat.pow_le_pow_right (n := 2) (by decide) h
 exact_mod_cast this
def capWord (c : api_Cap) : Int := c.Kind + c.Rights * 2 ^ 4 + c.Obj * 2 ^ 7 + c.Badge * 2 ^ 12 + c.Bits * 2 ^ 28 + c.Guard * 2 ^ 32
theorem guard_lt {c : api_Cap} (h : CapMay c) : c.Guard < 256 := by
 obtain ⟨-, -, -, -, -, -, -, -, -, h1, -, -, -, -, h2⟩ := h
 have := pow_le (show c.Bits.toNat ≤ 8 by omega)
 omega
def capOf (w : Int) : api_Cap := ⟨w % 2 ^ 4, w / 2 ^ 4 % 2 ^ 3, w / 2 ^ 4 / 2 ^ 3 % 2 ^ 5, w / 2 ^ 4 / 2 ^ 3 / 2 ^ 5 % 2 ^ 16, w / 2 ^ 4 / 2 ^ 3 / 2 ^ 5 / 2 ^ 16 / 2 ^ 4 % 2 ^ 8, w / 2 ^ 4 / 2 ^ 3 / 2 ^ 5 / 2 ^ 16 % 2 ^ 4⟩
theorem word_capOf {c : api_Cap} (h : CapMay c) : capOf (capWord c) = c ∧ capWord c / 2 ^ 4 / 2 ^ 3 / 2 ^ 5 / 2 ^ 16 / 2 ^ 4 / 2 ^ 8 = 0 ∧ 0 ≤ capWord c ∧ capWord c ≤ 18446744073709551615 := by
 have hg := guard_lt h
 obtain ⟨h1, h2, h3, h4, h5, h6, h7, h8, h9, h10, -, -, -, h14, h15⟩ := h
 obtain ⟨K, R, O, B, G, T⟩ := c
 unfold capOf capWord
 simp only [api_Cap.mk.injEq] at *
 clear h15
 refine ⟨⟨?_, ?_, ?_, ?_, ?_, ?_⟩, ?_, ?_, ?_⟩ <;> omega
def InSlot (i f : Int) : Prop := 0 ≤ i ∧ i < 96 ∧ 0 ≤ f ∧ f < 5
instance (i f : Int) : Decidable (InSlot i f) := inferInstanceAs (Decidable (_ ∧ _))
def GoodU (s : List Int) : Prop := Good s ∧ ∀ j, s.getD j 0 ≤ 18446744073709551615
def goodUB (s : List Int) : Bool := goodB s && s.all fun x => decide (x ≤ 18446744073709551615)
theorem goodU_of {s : List Int} (h : goodUB s = true) : GoodU s := by
 simp only [goodUB, Bool.and_eq_true, List.all_eq_true, decide_eq_true_eq] at h
 refine ⟨good_of h.1, fun j => ?_⟩
 rw [List.getD]
 cases e : s[j]? with
 | none => simp
 | some x => simpa using h.2 x (List.mem_of_getElem? e)
def noCap : api_Cap := ⟨0, 0, 0, 0, 0, 0⟩
def readCap (w : Int) : api_Cap := if w / 2 ^ 4 / 2 ^ 3 / 2 ^ 5 / 2 ^ 16 / 2 ^ 4 / 2 ^ 8 = 0 ∧ CapMay (capOf w) then capOf w else noCap
def capAt (s : List Int) (i : Int) : api_Cap := if InSlot i 0 then readCap (s.getD (5 * i).toNat 0) else noCap
theorem slot_ok (a b : Int) : lay_Slot.f a b = some (if InSlot a b then (5 * a + b, true) else (0, false)) := by
 unfold lay_Slot.f InSlot
 simp only [lay_in.f]
 by_cases h1 : 0 ≤ a <;> by_cases h2 : a < 96 <;> by_cases h3 : 0 ≤ b <;> by_cases h4 : b < 5 <;> simp [h1, h2, h3, h4]
 rw [w64_id (x := a * 5) (by omega) (by omega), w64_id (by omega) (by omega)]; omega
theorem sthere_ok (i : Int) : cdt_there.f i = some (decide (InSlot i 0)) := by
 unfold cdt_there.f
 rw [slot_ok]
 by_cases h : InSlot i 0 <;> simp [h]
theorem obj_ok (a b : Int) : lay_Obj.f a b = some (if InObj a b then (480 + 8 * a + b, true) else (0, false)) := by
 unfold lay_Obj.f InObj
 simp only [lay_in.f]
 by_cases h1 : 0 ≤ a <;> by_cases h2 : a < 32 <;> by_cases h3 : 0 ≤ b <;> by_cases h4 : b < 8 <;> simp [h1, h2, h3, h4]
 rw [w64_id (x := a * 8) (by omega) (by omega), w64_id (x := 480 + a * 8) (by omega) (by omega), w64_id (by omega) (by omega)]; omega
theorem field_ok {s : List Int} (h : Good s) (i f : Int) : VM.run plainI (lay_Field.f i f) s = some (fld s i f, s) := by
 unfold lay_Field.f fld
 rw [runB, runO, obj_ok]
 by_cases hi : InObj i f
 ·rw [if_pos hi, if_pos hi]
  have hi' := hi
  unfold InObj at hi'
  have hg := h.2 (480 + 8 * i + f).toNat
  simp only [Option.map_some, Option.bind_some, Bool.not_true, cond_false]
  rw [runRd _ (by rw [h.1]; omega)]
  generalize s.getD (480 + 8 * i + f).toNat 0 = x at hg
  unfold numb
  by_cases hb : 4611686018427387904 < x
  ·rw [decide_eq_true hb, if_pos hb]; rfl
  ·rw [decide_eq_false hb, if_neg hb, w64_id (by omega) (by omega)]; rfl
 ·rw [if_neg hi, if_neg hi]; rfl
theorem cond_some {α : Type} (c : Bool) (a b : α) : (bif c then some a else some b) = some (bif c then a else b) := by cases c <;> rfl
theorem cond_or (c a b : Bool) : (bif c then a else b) = ((c && a) || (!c && b)) := by cases c <;> simp
theorem may_pack (c : api_Cap) : ∃ b, pack_May.f c = some b ∧ (b = true ↔ CapMay c) := by
 unfold pack_May.f CapMay
 simp only [pack_May_1.f, Option.bind_some]
 obtain ⟨K, R, O, B, G, T⟩ := c
 simp only
 by_cases h5 : 0 ≤ T ∧ T ≤ 8
 ·obtain ⟨n, rfl⟩ := Int.eq_ofNat_of_zero_le h5.1
  have hp := pow_lo n
  have hp2 := pow_le (show n ≤ 8 by omega)
  rw [bshl_i64 n (by omega) (by omega) (by omega), Int.one_mul]
  rw [show ((n : Int)).toNat = n by simp]
  generalize (2 : Int) ^ n = p at *
  rw [w64_id (by omega) (by omega)]
  have hc : chk (decide (0 ≤ (n : Int))) = some () := by simp [chk]
  simp only [hc, Option.bind_some, cond_some]
  refine ⟨_, rfl, ?_⟩
  simp only [Bool.cond_true_left, Bool.cond_false_left]
  simp only [cond_or]
  simp only [Bool.or_eq_true, Bool.and_eq_true, Bool.not_eq_true', decide_eq_true_eq, Bool.and_eq_false_iff, Bool.not_eq_false', decide_eq_false_iff_not, beq_iff_eq, bne_iff_ne, Bool.false_eq_true, reduceCtorEq, api_Cap.mk.injEq, Bool.or_eq_false_iff, beq_eq_false_iff_ne, bne_eq_false_iff_eq, ne_eq]
  omega
 ·refine ⟨false, ?_, ?_⟩
  ·have h6 : (decide (0 ≤ T) && decide (T ≤ 8)) = false := by simpa using h5
   by_cases hk : K = 0
   ·have : ¬ ((⟨K, R, O, B, G, T⟩ : api_Cap) = ⟨0, 0, 0, 0, 0, 0⟩) := by
     simp only [api_Cap.mk.injEq]; omega
    simp [hk] at this ⊢
    omega
   ·simp only [h6, Option.bind_some, cond_some]
    simp [hk]
  ·simp only [Bool.false_eq_true, false_iff]; omega
theorem packPut_ok {k : Nat} {c : api_Cap} (h : CapMay c) : pack_Put.f (k + 40) c = some (capWord c, none) := by
 obtain ⟨b, hb, hb2⟩ := may_pack c
 have hg := guard_lt h
 rw [hb2.2 h] at hb
 unfold pack_Put.f
 rw [hb]
 obtain ⟨h1, h2, h3, h4, h5, h6, h7, h8, h9, h10, -, -, -, h14, h15⟩ := h
 obtain ⟨K, R, O, B, G, T⟩ := c
 simp only at *
 have e0 : bor .u64 0 (bshl .u64 (wu64 K) 0) = K := by
  rw [wu64_id (by omega) (by omega), show (0 : Int) = ((0 : Nat) : Int) from rfl, bshl_u64 0 (by omega) (by omega) (by omega)]
  rw [show ((0 : Nat) : Int) = 0 from rfl]
  rw [bor_add_u64 0 (by omega) (by omega) (by omega) (by omega) (by omega)]
  omega
 have e1 : bor .u64 K (bshl .u64 (wu64 R) 4) = K + R * 2 ^ 4 := by
  rw [wu64_id (by omega) (by omega), show (4 : Int) = ((4 : Nat) : Int) from rfl, bshl_u64 4 (by omega) (by omega) (by omega), bor_add_u64 4 (by omega) (by omega) (by omega) (by omega) (by omega)]
 have e2 : bor .u64 (K + R * 2 ^ 4) (bshl .u64 (wu64 O) 7) = K + R * 2 ^ 4 + O * 2 ^ 7 := by
  rw [wu64_id (by omega) (by omega), show (7 : Int) = ((7 : Nat) : Int) from rfl, bshl_u64 7 (by omega) (by omega) (by omega), bor_add_u64 7 (by omega) (by omega) (by omega) (by omega) (by omega)]
 have e3 : bor .u64 (K + R * 2 ^ 4 + O * 2 ^ 7) (bshl .u64 (wu64 B) 12) = K + R * 2 ^ 4 + O * 2 ^ 7 + B * 2 ^ 12 := by
  rw [wu64_id (by omega) (by omega), show (12 : Int) = ((12 : Nat) : Int) from rfl, bshl_u64 12 (by omega) (by omega) (by omega), bor_add_u64 12 (by omega) (by omega) (by omega) (by omega) (by omega)]
 have e4 : bor .u64 (K + R * 2 ^ 4 + O * 2 ^ 7 + B * 2 ^ 12) (bshl .u64 (wu64 T) 28) = K + R * 2 ^ 4 + O * 2 ^ 7 + B * 2 ^ 12 + T * 2 ^ 28 := by
  rw [wu64_id (by omega) (by omega), show (28 : Int) = ((28 : Nat) : Int) from rfl, bshl_u64 28 (by omega) (by omega) (by omega), bor_add_u64 28 (by omega) (by omega) (by omega) (by omega) (by omega)]
 have e5 : bor .u64 (K + R * 2 ^ 4 + O * 2 ^ 7 + B * 2 ^ 12 + T * 2 ^ 28) (bshl .u64 (wu64 G) 32) = K + R * 2 ^ 4 + O * 2 ^ 7 + B * 2 ^ 12 + T * 2 ^ 28 + G * 2 ^ 32 := by
  rw [wu64_id (by omega) (by omega), show (32 : Int) = ((32 : Nat) : Int) from rfl, bshl_u64 32 (by omega) (by omega) (by omega), bor_add_u64 32 (by omega) (by omega) (by omega) (by omega) (by omega)]
 have q : ∀ x y : Int, x = y → 0 ≤ y → y < 100 → w64 x = y := fun x y h _ _ => by subst h; exact w64_id (by omega) (by omega)
 have stp : ∀ (n : Nat) (i x s a b i' x' s' : Int), at_ [4, 3, 5, 16, 4, 8] i = some a → at_ [K, R, O, B, T, G] i = some b → decide (i < 6) = true → 0 ≤ s → i + 1 = i' → 0 ≤ i' → i' < 100 → s + a = s' → 0 ≤ s' → s' < 100 → bor .u64 x (bshl .u64 (wu64 b) s) = x' →
   pack_Put.l1 ⟨K, R, O, B, G, T⟩ [4, 3, 5, 16, 4, 8] (n + 1) (i, x, s) = pack_Put.l1 ⟨K, R, O, B, G, T⟩ [4, 3, 5, 16, 4, 8] n (i', x', s') := by
  intro n i x s a b i' x' s' h1 h2 h3 h4 h5 h6 h7 h8 h9 h10 h11
  have h12 : decide (i < (([4, 3, 5, 16, 4, 8] : List Int).length : Int)) = true := h3
  conv => lhs; unfold pack_Put.l1
  simp only [h12, h1, h2, Option.bind_some, cond_true, chk, decide_eq_true h4, q _ _ h5 h6 h7, q _ _ h8 h9 h10, h11]
 have hA : pack_Put.l1 ⟨K, R, O, B, G, T⟩ [4, 3, 5, 16, 4, 8] (k + 40) (0, 0, 0) = some (K + R * 2 ^ 4 + O * 2 ^ 7 + B * 2 ^ 12 + T * 2 ^ 28 + G * 2 ^ 32) := by
  refine (stp (k + 39) 0 0 0 4 K 1 _ 4 rfl rfl rfl (by decide) rfl (by decide) (by decide) rfl (by decide) (by decide) e0).trans ?_
  refine (stp (k + 38) 1 _ 4 3 R 2 _ 7 rfl rfl rfl (by decide) rfl (by decide) (by decide) rfl (by decide) (by decide) e1).trans ?_
  refine (stp (k + 37) 2 _ 7 5 O 3 _ 12 rfl rfl rfl (by decide) rfl (by decide) (by decide) rfl (by decide) (by decide) e2).trans ?_
  refine (stp (k + 36) 3 _ 12 16 B 4 _ 28 rfl rfl rfl (by decide) rfl (by decide) (by decide) rfl (by decide) (by decide) e3).trans ?_
  refine (stp (k + 35) 4 _ 28 4 T 5 _ 32 rfl rfl rfl (by decide) rfl (by decide) (by decide) rfl (by decide) (by decide) e4).trans ?_
  refine (stp (k + 34) 5 _ 32 8 G 6 _ 40 rfl rfl rfl (by decide) rfl (by decide) (by decide) rfl (by decide) (by decide) e5).trans ?_
  unfold pack_Put.l1
  rfl
 simp only [pack_widths.f, Option.bind_some, Bool.not_true, cond_false, hA, capWord]
theorem packPut_no {k : Nat} {c : api_Cap} (h : ¬ CapMay c) : pack_Put.f (k + 40) c = some (0, some 1) := by
 obtain ⟨b, hb, hb2⟩ := may_pack c
 have : b = false := by cases b <;> simp_all
 subst this
 unfold pack_Put.f
 rw [hb]; rfl
open Classical in
theorem packGet_ok {k : Nat} {w : Int} (h0 : 0 ≤ w) (h1 : w ≤ 18446744073709551615) : pack_Get.f (k + 40) w = some (if w / 2 ^ 4 / 2 ^ 3 / 2 ^ 5 / 2 ^ 16 / 2 ^ 4 / 2 ^ 8 = 0 ∧ CapMay (capOf w) then (capOf w, none) else (⟨0, 0, 0, 0, 0, 0⟩, some 1)) := by
 have q : ∀ x y : Int, x = y → 0 ≤ y → y < 100 → w64 x = y := fun x y h _ _ => by subst h; exact w64_id (by omega) (by omega)
 have stp : ∀ (n : Nat) (i x i' : Int) (m : Nat) (acc : List Int), at_ [4, 3, 5, 16, 4, 8] i = some (m : Int) → decide (i < 6) = true → 0 ≤ x → x ≤ 18446744073709551615 → m < 17 → i + 1 = i' → 0 ≤ i' → i' < 100 → acc.length < 10 →
   pack_Get.l1 [4, 3, 5, 16, 4, 8] (n + 1) (i, x, acc) = pack_Get.l1 [4, 3, 5, 16, 4, 8] n (i', x / 2 ^ m, acc ++ [x % 2 ^ m]) := by
  intro n i x i' m acc h1 h3 h4 h4b h5 h6 h7 h8 h9
  have h12 : decide (i < (([4, 3, 5, 16, 4, 8] : List Int).length : Int)) = true := h3
  have hm := pow_lo m
  have hm2 := pow_le (show m ≤ 17 by omega)
  have hx : x % 2 ^ m < 2 ^ m := Int.emod_lt_of_pos _ (by omega)
  have hx0 : 0 ≤ x % 2 ^ m := Int.emod_nonneg _ (by omega)
  have hmask : wu64 (bshl .u64 1 (m : Int) - 1) = 2 ^ m - 1 := by
   rw [bshl_u64 m (by omega) (by omega) (by omega), Int.one_mul]
   exact wu64_id (by omega) (by omega)
  have happ : app acc [x % 2 ^ m] = some (acc ++ [x % 2 ^ m]) := by
   unfold app
   have : decide (acc.length + [x % 2 ^ m].length ≤ 4294967296) = true := by simp; omega
   rw [this]; rfl
  conv => lhs; unfold pack_Get.l1
  simp only [h12, h1, Option.bind_some, cond_true, chk, decide_eq_true (show (0 : Int) ≤ (m : Int) by omega), hmask, band_mod_u64 m (by omega) h4 (by omega), w64_id (x := x % 2 ^ m) (by omega) (by omega), happ, q _ _ h6 h7 h8, bshr_nn (k := .u64) m (by show m ≤ 64; omega) h4]
 have hA : pack_Get.l1 [4, 3, 5, 16, 4, 8] (k + 40) (0, w, []) = some ([w % 2 ^ 4, w / 2 ^ 4 % 2 ^ 3, w / 2 ^ 4 / 2 ^ 3 % 2 ^ 5, w / 2 ^ 4 / 2 ^ 3 / 2 ^ 5 % 2 ^ 16, w / 2 ^ 4 / 2 ^ 3 / 2 ^ 5 / 2 ^ 16 % 2 ^ 4, w / 2 ^ 4 / 2 ^ 3 / 2 ^ 5 / 2 ^ 16 / 2 ^ 4 % 2 ^ 8], w / 2 ^ 4 / 2 ^ 3 / 2 ^ 5 / 2 ^ 16 / 2 ^ 4 / 2 ^ 8) := by
  refine (stp (k + 39) 0 _ 1 4 _ rfl (by decide) (by omega) (by omega) (by decide) rfl (by decide) (by decide) (by simp)).trans ?_
  refine (stp (k + 38) 1 _ 2 3 _ rfl (by decide) (by omega) (by omega) (by decide) rfl (by decide) (by decide) (by simp)).trans ?_
  refine (stp (k + 37) 2 _ 3 5 _ rfl (by decide) (by omega) (by omega) (by decide) rfl (by decide) (by decide) (by simp)).trans ?_
  refine (stp (k + 36) 3 _ 4 16 _ rfl (by decide) (by omega) (by omega) (by decide) rfl (by decide) (by decide) (by simp)).trans ?_
  refine (stp (k + 35) 4 _ 5 4 _ rfl (by decide) (by omega) (by omega) (by decide) rfl (by decide) (by decide) (by simp)).trans ?_
  refine (stp (k + 34) 5 _ 6 8 _ rfl (by decide) (by omega) (by omega) (by decide) rfl (by decide) (by decide) (by simp)).trans ?_
  unfold pack_Get.l1
  rfl
 obtain ⟨b, hb, hb2⟩ := may_pack (capOf w)
 unfold capOf at hb
 unfold pack_Get.f
 simp only [pack_widths.f, Option.bind_some, hA]
 simp only [at_, Int.le_refl, decide_true, cond_true, List.getElem?_cons_zero, Int.toNat_zero, Option.bind_some, show decide ((0 : Int) ≤ 1) = true from rfl, show decide ((0 : Int) ≤ 2) = true from rfl, show decide ((0 : Int) ≤ 3) = true from rfl, show decide ((0 : Int) ≤ 4) = true from rfl, show decide ((0 : Int) ≤ 5) = true from rfl,
  show (1 : Int).toNat = 1 from rfl, show (2 : Int).toNat = 2 from rfl, show (3 : Int).toNat = 3 from rfl, show (4 : Int).toNat = 4 from rfl, show (5 : Int).toNat = 5 from rfl, List.getElem?_cons_succ, hb]
 generalize hr : w / 2 ^ 4 / 2 ^ 3 / 2 ^ 5 / 2 ^ 16 / 2 ^ 4 / 2 ^ 8 = r
 cases b with
 | false =>
  have hn : ¬ CapMay (capOf w) := fun h => by simpa using hb2.2 h
  rw [if_neg (fun h => hn h.2)]
  by_cases hr0 : r = 0 <;> simp [hr0]
 | true =>
  have hy : CapMay (capOf w) := hb2.1 rfl
  by_cases hr0 : r = 0
  ·rw [if_pos ⟨hr0, hy⟩]; simp [hr0, capOf]
  ·rw [if_neg (fun h => hr0 h.1)]
   have : (r != 0) = true := by simpa using hr0
   simp only [this, cond_true, Option.bind_some]
def topOf (a l b : Int) : Int × Int :=
 if 0 ≤ a ∧ a < 65536 ∧ 0 ≤ l ∧ l ≤ 16 ∧ 0 ≤ b then (if l < b then (0, 4) else (a % 2 ^ l.toNat / 2 ^ (l - b).toNat, 0)) else (0, 1)
def eN (n : Int) : Option Int := if n = 0 then none else some n
theorem top_ok (a l b : Int) : guard_Top.f a l b = some ((topOf a l b).1, eN (topOf a l b).2) := by
 unfold guard_Top.f guard_fits.f topOf
 by_cases h : 0 ≤ a ∧ a < 65536 ∧ 0 ≤ l ∧ l ≤ 16 ∧ 0 ≤ b
 ·rw [if_pos h]
  obtain ⟨h1, h2, h3, h4, h5⟩ := h
  have e1 : (decide (0 ≤ a) && decide (a < 65536) && decide (0 ≤ l) && decide (l ≤ 16)) = true := by simp; omega
  have e2 : decide (b < 0) = false := by simpa using h5
  by_cases hl : l < b
  ·simp [e1, e2, hl, eN]
  ·obtain ⟨n, rfl⟩ := Int.eq_ofNat_of_zero_le h3
   obtain ⟨m, hm⟩ := Int.eq_ofNat_of_zero_le (show 0 ≤ (n : Int) - b by omega)
   have hp := pow_lo n
   have hp2 := pow_le (show n ≤ 16 by omega)
   have hr0 : 0 ≤ a % 2 ^ n := Int.emod_nonneg _ (by omega)
   have hd : decide ((n : Int) < b) = false := by simpa using hl
   have hs : w64 ((n : Int) - b) = (m : Int) := by rw [hm]; exact w64_id (by omega) (by omega)
   have hmask : w64 (bshl .i64 1 (n : Int) - 1) = 2 ^ n - 1 := by
    rw [bshl_i64 n (by omega) (by omega) (by omega), Int.one_mul]
    exact w64_id (by omega) (by omega)
   rw [if_neg hl]
   simp only [e1, e2, hd, Option.bind_some, Bool.not_true, Bool.or_self, cond_false, hs, hmask]
   simp only [chk, decide_eq_true (show (0 : Int) ≤ (n : Int) by omega), decide_eq_true (show (0 : Int) ≤ (m : Int) by omega), Option.bind_some, cond_true, band_mod_i64 n (by omega) h1 (by omega), bshr_nn (k := .i64) m (by show m ≤ 64; omega) hr0, hm, eN, if_true, Int.toNat_natCast]
 ·rw [if_neg h]
  have : ((!(decide (0 ≤ a) && decide (a < 65536) && decide (0 ≤ l) && decide (l ≤ 16))) || decide (b < 0)) = true := by
   simp only [Bool.or_eq_true, Bool.not_eq_true', Bool.and_eq_false_iff, decide_eq_true_eq, decide_eq_false_iff_not]; omega
  simp only [Option.bind_some, this, cond_true, eN]
  rfl
def walkOf (a l own b r : Int) : Int × Int × Int :=
 if 0 ≤ a ∧ a < 65536 ∧ 0 ≤ l ∧ l ≤ 16 ∧ 0 ≤ b ∧ b ≤ 8 ∧ 0 ≤ r ∧ r ≤ 5 ∧ 0 ≤ own ∧ own < 2 ^ b.toNat then
  (if l < b + r then (0, 0, 4) else if (topOf a l b).1 ≠ own then (0, 0, 3) else ((topOf a (l - b) r).1, l - b - r, 0)) else (0, 0, 1)
theorem walk_ok (a l own b r : Int) : guard_Walk.f a l own b r = some ((walkOf a l own b r).1, (walkOf a l own b r).2.1, eN (walkOf a l own b r).2.2) := by
 unfold guard_Walk.f guard_fits.f walkOf
 by_cases hb : 0 ≤ b ∧ b ≤ 8 ∧ 0 ≤ own
 ·obtain ⟨n, rfl⟩ := Int.eq_ofNat_of_zero_le hb.1
  have hp := pow_lo n
  have hp2 := pow_le (show n ≤ 8 by omega)
  have hs : bshl .i64 1 (n : Int) = 2 ^ n := by
   rw [bshl_i64 n (by omega) (by omega) (by omega), Int.one_mul]
  rw [show ((n : Int)).toNat = n by simp]
  have d1 : decide ((n : Int) < 0) = false := by simp
  have d2 : decide (8 < (n : Int)) = false := by simp; omega
  have d3 : decide (own < 0) = false := by simp; omega
  have d4 : chk (decide (0 ≤ (n : Int))) = some () := by simp [chk]
  simp only [d1, d2, d3, d4, Bool.or_false, Option.bind_some, hs]
  by_cases h : 0 ≤ a ∧ a < 65536 ∧ 0 ≤ l ∧ l ≤ 16 ∧ 0 ≤ r ∧ r ≤ 5 ∧ own < 2 ^ n
  ·rw [if_pos ⟨h.1, h.2.1, h.2.2.1, h.2.2.2.1, hb.1, hb.2.1, h.2.2.2.2.1, h.2.2.2.2.2.1, hb.2.2, h.2.2.2.2.2.2⟩]
   obtain ⟨h1, h2, h3, h4, h5, h6, h7⟩ := h
   have e1 : (decide (0 ≤ a) && decide (a < 65536) && decide (0 ≤ l) && decide (l ≤ 16)) = true := by simp; omega
   have e2 : decide (2 ^ n ≤ own) = false := by simpa using h7
   have e3 : decide (r < 0) = false := by simpa using h5
   have e4 : decide (5 < r) = false := by simpa using h6
   simp only [e1, e2, e3, e4, Bool.not_true, cond_false, Option.bind_some, Bool.or_self]
   rw [w64_id (x := (n : Int) + r) (by omega) (by omega)]
   by_cases hl : l < n + r
   ·simp [hl, eN]
   ·have hd : decide (l < (n : Int) + r) = false := by simpa using hl
    rw [if_neg hl, top_ok, w64_id (x := l - n) (by omega) (by omega), top_ok, w64_id (x := l - n - r) (by omega) (by omega)]
    have t1 : (topOf a l n).2 = 0 := by unfold topOf; rw [if_pos ⟨h1, h2, h3, h4, hb.1⟩, if_neg (by omega)]
    have t2 : (topOf a (l - n) r).2 = 0 := by unfold topOf; rw [if_pos ⟨h1, h2, by omega, by omega, h5⟩, if_neg (by omega)]
    simp only [hd, cond_false, Option.bind_some, t1, t2, eN, if_true, Option.isSome_none, Bool.false_or]
    by_cases ho : (topOf a l n).1 = own
    ·have : ((topOf a l n).1 != own) = false := by simpa using ho
     simp [this, ho]
    ·have : ((topOf a l n).1 != own) = true := by simpa using ho
     simp [this, ho]
  ·rw [if_neg (fun x => h ⟨x.1, x.2.1, x.2.2.1, x.2.2.2.1, x.2.2.2.2.2.2.1, x.2.2.2.2.2.2.2.1, x.2.2.2.2.2.2.2.2.2⟩)]
   generalize (2 : Int) ^ n = p at *
   cases hf : (decide (0 ≤ a) && decide (a < 65536) && decide (0 ≤ l) && decide (l ≤ 16)) with
   | false => simp [eN]
   | true =>
    have : ((decide (p ≤ own) || decide (r < 0)) || decide (5 < r)) = true := by
     simp only [Bool.and_eq_true, decide_eq_true_eq] at hf
     simp only [Bool.or_eq_true, decide_eq_true_eq]; omega
    simp only [Bool.not_true, cond_false, Option.bind_some, this, cond_true, eN]
    rfl
 ·rw [if_neg (fun x => hb ⟨x.2.2.2.2.1, x.2.2.2.2.2.1, x.2.2.2.2.2.2.2.2.1⟩)]
  have : (decide (b < 0) || (decide (8 < b) || decide (own < 0))) = true := by
   simp only [Bool.or_eq_true, decide_eq_true_eq]; omega
  simp only [Bool.or_assoc, this, Bool.or_true, Option.bind_some, cond_true, Bool.true_or, eN]
  rfl
def idx (l : List Int) (x : Int) : Int := if x ∈ l then (l.idxOf x : Int) else -1
theorem at_drop {l : List Int} {i : Nat} (h : i < l.length) : at_ l (i : Int) = some l[i] := by
 unfold at_
 rw [decide_eq_true (by omega), cond_true, show ((i : Int)).toNat = i by omega, List.getElem?_eq_getElem h]
theorem index_l1 (l : List Int) (x : Int) (hl : l.length ≤ 1000) : ∀ (n k i : Nat), i + n = l.length → n < k → x ∉ l.take i → slices_Index_int_int.l1 l x k (i : Int) = some (if x ∈ l then Brk.ret (l.idxOf x : Int) else Brk.nx ()) := by
 intro n
 induction n with
 | zero =>
  intro k i h hk hx
  obtain ⟨k, rfl⟩ : ∃ q, k = q + 1 := ⟨k - 1, by omega⟩
  unfold slices_Index_int_int.l1
  rw [decide_eq_false (by omega), cond_false]
  rw [List.take_of_length_le (by omega)] at hx
  rw [if_neg hx]
 | succ n ih =>
  intro k i h hk hx
  obtain ⟨k, rfl⟩ : ∃ q, k = q + 1 := ⟨k - 1, by omega⟩
  have hi : i < l.length := by omega
  unfold slices_Index_int_int.l1
  rw [decide_eq_true (by omega), cond_true, at_drop hi, Option.bind_some]
  by_cases e : x = l[i]
  ·have hm : x ∈ l := by rw [e]; exact List.getElem_mem hi
   have hidx : l.idxOf x = i := by
    have h1 : l = l.take i ++ l[i] :: l.drop (i + 1) := by rw [← List.drop_eq_getElem_cons hi, List.take_append_drop]
    rw [h1, List.idxOf_append, if_neg hx, ← e, List.idxOf_cons_self]; simp; omega
   have : (x == l[i]) = true := by simpa using e
   rw [this, cond_true, if_pos hm, hidx]
  ·have : (x == l[i]) = false := by simpa using e
   rw [this, cond_false, w64_id (by omega) (by omega)]
   have := ih k (i + 1) (by omega) (by omega) (by
    rw [List.take_succ_eq_append_getElem hi, List.mem_append]
    rintro (q | q)
    ·exact hx q
    ·exact e (by simpa using q))
   rw [show ((i : Int) + 1) = ((i + 1 : Nat) : Int) by omega]; exact this
theorem index_ok (l : List Int) (x : Int) (hl : l.length ≤ 32) (k : Nat) (hk : 40 ≤ k) : slices_Index_int_int.f k l x = some (idx l x) := by
 unfold slices_Index_int_int.f idx
 have := index_l1 l x (by omega) l.length k 0 (by omega) (by omega) (by simp)
 rw [show ((0 : Nat) : Int) = 0 from rfl] at this
 rw [this, Option.bind_some]
 by_cases h : x ∈ l
 ·rw [if_pos h, if_pos h]; rfl
 ·rw [if_neg h, if_neg h]; rfl
theorem delete_ok (l : List Int) (i : Nat) (hi : i < l.length) : slices_Delete_int_int.f l (i : Int) ((i : Int) + 1) = some (l.eraseIdx i) := by
 unfold slices_Delete_int_int.f
 have hc : delOk l (i : Int) ((i : Int) + 1) = true := by simp [delOk]; omega
 rw [hc]
 have e0 : ((i : Int) == (i : Int) + 1) = false := by simp; omega
 simp only [chk, cond_true, Option.bind_some, e0, cond_false]
 have hz := len_delz hc
 have hN : delN l (i : Int) ((i : Int) + 1) = l.length - 1 := by unfold delN; omega
 congr 1
 rw [hN]
 rw [List.take_append_of_le_length (by rw [List.length_take, hz]; omega), List.take_take, Nat.min_self]
 unfold delz
 rw [hN, show ((i : Int)).toNat = i by omega, show ((i : Int) + 1).toNat = i + 1 by omega, List.eraseIdx_eq_take_drop_succ]
 rw [List.take_append_of_le_length (by simp; omega), List.take_of_length_le (by simp; omega)]
set_option maxRecDepth 100000 in
theorem two_ok (k : Nat) {n : Int} (h0 : 0 ≤ n) (h : n ≤ 16) : ref01_two.f (k + 40) n = some (2 ^ n.toNat) := by
 rcases (by omega : n = 0 ∨ n = 1 ∨ n = 2 ∨ n = 3 ∨ n = 4 ∨ n = 5 ∨ n = 6 ∨ n = 7 ∨ n = 8 ∨ n = 9 ∨ n = 10 ∨ n = 11 ∨ n = 12 ∨ n = 13 ∨ n = 14 ∨ n = 15 ∨ n = 16) with rfl | rfl | rfl | rfl | rfl | rfl | rfl | rfl | rfl | rfl | rfl | rfl | rfl | rfl | rfl | rfl | rfl <;> rfl
theorem may_ref (k : Nat) (c : api_Cap) : ∃ b, ref01_May.f (k + 40) c = some b ∧ (b = true ↔ CapMay c) := by
 unfold ref01_May.f CapMay
 simp only [ref01_in.f, Option.bind_some]
 obtain ⟨K, R, O, B, G, T⟩ := c
 simp only
 by_cases h5 : 0 ≤ T ∧ T ≤ 8
 ·rw [two_ok k h5.1 (by omega)]
  generalize (2 : Int) ^ T.toNat = p
  simp only [Option.bind_some, Bool.cond_eq_ite]
  repeat' split
  all_goals refine ⟨_, rfl, ?_⟩
  all_goals simp only [Bool.or_eq_true, Bool.and_eq_true, Bool.not_eq_true', decide_eq_true_eq, Bool.and_eq_false_imp, decide_eq_false_iff_not, beq_iff_eq, bne_iff_ne, Bool.false_eq_true, true_iff, false_iff] at *
  all_goals omega
 ·refine ⟨false, ?_, ?_⟩
  ·have : (decide (0 ≤ T) && decide (T ≤ 8)) = false := by simpa using h5
   simp [this]
  ·simp only [Bool.false_eq_true, false_iff]; omega
theorem all8 {P : Int → Prop} (h : ∀ i : Fin 8, P ((i.val : Nat) : Int)) {a : Int} (h0 : 0 ≤ a) (h1 : a ≤ 7) : P a := by
 have := h ⟨a.toNat, by omega⟩
 rwa [show ((a.toNat : Nat) : Int) = a by omega] at this
theorem all88 {P : Int → Int → Prop} (h : ∀ i j : Fin 8, P ((i.val : Nat) : Int) ((j.val : Nat) : Int)) {a b : Int} (h0 : 0 ≤ a) (h1 : a ≤ 7) (h2 : 0 ≤ b) (h3 : b ≤ 7) : P a b :=
 all8 (P := fun a => P a b) (fun i => all8 (P := fun b => P ((i.val : Nat) : Int) b) (fun j => h i j) h2 h3) h0 h1
theorem band_rg {a b : Int} (h0 : 0 ≤ a) (h1 : a ≤ 7) (h2 : 0 ≤ b) (h3 : b ≤ 7) : 0 ≤ band .i64 a b ∧ band .i64 a b ≤ 7 :=
 all88 (P := fun a b => 0 ≤ band .i64 a b ∧ band .i64 a b ≤ 7) (by decide +kernel) h0 h1 h2 h3
theorem real_ok (c : api_Cap) : ∃ b, rights_real.f c = some b ∧ (b = true ↔ (c.Kind ≠ 0 ∧ CapMay c)) := by
 obtain ⟨b, hb, hb2⟩ := may_pack c
 unfold rights_real.f
 rw [hb]
 by_cases hk : c.Kind = 0
 ·exact ⟨false, by simp [hk], by simp [hk]⟩
 ·exact ⟨b, by simp [hk, Bool.cond_eq_ite], by simp [hk, hb2]⟩
theorem mask_ok (m : Int) : rights_mask.f m = some (decide (0 ≤ m ∧ m ≤ 7)) := by
 unfold rights_mask.f
 simp
open Classical in
noncomputable def drv (c : api_Cap) (m : Int) : api_Cap × Int :=
 if c.Kind ≠ 0 ∧ CapMay c ∧ 0 ≤ m ∧ m ≤ 7 then (if c.Kind = 1 then (⟨0, 0, 0, 0, 0, 0⟩, 5) else (⟨c.Kind, band .i64 c.Rights m, c.Obj, c.Badge, c.Guard, c.Bits⟩, 0)) else (⟨0, 0, 0, 0, 0, 0⟩, 1)
open Classical in
noncomputable def mnt (c : api_Cap) (m b : Int) : api_Cap × Int :=
 if c.Kind ≠ 0 ∧ CapMay c ∧ 0 ≤ m ∧ m ≤ 7 ∧ 1 ≤ b ∧ b ≤ 65535 then (if c.Kind ≠ 3 ∧ c.Kind ≠ 4 then (⟨0, 0, 0, 0, 0, 0⟩, 5) else if c.Badge ≠ 0 then (⟨0, 0, 0, 0, 0, 0⟩, 10) else (⟨c.Kind, band .i64 c.Rights m, c.Obj, b, c.Guard, c.Bits⟩, 0)) else (⟨0, 0, 0, 0, 0, 0⟩, 1)
def eOf (n : Int) : Option Int := if n = 0 then none else some n
theorem derive_ok (c : api_Cap) (m : Int) : rights_Derive.f c m = some ((drv c m).1, eOf (drv c m).2) := by
 obtain ⟨b, hb, hb2⟩ := real_ok c
 unfold rights_Derive.f drv
 rw [hb, mask_ok]
 by_cases h : c.Kind ≠ 0 ∧ CapMay c
 ·rw [hb2.2 h]
  by_cases hm : 0 ≤ m ∧ m ≤ 7
  ·rw [if_pos ⟨h.1, h.2, hm⟩]
   by_cases hk : c.Kind = 1 <;> simp [hm, hk, eOf, Bool.cond_eq_ite]
  ·rw [if_neg (fun x => hm x.2.2)]
   simp [hm, eOf]
 ·have : b = false := by cases b <;> simp_all
  rw [this, if_neg (fun x => h ⟨x.1, x.2.1⟩)]
  simp [eOf]
theorem mint_ok (c : api_Cap) (m g : Int) : rights_Mint.f c m g = some ((mnt c m g).1, eOf (mnt c m g).2) := by
 obtain ⟨b, hb, hb2⟩ := real_ok c
 unfold rights_Mint.f mnt
 rw [hb, mask_ok]
 by_cases h : c.Kind ≠ 0 ∧ CapMay c
 ·rw [hb2.2 h]
  by_cases hm : 0 ≤ m ∧ m ≤ 7
  ·by_cases hg : 1 ≤ g ∧ g ≤ 65535
   ·rw [if_pos ⟨h.1, h.2, hm.1, hm.2, hg⟩]
    have d1 : decide (g < 1) = false := by simp; omega
    have d2 : decide (65535 < g) = false := by simp; omega
    by_cases h3 : c.Kind = 3 <;> by_cases h4 : c.Kind = 4 <;> by_cases h5 : c.Badge = 0 <;> simp [hm, d1, d2, h3, h4, h5, eOf, Bool.cond_eq_ite]
   ·rw [if_neg (fun x => hg x.2.2.2.2)]
    have : (decide (g < 1) || decide (65535 < g)) = true := by simp; omega
    simp [hm, Bool.or_assoc, this, eOf]
  ·rw [if_neg (fun x => hm ⟨x.2.2.1, x.2.2.2.1⟩)]
   simp [hm, eOf]
 ·have : b = false := by cases b <;> simp_all
  rw [this, if_neg (fun x => h ⟨x.1, x.2.1⟩)]
  simp [eOf]
theorem mutate_ok (k : Nat) (c : api_Cap) (m g : Int) : ∃ x n, rights_Mutate.f c m g = some (x, eOf n) ∧ ref01_Mutate.f (k + 40) c m g = some (x, n) ∧ (n = 0 ∨ n = 1 ∨ n = 5) ∧ (n = 0 → c.Kind = 2 ∧ x = ⟨c.Kind, c.Rights, c.Obj, c.Badge, m, g⟩ ∧ CapMay x) := by
 obtain ⟨b, hb, hb2⟩ := real_ok c
 obtain ⟨b1, hb1, hb3⟩ := may_ref k c
 obtain ⟨b4, hb4, hb5⟩ := may_ref k ⟨c.Kind, c.Rights, c.Obj, c.Badge, m, g⟩
 obtain ⟨b6, hb6, hb7⟩ := may_pack ⟨c.Kind, c.Rights, c.Obj, c.Badge, m, g⟩
 have e64 : b6 = b4 := by cases b4 <;> cases b6 <;> simp_all
 subst e64
 have eb : b = (b1 && !(c.Kind == 0)) := by
  cases b <;> cases b1 <;> by_cases hk : c.Kind = 0 <;> simp_all
 unfold rights_Mutate.f ref01_Mutate.f
 rw [hb, hb1, hb4, hb6, eb]
 by_cases hk : c.Kind = 0 <;> by_cases hk2 : c.Kind = 2 <;> cases b1 <;> cases b6
 all_goals first
  | (refine ⟨⟨0, 0, 0, 0, 0, 0⟩, 1, ?_, ?_, by decide, fun z => absurd z (by decide)⟩ <;> simp [hk, hk2, eOf, Bool.cond_eq_ite] <;> done)
  | (refine ⟨⟨0, 0, 0, 0, 0, 0⟩, 5, ?_, ?_, by decide, fun z => absurd z (by decide)⟩ <;> simp [hk, hk2, eOf, Bool.cond_eq_ite] <;> done)
  | (refine ⟨⟨c.Kind, c.Rights, c.Obj, c.Badge, m, g⟩, 0, ?_, ?_, by decide, fun _ => ⟨hk2, rfl, hb5.1 rfl⟩⟩ <;> simp [hk, hk2, eOf, Bool.cond_eq_ite] <;> done)
  | exact absurd (hk.symm.trans hk2) (by decide)
def costOf (kind bits : Int) : Int := if 0 ≤ bits ∧ bits ≤ 8 then (if kind = 1 then 2 ^ bits.toNat + 1 else if kind = 2 ∧ bits ≤ 5 then 2 ^ bits.toNat else if 3 ≤ kind ∧ kind ≤ 7 ∧ bits = 0 then 4 else -1) else -1
theorem pow8 {b : Int} (h : 0 ≤ b ∧ b ≤ 8) : 1 ≤ (2 : Int) ^ b.toNat ∧ (2 : Int) ^ b.toNat ≤ 256 ∧ bshl .i64 1 b = 2 ^ b.toNat := by
 rcases (by omega : b = 0 ∨ b = 1 ∨ b = 2 ∨ b = 3 ∨ b = 4 ∨ b = 5 ∨ b = 6 ∨ b = 7 ∨ b = 8) with rfl | rfl | rfl | rfl | rfl | rfl | rfl | rfl | rfl <;> decide
theorem ucost_k (kind bits : Int) : untyped_Cost.f kind bits = some (if costOf kind bits < 0 then (0, false) else (costOf kind bits, true)) := by
 unfold untyped_Cost.f costOf
 by_cases h : 0 ≤ bits ∧ bits ≤ 8
 ·have e1 : decide (bits < 0) = false := decide_eq_false (by omega)
  have e2 : decide (bits ≤ 8) = true := decide_eq_true (by omega)
  have hc : chk (decide (0 ≤ bits)) = some () := by rw [decide_eq_true h.1]; rfl
  have p := pow8 h
  rw [e1, e2, cond_false, Bool.and_true, hc, Option.bind_some, Option.bind_some, if_pos h, p.2.2]
  generalize (2 : Int) ^ bits.toNat = q at p
  by_cases c1 : kind = 1
  ·have : (kind == 1) = true := by simpa using c1
   rw [this, cond_true, if_pos c1, w64_id (by omega) (by omega), if_neg (by omega)]
  ·have : (kind == 1) = false := by simpa using c1
   rw [this, cond_false, if_neg c1]
   by_cases c2 : kind = 2 ∧ bits ≤ 5
   ·have : ((kind == 2) && decide (bits ≤ 5)) = true := by simp [c2]
    rw [this, cond_true, if_pos c2, if_neg (by omega)]
   ·have : ((kind == 2) && decide (bits ≤ 5)) = false := by rw [← Bool.not_eq_true]; simpa using c2
    rw [this, cond_false, if_neg c2]
    by_cases c3 : 3 ≤ kind ∧ kind ≤ 7 ∧ bits = 0
    ·have : (((decide (3 ≤ kind)) && (decide (kind ≤ 7))) && (bits == 0)) = true := by simp [c3]
     rw [this, if_pos c3]; rfl
    ·have : (((decide (3 ≤ kind)) && (decide (kind ≤ 7))) && (bits == 0)) = false := by
      rw [← Bool.not_eq_true]; simp; omega
     rw [this, if_neg c3]; rfl
 ·rw [if_neg h, if_pos (by decide)]
  by_cases c : bits < 0
  ·rw [decide_eq_true c]; rfl
  ·have e2 : decide (bits ≤ 8) = false := decide_eq_false (by omega)
   have e3 : decide (bits ≤ 5) = false := decide_eq_false (by omega)
   have e4 : (bits == 0) = false := by simp; omega
   rw [decide_eq_false c, e2, e3, e4]
   simp only [Bool.and_false, cond_false]
theorem ucost_ok (kind bits : Int) : untyped_Cost.f kind bits = some (if costOf kind bits < 0 then 0 else costOf kind bits, decide (0 ≤ costOf kind bits)) := by
 have key : untyped_Cost.f kind bits = some (if costOf kind bits < 0 then (0, false) else (costOf kind bits, true)) := ucost_k kind bits
 rw [key]
 by_cases c : costOf kind bits < 0
 ·rw [if_pos c, if_pos c, decide_eq_false (by omega)]
 ·rw [if_neg c, if_neg c, decide_eq_true (by omega)]
theorem cap_ok {s : List Int} (h : GoodU s) (k : Nat) (i : Int) : VM.run plainI (cspace_Cap.f (k + 40) i) s = some (capAt s i, s) := by
 unfold cspace_Cap.f capAt
 rw [runB, runO, slot_ok]
 by_cases hi : InSlot i 0
 ·rw [if_pos hi, if_pos hi]
  have hi' := hi
  unfold InSlot at hi'
  simp only [Option.map_some, Option.bind_some, Bool.not_true, cond_false, Int.add_zero]
  rw [runRd _ (by rw [h.1.1]; omega), runB, runO, packGet_ok (h.1.2 _) (h.2 _)]
  unfold readCap
  by_cases q : s.getD (5 * i).toNat 0 / 2 ^ 4 / 2 ^ 3 / 2 ^ 5 / 2 ^ 16 / 2 ^ 4 / 2 ^ 8 = 0 ∧ CapMay (capOf (s.getD (5 * i).toNat 0))
  ·rw [if_pos q, if_pos q]; rfl
  ·rw [if_neg q, if_neg q]; rfl
 ·rw [if_neg hi, if_neg hi]; rfl
theorem readCap_word {c : api_Cap} (hc : CapMay c) : readCap (capWord c) = c := by
 obtain ⟨h1, h2, -, -⟩ := word_capOf hc
 unfold readCap
 rw [if_pos ⟨h2, by rw [h1]; exact hc⟩, h1]
def U6 (x : Int) : Prop := 0 ≤ x ∧ x ≤ 18446744073709551615
def TA (W : Int → Int → Prop) {α : Type} : VM α → (α → Prop) → Prop
 | .ret a, Q => Q a
 | .fail, _ => False
 | .rd i k, Q => ∀ x, W i x → TA W (k x) Q
 | .wr i v k, Q => W i v ∧ TA W k Q
structure WC (W : Int → Int → Prop) (good : api_Cap → Prop) : Prop where
 u : ∀ i x, W i x → U6 x
 ob : ∀ i x, 480 ≤ i → i < 737 → U6 x → W i x
 sl : ∀ i x, 0 ≤ i → i < 480 → i % 5 ≠ 0 → U6 x → W i x
 rc : ∀ s x, 0 ≤ s → s < 96 → W (5 * s) x → good (readCap x)
 wc : ∀ s x, 0 ≤ s → s < 96 → U6 x → good (readCap x) → W (5 * s) x
 nul : ∀ c : api_Cap, c.Kind = 0 → good c
 less : ∀ c c' : api_Cap, CapMay c → good c → 0 ≤ c'.Rights → c'.Rights ≤ 7 → c'.Kind = c.Kind → c'.Obj = c.Obj → band .i64 c'.Rights c.Rights = c'.Rights → good c'
 new : ∀ x (c : api_Cap), W 737 x → c.Obj = (if 32 < x then 32 else x) → good c
 up : ∀ x a, W 737 x → 0 ≤ a → (if 32 < x then 32 else x) + a ≤ 32 → W 737 ((if 32 < x then 32 else x) + a)
 out : ∀ i, ¬ (0 ≤ i ∧ i < 738) → W i 0
section
variable {W : Int → Int → Prop} {α β γ : Type} {Q : α → Prop}
theorem TA.ret {a : α} (h : Q a) : TA W (VM.ret a) Q := h
theorem TA.retT (a : α) : TA W (VM.ret a) (fun _ => True) := trivial
theorem TA.mono {m : VM α} {R : α → Prop} (h : TA W m Q) (k : ∀ a, Q a → R a) : TA W m R := by
 induction m with
 | ret a => exact k _ h
 | fail => exact h
 | rd i g ih => exact fun x hx => ih x (h x hx)
 | wr i v g ih => exact ⟨h.1, ih h.2⟩
theorem TA.bind {m : VM β} {R : β → Prop} {g : β → VM α} (h : TA W m R) (k : ∀ x, R x → TA W (g x) Q) : TA W (m.bind g) Q := by
 induction m with
 | ret a => exact k a h
 | fail => exact h.elim
 | rd i g ih => exact fun x hx => ih x (h x hx)
 | wr i v g ih => exact ⟨h.1, ih h.2⟩
theorem TA.bindT {m : VM β} {g : β → VM α} (h : TA W m (fun _ => True)) (k : ∀ x, TA W (g x) Q) : TA W (m.bind g) Q := h.bind fun x _ => k x
theorem TA.optS {o : Option β} {g : β → VM α} (h : ∃ x, o = some x) (k : ∀ x, o = some x → TA W (g x) Q) : TA W ((VM.opt o).bind g) Q := by
 obtain ⟨x, e⟩ := h
 rw [e]; exact k x e
theorem TA.cond {c : Bool} {a b : VM α} (ha : c = true → TA W a Q) (hb : c = false → TA W b Q) : TA W (bif c then a else b) Q := by
 cases c with
 | true => exact ha rfl
 | false => exact hb rfl
theorem TA.go {o : Brk β γ} {f : β → VM α} {g : γ → VM α} (hf : ∀ r, TA W (f r) Q) (hg : ∀ b, TA W (g b) Q) : TA W (Brk.go o f g) Q := by
 cases o with
 | ret r => exact hf r
 | nx b => exact hg b
theorem TA.rd {i : Int} {k : Int → VM α} (h : ∀ x, W i x → TA W (k x) Q) : TA W (VM.rd i k) Q := h
theorem TA.wr {i v : Int} {k : VM α} (h1 : W i v) (h : TA W k Q) : TA W (VM.wr i v k) Q := ⟨h1, h⟩
theorem TA.top {m : VM α} (h : TA W m Q) : TA W m (fun _ => True) := h.mono fun _ _ => trivial
end
theorem u6_wu (x : Int) : U6 (wu64 x) := by
 show 0 ≤ IntKind.u64.wrap x ∧ IntKind.u64.wrap x ≤ 18446744073709551615
 rw [IntKind.wrap_u64]; omega
theorem s_slot (a b : Int) : ∃ x, lay_Slot.f a b = some x := ⟨_, slot_ok a b⟩
theorem s_obj (a b : Int) : ∃ x, lay_Obj.f a b = some x := ⟨_, obj_ok a b⟩
theorem s_get {k : Nat} (hk : 1350 ≤ k) {w : Int} (h : U6 w) : ∃ x, pack_Get.f k w = some x := by
 obtain ⟨k, rfl⟩ : ∃ q, k = q + 40 := ⟨k - 40, by omega⟩
 exact ⟨_, packGet_ok h.1 h.2⟩
theorem s_put {k : Nat} (hk : 1350 ≤ k) (c : api_Cap) : ∃ x, pack_Put.f k c = some x ∧ U6 x.1 := by
 obtain ⟨k, rfl⟩ : ∃ q, k = q + 40 := ⟨k - 40, by omega⟩
 by_cases m : CapMay c
 ·have := word_capOf m
  exact ⟨_, packPut_ok m, this.2.2.1, this.2.2.2⟩
 ·exact ⟨_, packPut_no m, by show (0 : Int) ≤ 0; decide, by show (0 : Int) ≤ 18446744073709551615; decide⟩
theorem s_put' {k : Nat} (hk : 1350 ≤ k) (c : api_Cap) : ∃ x, pack_Put.f k c = some x := by
 obtain ⟨x, h, _⟩ := s_put hk c; exact ⟨x, h⟩
theorem s_has (c : api_Cap) (n : Int) : ∃ x, rights_Has.f c n = some x := ⟨_, rfl⟩
theorem s_is (c : api_Cap) (a b : Int) : ∃ x, invoke_is.f c a b = some x := by
 unfold invoke_is.f
 rw [Bool.cond_eq_ite]
 split
 ·exact ⟨_, rfl⟩
 ·rw [show rights_Has.f c b = some (band .i64 c.Rights b == b) from rfl, Option.bind_some, Bool.cond_eq_ite]
  split <;> exact ⟨_, rfl⟩
theorem s_signed (c : api_Cap) : ∃ x, invoke_signed.f c = some x := ⟨_, rfl⟩
theorem s_walk (a l o b r : Int) : ∃ x, guard_Walk.f a l o b r = some x := ⟨_, walk_ok a l o b r⟩
theorem s_sin (a : Int) : ∃ x, space_in.f a = some x := ⟨_, rfl⟩
theorem s_sat (a : Int) : ∃ x, space_at.f a = some x := ⟨_, rfl⟩
theorem s_e (a : Int) : ∃ x, endp_there.f a = some x := by
 unfold endp_there.f
 rw [obj_ok]; exact ⟨_, rfl⟩
theorem s_q (a : Int) : ∃ x, queue_there.f a = some x := by
 unfold queue_there.f
 rw [obj_ok]; exact ⟨_, rfl⟩
theorem s_n (a : Int) : ∃ x, ntfn_there.f a = some x := by
 unfold ntfn_there.f
 rw [obj_ok]; exact ⟨_, rfl⟩
theorem s_c (a : Int) : ∃ x, cdt_there.f a = some x := ⟨_, sthere_ok a⟩
theorem s_d (a : Int) : ∃ x, derive_there.f a = some x := by
 unfold derive_there.f
 rw [slot_ok]; exact ⟨_, rfl⟩
theorem s_der (c : api_Cap) (m : Int) : ∃ x, rights_Derive.f c m = some x := ⟨_, derive_ok c m⟩
theorem s_mint (c : api_Cap) (m b : Int) : ∃ x, rights_Mint.f c m b = some x := ⟨_, mint_ok c m b⟩
theorem s_mut (c : api_Cap) (m b : Int) : ∃ x, rights_Mutate.f c m b = some x := by
 obtain ⟨x, n, h, _⟩ := mutate_ok 0 c m b
 exact ⟨_, h⟩
theorem s_cost (a b : Int) : ∃ x, untyped_Cost.f a b = some x := ⟨_, ucost_ok a b⟩
theorem s_app {l : List Int} (x : Int) (h : l.length ≤ 1000) : ∃ y, app l [x] = some y ∧ y.length = l.length + 1 := by
 have e9 : l.length + [x].length ≤ 4294967296 := by simp; omega
 exact ⟨l ++ [x], by unfold app; rw [decide_eq_true e9]; rfl, by simp⟩
theorem is_ok {s : List Int} (h : Good s) (i k : Int) (hk : 1 ≤ k ∧ k ≤ 4611686018427387904) : VM.run plainI (lay_Is.f i k) s = some (decide (fld s i 0 = k), s) := by
 unfold lay_Is.f fld
 rw [runB, runO, obj_ok]
 by_cases hi : InObj i 0
 ·rw [if_pos hi, if_pos hi]
  have hi' := hi
  unfold InObj at hi'
  have hg := h.2 (480 + 8 * i + 0).toNat
  have h0 : decide (0 ≤ k) = true := decide_eq_true (by omega)
  simp only [Option.map_some, Option.bind_some, runB, h0, Bool.and_true, cond_true]
  rw [runRd _ (by rw [h.1]; omega), wu64_id (by omega) (by omega)]
  simp only [runR, Option.bind_some]
  generalize s.getD (480 + 8 * i + 0).toNat 0 = x at hg
  congr 2
  unfold numb
  rw [Bool.eq_iff_iff]
  simp only [beq_iff_eq, decide_eq_true_eq]
  split <;> omega
 ·rw [if_neg hi, if_neg hi]
  have : decide ((0 : Int) = k) = false := decide_eq_false (by omega)
  simp only [Option.map_some, Option.bind_some, runB, Bool.false_and, cond_false, runR, this]
theorem two5 {n : Int} (h : 0 ≤ n) (h2 : n ≤ 5) : bshl .i64 1 n = 2 ^ n.toNat ∧ 1 ≤ (2 : Int) ^ n.toNat ∧ (2 : Int) ^ n.toNat ≤ 32 := by
 rcases (by omega : n = 0 ∨ n = 1 ∨ n = 2 ∨ n = 3 ∨ n = 4 ∨ n = 5) with rfl | rfl | rfl | rfl | rfl | rfl <;> decide
section
variable {W : Int → Int → Prop} {good : api_Cap → Prop} (C : WC W good)
include C
theorem w_obj {a b t : Int} {c : Bool} (h : lay_Obj.f a b = some (t, c)) (hc : c = true) {x : Int} (hx : U6 x) : W t x := by
 rw [obj_ok] at h
 by_cases q : InObj a b
 ·rw [if_pos q] at h
  injection h with h; injection h with h1 _
  have q' := q
  unfold InObj at q'
  exact C.ob t x (by omega) (by omega) hx
 ·rw [if_neg q] at h
  injection h with h; injection h with _ h2
  rw [hc] at h2; cases h2
theorem w_slot {a b t : Int} {c : Bool} (h : lay_Slot.f a b = some (t, c)) (hc : c = true) (hb : b ≠ 0) {x : Int} (hx : U6 x) : W t x := by
 rw [slot_ok] at h
 by_cases q : InSlot a b
 ·rw [if_pos q] at h
  injection h with h; injection h with h1 _
  have q' := q
  unfold InSlot at q'
  exact C.sl t x (by omega) (by omega) (by omega) hx
 ·rw [if_neg q] at h
  injection h with h; injection h with _ h2
  rw [hc] at h2; cases h2
theorem w_cap {a t : Int} {c : Bool} (h : lay_Slot.f a 0 = some (t, c)) (hc : c = true) : 0 ≤ a ∧ a < 96 ∧ t = 5 * a := by
 rw [slot_ok] at h
 by_cases q : InSlot a 0
 ·rw [if_pos q] at h
  injection h with h; injection h with h1 _
  unfold InSlot at q
  exact ⟨q.1, q.2.1, by omega⟩
 ·rw [if_neg q] at h
  injection h with h; injection h with _ h2
  rw [hc] at h2; cases h2
theorem lay_Field_f_t (i f : Int) : TA W (lay_Field.f i f) (fun n => 0 ≤ n ∧ n ≤ 4611686018427387904) := by
 unfold lay_Field.f
 refine TA.optS (s_obj _ _) fun x _ => ?_
 obtain ⟨t1, t2⟩ := x
 refine TA.cond (fun _ => TA.ret (by decide)) fun _ => TA.rd fun x hx => TA.cond (fun _ => TA.ret (by decide)) fun h => TA.ret ?_
 have h := of_decide_eq_false h
 have := (C.u _ _ hx).1
 rw [w64_id (by omega) (by omega)]; omega
theorem lay_Put_f_t (a b c : Int) : TA W (lay_Put.f a b c) (fun _ => True) := by
 unfold lay_Put.f
 refine TA.optS (s_obj _ _) fun x hx => ?_
 obtain ⟨t1, t2⟩ := x
 refine TA.cond (fun hc => TA.wr (w_obj C hx ?_ (u6_wu _)) trivial) fun _ => trivial
 simp only [Bool.and_eq_true] at hc
 exact hc.1
theorem cdt_put_f_t (a b c : Int) (hb : b ≠ 0) : TA W (cdt_put.f a b c) (fun _ => True) := by
 unfold cdt_put.f
 refine TA.optS (s_slot _ _) fun x hx => ?_
 obtain ⟨t1, t2⟩ := x
 exact TA.cond (fun hc => TA.wr (w_slot C hx hc hb (u6_wu _)) trivial) fun _ => trivial
theorem lay_Take_f_t (a b : Int) (ha : 0 ≤ a ∧ a ≤ 4611686018427387904) : TA W (lay_Take.f a b) (fun q => q.2.2 = none → ∀ c : api_Cap, c.Obj = q.2.1 → good c) := by
 unfold lay_Take.f lay_Used.f
 refine TA.cond (fun _ => TA.ret fun z => by cases z) fun hab => TA.bind (R := fun q => 0 ≤ q.1 ∧ q.1 ≤ 96 ∧ ∃ x, W 737 x ∧ q.2 = (if 32 < x then 32 else x)) (TA.rd fun x hx => TA.rd fun y hy => TA.ret ?_) fun q hq => ?_
 ·have ux := C.u _ _ hx
  have uy := C.u _ _ hy
  have e2 : w64 (if 32 < y then 32 else y) = (if 32 < y then 32 else y) := w64_id (by have := uy.1; split <;> omega) (by have := uy.1; split <;> omega)
  have e1 : w64 (if 96 < x then 96 else x) = (if 96 < x then 96 else x) := w64_id (by have := ux.1; split <;> omega) (by have := ux.1; split <;> omega)
  refine ⟨?_, ?_, y, hy, e2⟩
  ·show 0 ≤ w64 (if 96 < x then 96 else x)
   rw [e1]; have := ux.1; split <;> omega
  ·show w64 (if 96 < x then 96 else x) ≤ 96
   rw [e1]; split <;> omega
 ·obtain ⟨t3, t4⟩ := q
  obtain ⟨q0, q1, x, hx, q2⟩ := hq
  simp only at q0 q1 q2
  have ux := (C.u _ _ hx).1
  simp only [Bool.or_eq_false_iff, decide_eq_false_iff_not] at hab
  have b4 : 0 ≤ t4 ∧ t4 ≤ 32 := by rw [q2]; split <;> omega
  refine TA.cond (fun _ => TA.ret fun z => by cases z) fun hc => ?_
  simp only [Bool.or_eq_false_iff, decide_eq_false_iff_not] at hc
  rw [w64_id (x := 32 - t4) (by omega) (by omega)] at hc
  have e : wu64 (w64 (t4 + b)) = t4 + b := by rw [w64_id (by omega) (by omega), wu64_id (by omega) (by omega)]
  refine TA.wr (C.ob 736 _ (by decide) (by decide) (u6_wu _)) (TA.wr ?_ (TA.ret fun _ c hc => C.new x c hx (by rw [hc]; exact q2)))
  rw [e, q2]
  exact C.up x b hx (by omega) (by rw [← q2]; omega)
theorem lay_Is_f_t (a b : Int) : TA W (lay_Is.f a b) (fun _ => True) := by
 unfold lay_Is.f
 refine TA.optS (s_obj _ _) fun x _ => ?_
 obtain ⟨t1, t2⟩ := x
 exact TA.bindT (TA.cond (fun _ => TA.rd fun x _ => trivial) fun _ => trivial) fun _ => trivial
section
variable {k : Nat} (hk : 1350 ≤ k)
include hk
theorem cspace_Cap_f_t (a : Int) : TA W (cspace_Cap.f k a) (fun c => good c ∧ CapMay c) := by
 have n0 : good noCap ∧ CapMay noCap := ⟨C.nul _ rfl, by decide⟩
 unfold cspace_Cap.f
 refine TA.optS (s_slot _ _) fun x hx => ?_
 obtain ⟨t1, t2⟩ := x
 refine TA.cond (fun _ => TA.ret n0) fun hc => TA.rd fun x hw => ?_
 obtain ⟨a0, a1, e⟩ := w_cap C hx (by simpa using hc)
 rw [e] at hw
 have u := C.u _ _ hw
 have gd := C.rc a x a0 a1 hw
 obtain ⟨k, rfl⟩ : ∃ q, k = q + 40 := ⟨k - 40, by omega⟩
 rw [packGet_ok u.1 u.2]
 unfold readCap at gd
 by_cases m : x / 2 ^ 4 / 2 ^ 3 / 2 ^ 5 / 2 ^ 16 / 2 ^ 4 / 2 ^ 8 = 0 ∧ CapMay (capOf x)
 ·rw [if_pos m] at gd ⊢
  refine TA.optS ⟨_, rfl⟩ fun q hq => ?_
  injection hq with hq; subst hq
  exact TA.cond (fun _ => TA.ret n0) fun _ => TA.ret ⟨gd, m.2⟩
 ·rw [if_neg m]
  refine TA.optS ⟨_, rfl⟩ fun q hq => ?_
  injection hq with hq; subst hq
  exact TA.cond (fun _ => TA.ret n0) fun h => by cases h
theorem cspace_Set_f_t (a : Int) (c : api_Cap) (gd : good c) : TA W (cspace_Set.f k a c) (fun _ => True) := by
 unfold cspace_Set.f
 refine TA.optS (s_slot _ _) fun x hx => ?_
 obtain ⟨t1, t2⟩ := x
 refine TA.cond (fun _ => trivial) fun hc => ?_
 obtain ⟨a0, a1, e⟩ := w_cap C hx (by simpa using hc)
 obtain ⟨k, rfl⟩ : ∃ q, k = q + 40 := ⟨k - 40, by omega⟩
 by_cases m : CapMay c
 ·have w := word_capOf m
  rw [packPut_ok m]
  refine TA.optS ⟨_, rfl⟩ fun q hq => ?_
  injection hq with hq; subst hq
  exact TA.cond (fun _ => trivial) fun _ => TA.wr (by rw [e]; exact C.wc a _ a0 a1 ⟨w.2.2.1, w.2.2.2⟩ (by rw [readCap_word m]; exact gd)) trivial
 ·rw [packPut_no m]
  refine TA.optS ⟨_, rfl⟩ fun q hq => ?_
  injection hq with hq; subst hq
  exact TA.cond (fun _ => trivial) fun h => by cases h
theorem tcb_Root_f_t (a : Int) : TA W (tcb_Root.f k a) (fun _ => True) := by
 unfold tcb_Root.f
 refine TA.bindT (lay_Is_f_t C _ _) fun b => TA.cond (fun _ => trivial) fun _ => TA.bind (lay_Field_f_t C _ _) fun n _ => TA.optS (s_get hk (u6_wu _)) fun q _ => ?_
 obtain ⟨t9, t10⟩ := q
 exact TA.cond (fun _ => trivial) fun _ => trivial
end
theorem cspace_Fine_f_t (c : api_Cap) : TA W (cspace_Fine.f c) (fun _ => True) := by
 unfold cspace_Fine.f
 refine TA.bindT (TA.cond (fun _ => trivial) fun _ => TA.bindT (lay_Is_f_t C _ _) fun _ => trivial) fun b => TA.cond (fun _ => trivial) fun _ => TA.bind (lay_Field_f_t C _ _) fun n hn => TA.bindT (TA.cond (fun _ => TA.bind (lay_Field_f_t C _ _) fun m _ => TA.optS ⟨(), by unfold chk; rw [decide_eq_true hn.1]; rfl⟩ fun _ _ => trivial) fun _ => trivial) fun _ => trivial
theorem cspace_Lookup_l1_t (a2 : Int) : ∀ (m k : Nat) (x y c1 c2 c3 c4 c5 c6 : Int), 0 ≤ x → x + m = 16 → m + 1400 < k → TA W (cspace_Lookup.l1 a2 k (x, y, c1, c2, c3, c4, c5, c6)) (fun _ => True) := by
 intro m
 induction m with
 | zero =>
  intro k x y c1 c2 c3 c4 c5 c6 h0 h1 hk
  obtain ⟨k, rfl⟩ : ∃ q, k = q + 1 := ⟨k - 1, by omega⟩
  unfold cspace_Lookup.l1
  rw [decide_eq_false (by omega)]; trivial
 | succ m ih =>
  intro k x y c1 c2 c3 c4 c5 c6 h0 h1 hk
  obtain ⟨k, rfl⟩ : ∃ q, k = q + 1 := ⟨k - 1, by omega⟩
  unfold cspace_Lookup.l1
  refine TA.cond (fun _ => TA.bind (lay_Field_f_t C _ _) fun n _ => TA.optS (s_walk _ _ _ _ _) fun q _ => ?_) fun _ => trivial
  obtain ⟨t12, t13, t14⟩ := q
  refine TA.cond (fun _ => trivial) fun _ => TA.bind (lay_Field_f_t C _ _) fun n2 _ => TA.cond (fun _ => trivial) fun _ => TA.bindT ((cspace_Cap_f_t C (by omega) _).top) fun c => TA.bindT (cspace_Fine_f_t C _) fun b => TA.cond (fun _ => trivial) fun _ => ?_
  rw [w64_id (x := x + 1) (by omega) (by omega)]
  exact ih k (x + 1) _ _ _ _ _ _ _ (by omega) (by omega) (by omega)
theorem cspace_Lookup_f_t {k : Nat} (hk : 1450 ≤ k) (c : api_Cap) (a : Int) : TA W (cspace_Lookup.f k c a) (fun _ => True) := by
 unfold cspace_Lookup.f
 exact TA.cond (fun _ => trivial) fun _ => TA.bindT (cspace_Fine_f_t C _) fun b => TA.cond (fun _ => trivial) fun _ => TA.bindT (cspace_Lookup_l1_t C a 16 k 0 16 _ _ _ _ _ _ (by decide) (by decide) (by omega)) fun o => TA.go (fun _ => trivial) (fun _ => trivial)
theorem cdt_get_f_t (a b : Int) : TA W (cdt_get.f a b) (fun _ => True) := by
 unfold cdt_get.f
 refine TA.optS (s_slot _ _) fun x _ => ?_
 obtain ⟨t1, t2⟩ := x
 exact TA.cond (fun _ => trivial) fun _ => TA.rd fun x _ => TA.cond (fun _ => trivial) fun _ => trivial
theorem cdt_Kids_l1_t : ∀ (m k : Nat) (x : Int) (l : List Int), l.length + m = 96 → m < k → TA W (cdt_Kids.l1 k (x, l)) (fun l => l.length ≤ 96) := by
 intro m
 induction m with
 | zero =>
  intro k x l h1 hk
  obtain ⟨k, rfl⟩ : ∃ q, k = q + 1 := ⟨k - 1, by omega⟩
  unfold cdt_Kids.l1
  rw [decide_eq_false (by omega : ¬ (l.length : Int) < 96), Bool.and_false]
  exact TA.ret (by omega)
 | succ m ih =>
  intro k x l h1 hk
  obtain ⟨k, rfl⟩ : ∃ q, k = q + 1 := ⟨k - 1, by omega⟩
  unfold cdt_Kids.l1
  obtain ⟨y, e, hy⟩ := s_app (l := l) x (by omega)
  refine TA.cond (fun _ => TA.optS ⟨y, e⟩ fun q hq => TA.bindT (cdt_get_f_t C _ _) fun t => ?_) fun _ => TA.ret (by omega)
  rw [e] at hq; injection hq with hq; subst hq
  exact ih k t _ (by omega) (by omega)
theorem cdt_Kids_f_t {k : Nat} (hk : 1350 ≤ k) (a : Int) : TA W (cdt_Kids.f k a) (fun l => l.length ≤ 96) := by
 unfold cdt_Kids.f
 exact TA.bindT (cdt_get_f_t C _ _) fun t => TA.bind (cdt_Kids_l1_t C 96 k t [] rfl (by omega)) fun l hl => hl
omit C in
theorem at_nn {l : List Int} {i : Int} (h0 : 0 ≤ i) (h1 : i < (l.length : Int)) : ∃ x, at_ l i = some x := by
 obtain ⟨x, h, _⟩ := at_some h0 h1; exact ⟨x, h⟩
theorem cdt_Replace_l2_t (a2 : Int) (l : List Int) (hl : l.length ≤ 96) : ∀ (m k : Nat) (i : Int), 0 ≤ i → i + m = l.length → m < k → TA W (cdt_Replace.l2 a2 l k i) (fun _ => True) := by
 intro m
 induction m with
 | zero =>
  intro k i h0 h1 hk
  obtain ⟨k, rfl⟩ : ∃ q, k = q + 1 := ⟨k - 1, by omega⟩
  unfold cdt_Replace.l2
  rw [decide_eq_false (by omega)]; trivial
 | succ m ih =>
  intro k i h0 h1 hk
  obtain ⟨k, rfl⟩ : ∃ q, k = q + 1 := ⟨k - 1, by omega⟩
  unfold cdt_Replace.l2
  refine TA.cond (fun _ => TA.optS (at_nn h0 (by omega)) fun q _ => TA.bindT (cdt_put_f_t C _ _ _ (by decide)) fun _ => ?_) fun _ => trivial
  rw [w64_id (x := i + 1) (by omega) (by omega)]
  exact ih k (i + 1) (by omega) (by omega) (by omega)
theorem cdt_Leaf_l1_t : ∀ (m k : Nat) (x y : Int), 0 ≤ x → x + m = 96 → m < k → TA W (cdt_Leaf.l1 k (x, y)) (fun _ => True) := by
 intro m
 induction m with
 | zero =>
  intro k x y h0 h1 hk
  obtain ⟨k, rfl⟩ : ∃ q, k = q + 1 := ⟨k - 1, by omega⟩
  unfold cdt_Leaf.l1
  rw [decide_eq_false (by omega)]; trivial
 | succ m ih =>
  intro k x y h0 h1 hk
  obtain ⟨k, rfl⟩ : ∃ q, k = q + 1 := ⟨k - 1, by omega⟩
  unfold cdt_Leaf.l1
  refine TA.cond (fun _ => TA.bindT (cdt_get_f_t C _ _) fun t => TA.cond (fun _ => trivial) fun _ => ?_) fun _ => trivial
  rw [w64_id (x := x + 1) (by omega) (by omega)]
  exact ih k (x + 1) t (by omega) (by omega) (by omega)
theorem cdt_Leaf_f_t {k : Nat} (hk : 1350 ≤ k) (a : Int) : TA W (cdt_Leaf.f k a) (fun _ => True) := by
 unfold cdt_Leaf.f
 exact TA.optS (s_c _) fun b _ => TA.cond (fun _ => trivial) fun _ => TA.bindT (cdt_Leaf_l1_t C 96 k 0 a (by decide) (by decide) (by omega)) fun _ => trivial
theorem lay_Ref_f_t (a b : Int) : TA W (lay_Ref.f a b) (fun _ => True) := by
 unfold lay_Ref.f
 exact TA.bind (lay_Field_f_t C _ _) fun n _ => TA.cond (fun _ => trivial) fun _ => trivial
theorem queue_List_l1_t : ∀ (m k : Nat) (x : Int) (b : Bool) (l : List Int), l.length + m = 32 → m < k → TA W (queue_List.l1 k (l, x, b)) (fun l => l.length ≤ 32) := by
 intro m
 induction m with
 | zero =>
  intro k x b l h1 hk
  obtain ⟨k, rfl⟩ : ∃ q, k = q + 1 := ⟨k - 1, by omega⟩
  unfold queue_List.l1
  rw [decide_eq_false (by omega : ¬ (l.length : Int) < 32), Bool.and_false]
  exact TA.ret (by omega)
 | succ m ih =>
  intro k x b l h1 hk
  obtain ⟨k, rfl⟩ : ∃ q, k = q + 1 := ⟨k - 1, by omega⟩
  unfold queue_List.l1
  obtain ⟨y, e, hy⟩ := s_app (l := l) x (by omega)
  refine TA.cond (fun _ => TA.optS ⟨y, e⟩ fun q hq => TA.bindT (lay_Ref_f_t C _ _) fun t => ?_) fun _ => TA.ret (by omega)
  rw [e] at hq; injection hq with hq; subst hq
  obtain ⟨t14, t15⟩ := t
  exact ih k t14 t15 _ (by omega) (by omega)
theorem queue_List_f_t {k : Nat} (hk : 1350 ≤ k) (a : Int) : TA W (queue_List.f k a) (fun l => l.length ≤ 32) := by
 unfold queue_List.f
 refine TA.bindT (lay_Ref_f_t C _ _) fun t => ?_
 obtain ⟨t1, t2⟩ := t
 exact TA.bind (queue_List_l1_t C 32 k t1 t2 [] rfl (by omega)) fun l hl => hl
theorem queue_put_l1_t (l : List Int) (hl : l.length ≤ 32) : ∀ (m k : Nat) (i : Int), 0 ≤ i → i + m = l.length → m < k → TA W (queue_put.l1 l k i) (fun _ => True) := by
 intro m
 induction m with
 | zero =>
  intro k i h0 h1 hk
  obtain ⟨k, rfl⟩ : ∃ q, k = q + 1 := ⟨k - 1, by omega⟩
  unfold queue_put.l1
  rw [decide_eq_false (by omega)]; trivial
 | succ m ih =>
  intro k i h0 h1 hk
  obtain ⟨k, rfl⟩ : ∃ q, k = q + 1 := ⟨k - 1, by omega⟩
  have e1 : w64 (i + 1) = i + 1 := w64_id (by omega) (by omega)
  have next := ih k (i + 1) (by omega) (by omega) (by omega)
  unfold queue_put.l1
  rw [e1]
  exact TA.cond (fun _ => TA.optS (at_nn h0 (by omega)) fun q _ => TA.cond (fun h => TA.optS (at_nn (by omega) (of_decide_eq_true h)) fun q2 _ => TA.bindT (lay_Put_f_t C _ _ _) fun _ => next) fun _ => TA.bindT (lay_Put_f_t C _ _ _) fun _ => next) fun _ => trivial
theorem queue_put_f_t {k : Nat} (hk : 1350 ≤ k) (a : Int) (l : List Int) (hl : l.length ≤ 32) : TA W (queue_put.f k a l) (fun _ => True) := by
 unfold queue_put.f
 refine TA.bindT (queue_put_l1_t C l hl l.length k 0 (by decide) (by omega) (by omega)) fun _ => TA.cond (fun h => ?_) fun _ => TA.bindT (lay_Put_f_t C _ _ _) fun _ => TA.bindT (lay_Put_f_t C _ _ _) fun _ => trivial
 have h := of_decide_eq_true h
 rw [w64_id (by omega) (by omega)]
 exact TA.optS (at_nn (by decide) (by omega)) fun q _ => TA.optS (at_nn (by omega) (by omega)) fun q2 _ => TA.bindT (lay_Put_f_t C _ _ _) fun _ => TA.bindT (lay_Put_f_t C _ _ _) fun _ => trivial
theorem queue_Remove_f_t {k : Nat} (hk : 1350 ≤ k) (a b : Int) : TA W (queue_Remove.f k a b) (fun _ => True) := by
 unfold queue_Remove.f
 refine TA.bind (queue_List_f_t C hk _) fun l hl => TA.optS ⟨_, index_ok l b hl k (by omega)⟩ fun q hq => TA.cond (fun _ => trivial) fun hc => ?_
 rw [index_ok l b hl k (by omega)] at hq
 injection hq with hq
 have hc := of_decide_eq_false hc
 have hi : ∃ i : Nat, q = i ∧ i < l.length := by
  rw [← hq] at hc ⊢
  unfold idx at hc ⊢
  split
  ·rename_i hm
   exact ⟨_, rfl, List.idxOf_lt_length_of_mem hm⟩
  ·rename_i hm
   rw [if_neg hm] at hc; omega
 obtain ⟨i, e, hi⟩ := hi
 rw [e, w64_id (x := (i : Int) + 1) (by omega) (by omega)]
 refine TA.optS ⟨_, delete_ok l i hi⟩ fun q2 hq2 => ?_
 rw [delete_ok l i hi] at hq2
 injection hq2 with hq2
 exact TA.bindT (queue_put_f_t C hk _ _ (by rw [← hq2, List.length_eraseIdx]; split <;> omega)) fun _ => TA.bindT (lay_Put_f_t C _ _ _) fun _ => trivial
theorem untyped_Retype_l2_t (a : Int) : ∀ (m k : Nat) (i : Int), 0 ≤ i → i + m = 8 → m < k → TA W (untyped_Retype.l2 a k i) (fun _ => True) := by
 intro m
 induction m with
 | zero =>
  intro k i h0 h1 hk
  obtain ⟨k, rfl⟩ : ∃ q, k = q + 1 := ⟨k - 1, by omega⟩
  unfold untyped_Retype.l2
  rw [decide_eq_false (by omega)]; trivial
 | succ m ih =>
  intro k i h0 h1 hk
  obtain ⟨k, rfl⟩ : ∃ q, k = q + 1 := ⟨k - 1, by omega⟩
  unfold untyped_Retype.l2
  refine TA.cond (fun _ => TA.bindT (lay_Put_f_t C _ _ _) fun _ => ?_) fun _ => trivial
  rw [w64_id (x := i + 1) (by omega) (by omega)]
  exact ih k (i + 1) (by omega) (by omega) (by omega)
omit C in
theorem bandT {a b : Int} (h0 : 0 ≤ a) (h1 : a ≤ 7) (h2 : 0 ≤ b) (h3 : b ≤ 7) : band .i64 (band .i64 a b) a = band .i64 a b :=
 all88 (P := fun a b => band .i64 (band .i64 a b) a = band .i64 a b) (by decide +kernel) h0 h1 h2 h3
omit C in
theorem band_self8 {a : Int} (h0 : 0 ≤ a) (h1 : a ≤ 7) : band .i64 a a = a := all8 (P := fun a => band .i64 a a = a) (by decide +kernel) h0 h1
theorem derive_ends_f_t {k : Nat} (hk : 1350 ≤ k) (a b : Int) : TA W (derive_ends.f k a b) (fun r => good r.1 ∧ CapMay r.1) := by
 unfold derive_ends.f
 exact TA.bind (cspace_Cap_f_t C hk _) fun c hc => TA.optS (s_d _) fun _ _ => TA.bindT (TA.cond (fun _ => TA.retT _) fun _ => TA.optS (s_d _) fun _ _ => TA.retT _) fun _ => TA.cond (fun _ => TA.ret hc) fun _ => TA.bind (cspace_Cap_f_t C hk _) fun _ _ => TA.cond (fun _ => TA.ret hc) fun _ => TA.ret hc
theorem gd_derive {c x : api_Cap} {m : Int} {e : Option Int} (hc : good c ∧ CapMay c) (h : rights_Derive.f c m = some (x, e)) (he : e.isSome = false) : good x := by
 rw [derive_ok] at h
 injection h with h; injection h with h1 h2
 unfold drv at h1 h2
 by_cases q : c.Kind ≠ 0 ∧ CapMay c ∧ 0 ≤ m ∧ m ≤ 7
 ·rw [if_pos q] at h1 h2
  by_cases q1 : c.Kind = 1
  ·rw [if_pos q1] at h2; rw [← h2] at he; cases he
  ·rw [if_neg q1] at h1
   have cr := hc.2
   have b := band_rg (a := c.Rights) (b := m) cr.2.2.1 cr.2.2.2.1 q.2.2.1 q.2.2.2
   rw [← h1]
   exact C.less c _ hc.2 hc.1 b.1 b.2 rfl rfl (bandT cr.2.2.1 cr.2.2.2.1 q.2.2.1 q.2.2.2)
 ·rw [if_neg q] at h2; rw [← h2] at he; cases he
theorem gd_mint {c x : api_Cap} {m g : Int} {e : Option Int} (hc : good c ∧ CapMay c) (h : rights_Mint.f c m g = some (x, e)) (he : e.isSome = false) : good x := by
 rw [mint_ok] at h
 injection h with h; injection h with h1 h2
 unfold mnt at h1 h2
 by_cases q : c.Kind ≠ 0 ∧ CapMay c ∧ 0 ≤ m ∧ m ≤ 7 ∧ 1 ≤ g ∧ g ≤ 65535
 ·rw [if_pos q] at h1 h2
  by_cases q1 : c.Kind ≠ 3 ∧ c.Kind ≠ 4
  ·rw [if_pos q1] at h2; rw [← h2] at he; cases he
  ·rw [if_neg q1] at h1 h2
   by_cases q2 : c.Badge ≠ 0
   ·rw [if_pos q2] at h2; rw [← h2] at he; cases he
   ·rw [if_neg q2] at h1
    have cr := hc.2
    have b := band_rg (a := c.Rights) (b := m) cr.2.2.1 cr.2.2.2.1 q.2.2.1 q.2.2.2.1
    rw [← h1]
    exact C.less c _ hc.2 hc.1 b.1 b.2 rfl rfl (bandT cr.2.2.1 cr.2.2.2.1 q.2.2.1 q.2.2.2.1)
 ·rw [if_neg q] at h2; rw [← h2] at he; cases he
theorem gd_mutate {c x : api_Cap} {m g : Int} {e : Option Int} (hc : good c ∧ CapMay c) (h : rights_Mutate.f c m g = some (x, e)) (he : e.isSome = false) : good x := by
 obtain ⟨y, n, h1, _, _, h3⟩ := mutate_ok 0 c m g
 rw [h] at h1
 injection h1 with h1; injection h1 with h1 h2
 by_cases z : n = 0
 ·have cr := hc.2
  rw [h1, (h3 z).2.1]
  exact C.less c _ hc.2 hc.1 cr.2.2.1 cr.2.2.2.1 rfl rfl (band_self8 cr.2.2.1 cr.2.2.2.1)
 ·rw [h2] at he
  unfold eOf at he; rw [if_neg z] at he; cases he
omit C in
theorem cost_bits {kind bits : Int} (h : 0 ≤ costOf kind bits) : 0 ≤ bits ∧ (kind = 2 → bits ≤ 5) := by
 unfold costOf at h
 split at h
 ·split at h
  ·omega
  ·split at h
   ·omega
   ·split at h <;> omega
 ·omega
end
section
variable {W : Int → Int → Prop} {good : api_Cap → Prop} (C : WC W good)
include C
set_option maxHeartbeats 4000000 in
theorem endp_on_f_t (a1 : Int) (a2 : Int) : TA W (endp_on.f a1 a2) (fun _ => True) := by
 unfold endp_on.f
 repeat' (first | with_reducible exact TA.retT _ | with_reducible exact (lay_Field_f_t C ..).top | with_reducible exact (lay_Put_f_t C ..).top | with_reducible refine TA.bindT ?_ fun x => ?_ | with_reducible refine TA.cond (fun hc => ?_) (fun hc => ?_) | with_reducible refine TA.go (fun x => ?_) (fun x => ?_) | with_reducible refine TA.rd fun x _ => ?_ | split)
set_option maxHeartbeats 4000000 in
theorem endp_Wake_f_t (a1 : Int) (a2 : Int) (a3 : Int) : TA W (endp_Wake.f a1 a2 a3) (fun _ => True) := by
 unfold endp_Wake.f
 repeat' (first | with_reducible exact TA.retT _ | with_reducible exact (lay_Put_f_t C ..).top | with_reducible exact (endp_on_f_t C ..).top | with_reducible refine TA.bindT ?_ fun x => ?_ | with_reducible refine TA.cond (fun hc => ?_) (fun hc => ?_) | with_reducible refine TA.go (fun x => ?_) (fun x => ?_) | with_reducible refine TA.rd fun x _ => ?_ | split)
set_option maxHeartbeats 4000000 in
theorem endp_Answer_f_t (a1 : Int) (a2 : Int) : TA W (endp_Answer.f a1 a2) (fun _ => True) := by
 unfold endp_Answer.f
 repeat' (first | with_reducible exact TA.retT _ | with_reducible exact (lay_Ref_f_t C ..).top | with_reducible exact (lay_Put_f_t C ..).top | with_reducible exact (endp_Wake_f_t C ..).top | with_reducible refine TA.optS (s_e ..) fun x hx => ?_ | with_reducible refine TA.bindT ?_ fun x => ?_ | with_reducible refine TA.cond (fun hc => ?_) (fun hc => ?_) | with_reducible refine TA.go (fun x => ?_) (fun x => ?_) | with_reducible refine TA.rd fun x _ => ?_ | split)
set_option maxHeartbeats 4000000 in
theorem invoke_doer_find_f_t {k : Nat} (hk : 1450 ≤ k) (a0 : invoke_doer) (a1 : Int) : TA W (invoke_doer_find.f k a0 a1) (fun _ => True) := by
 unfold invoke_doer_find.f
 repeat' (first | with_reducible exact TA.retT _ | with_reducible exact (tcb_Root_f_t C (k := k) (by omega) ..).top | with_reducible exact (cspace_Lookup_f_t C (k := k) (by omega) ..).top | with_reducible refine TA.bindT ?_ fun x => ?_ | with_reducible refine TA.cond (fun hc => ?_) (fun hc => ?_) | with_reducible refine TA.go (fun x => ?_) (fun x => ?_) | with_reducible refine TA.rd fun x _ => ?_ | split)
set_option maxHeartbeats 4000000 in
theorem invoke_doer_other_f_t {k : Nat} (hk : 1450 ≤ k) (a0 : invoke_doer) (a1 : Int) (a2 : Int) : TA W (invoke_doer_other.f k a0 a1 a2) (fun _ => True) := by
 unfold invoke_doer_other.f
 repeat' (first | with_reducible exact TA.retT _ | with_reducible exact (invoke_doer_find_f_t C (k := k) hk ..).top | with_reducible exact (cspace_Cap_f_t C (k := k) (by omega) ..).top | with_reducible refine TA.optS (s_is ..) fun x hx => ?_ | with_reducible refine TA.bindT ?_ fun x => ?_ | with_reducible refine TA.cond (fun hc => ?_) (fun hc => ?_) | with_reducible refine TA.go (fun x => ?_) (fun x => ?_) | with_reducible refine TA.rd fun x _ => ?_ | split)
set_option maxHeartbeats 4000000 in
theorem irq_Ack_f_t (a1 : Int) : TA W (irq_Ack.f a1) (fun _ => True) := by
 unfold irq_Ack.f
 repeat' (first | with_reducible exact TA.retT _ | with_reducible exact (lay_Is_f_t C ..).top | with_reducible exact (lay_Field_f_t C ..).top | with_reducible exact (lay_Put_f_t C ..).top | with_reducible refine TA.bindT ?_ fun x => ?_ | with_reducible refine TA.cond (fun hc => ?_) (fun hc => ?_) | with_reducible refine TA.go (fun x => ?_) (fun x => ?_) | with_reducible refine TA.rd fun x _ => ?_ | split)
set_option maxHeartbeats 4000000 in
theorem irq_Bind_f_t (a1 : Int) (a2 : Int) (a3 : Int) : TA W (irq_Bind.f a1 a2 a3) (fun _ => True) := by
 unfold irq_Bind.f
 repeat' (first | with_reducible exact TA.retT _ | with_reducible exact (lay_Is_f_t C ..).top | with_reducible exact (lay_Put_f_t C ..).top | with_reducible refine TA.bindT ?_ fun x => ?_ | with_reducible refine TA.cond (fun hc => ?_) (fun hc => ?_) | with_reducible refine TA.go (fun x => ?_) (fun x => ?_) | with_reducible refine TA.rd fun x _ => ?_ | split)
set_option maxHeartbeats 4000000 in
theorem space_Page_f_t (a1 : Int) (a2 : Int) : TA W (space_Page.f a1 a2) (fun _ => True) := by
 unfold space_Page.f
 repeat' (first | with_reducible exact TA.retT _ | with_reducible exact (lay_Is_f_t C ..).top | with_reducible exact (lay_Field_f_t C ..).top | with_reducible refine TA.optS (s_sin ..) fun x hx => ?_ | with_reducible refine TA.optS (s_sat ..) fun x hx => ?_ | with_reducible refine TA.bindT ?_ fun x => ?_ | with_reducible refine TA.cond (fun hc => ?_) (fun hc => ?_) | with_reducible refine TA.go (fun x => ?_) (fun x => ?_) | with_reducible refine TA.rd fun x _ => ?_ | split)
set_option maxHeartbeats 4000000 in
theorem space_Map_f_t (a1 : Int) (a2 : Int) (a3 : Int) (a4 : Int) : TA W (space_Map.f a1 a2 a3 a4) (fun _ => True) := by
 unfold space_Map.f
 repeat' (first | with_reducible exact TA.retT _ | with_reducible exact (lay_Ref_f_t C ..).top | with_reducible exact (space_Page_f_t C ..).top | with_reducible exact (lay_Is_f_t C ..).top | with_reducible exact (lay_Put_f_t C ..).top | with_reducible refine TA.optS (s_sin ..) fun x hx => ?_ | with_reducible refine TA.optS (s_sat ..) fun x hx => ?_ | with_reducible refine TA.bindT ?_ fun x => ?_ | with_reducible refine TA.cond (fun hc => ?_) (fun hc => ?_) | with_reducible refine TA.go (fun x => ?_) (fun x => ?_) | with_reducible refine TA.rd fun x _ => ?_ | split)
set_option maxHeartbeats 4000000 in
theorem space_Unmap_f_t (a1 : Int) : TA W (space_Unmap.f a1) (fun _ => True) := by
 unfold space_Unmap.f
 repeat' (first | with_reducible exact TA.retT _ | with_reducible exact (lay_Is_f_t C ..).top | with_reducible exact (lay_Ref_f_t C ..).top | with_reducible exact (lay_Field_f_t C ..).top | with_reducible exact (space_Page_f_t C ..).top | with_reducible exact (lay_Put_f_t C ..).top | with_reducible refine TA.optS (s_sat ..) fun x hx => ?_ | with_reducible refine TA.bindT ?_ fun x => ?_ | with_reducible refine TA.cond (fun hc => ?_) (fun hc => ?_) | with_reducible refine TA.go (fun x => ?_) (fun x => ?_) | with_reducible refine TA.rd fun x _ => ?_ | split)
set_option maxHeartbeats 4000000 in
theorem invoke_doer_device_f_t {k : Nat} (hk : 1450 ≤ k) (a0 : invoke_doer) : TA W (invoke_doer_device.f k a0) (fun _ => True) := by
 unfold invoke_doer_device.f
 repeat' (first | with_reducible exact TA.retT _ | with_reducible exact (invoke_doer_other_f_t C (k := k) hk ..).top | with_reducible exact (space_Map_f_t C ..).top | with_reducible exact (space_Unmap_f_t C ..).top | with_reducible exact (irq_Bind_f_t C ..).top | with_reducible exact (irq_Ack_f_t C ..).top | with_reducible refine TA.optS (s_is ..) fun x hx => ?_ | with_reducible refine TA.optS (s_signed ..) fun x hx => ?_ | with_reducible refine TA.bindT ?_ fun x => ?_ | with_reducible refine TA.cond (fun hc => ?_) (fun hc => ?_) | with_reducible refine TA.go (fun x => ?_) (fun x => ?_) | with_reducible refine TA.rd fun x _ => ?_ | split)
set_option maxHeartbeats 4000000 in
theorem queue_Push_f_t (a1 : Int) (a2 : Int) : TA W (queue_Push.f a1 a2) (fun _ => True) := by
 unfold queue_Push.f
 repeat' (first | with_reducible exact TA.retT _ | with_reducible exact (lay_Put_f_t C ..).top | with_reducible exact (lay_Ref_f_t C ..).top | with_reducible refine TA.optS (s_q ..) fun x hx => ?_ | with_reducible refine TA.bindT ?_ fun x => ?_ | with_reducible refine TA.cond (fun hc => ?_) (fun hc => ?_) | with_reducible refine TA.go (fun x => ?_) (fun x => ?_) | with_reducible refine TA.rd fun x _ => ?_ | split)
set_option maxHeartbeats 4000000 in
theorem endp_Block_f_t (a1 : Int) (a2 : Int) (a3 : Int) : TA W (endp_Block.f a1 a2 a3) (fun _ => True) := by
 unfold endp_Block.f
 repeat' (first | with_reducible exact TA.retT _ | with_reducible exact (queue_Push_f_t C ..).top | with_reducible exact (lay_Put_f_t C ..).top | with_reducible exact (endp_on_f_t C ..).top | with_reducible refine TA.bindT ?_ fun x => ?_ | with_reducible refine TA.cond (fun hc => ?_) (fun hc => ?_) | with_reducible refine TA.go (fun x => ?_) (fun x => ?_) | with_reducible refine TA.rd fun x _ => ?_ | split)
set_option maxHeartbeats 4000000 in
theorem endp_State_f_t (a1 : Int) : TA W (endp_State.f a1) (fun _ => True) := by
 unfold endp_State.f
 repeat' (first | with_reducible exact TA.retT _ | with_reducible exact (lay_Field_f_t C ..).top | with_reducible refine TA.bindT ?_ fun x => ?_ | with_reducible refine TA.cond (fun hc => ?_) (fun hc => ?_) | with_reducible refine TA.go (fun x => ?_) (fun x => ?_) | with_reducible refine TA.rd fun x _ => ?_ | split)
set_option maxHeartbeats 4000000 in
theorem endp_owe_f_t (a1 : Int) (a2 : Int) : TA W (endp_owe.f a1 a2) (fun _ => True) := by
 unfold endp_owe.f
 repeat' (first | with_reducible exact TA.retT _ | with_reducible exact (lay_Put_f_t C ..).top | with_reducible exact (endp_on_f_t C ..).top | with_reducible refine TA.bindT ?_ fun x => ?_ | with_reducible refine TA.cond (fun hc => ?_) (fun hc => ?_) | with_reducible refine TA.go (fun x => ?_) (fun x => ?_) | with_reducible refine TA.rd fun x _ => ?_ | split)
set_option maxHeartbeats 4000000 in
theorem endp_rest_f_t {k : Nat} (hk : 1450 ≤ k) (a1 : Int) : TA W (endp_rest.f k a1) (fun _ => True) := by
 unfold endp_rest.f
 repeat' (first | with_reducible exact TA.retT _ | with_reducible exact (queue_List_f_t C (k := k) (by omega) ..).top | with_reducible exact (lay_Put_f_t C ..).top | with_reducible refine TA.bindT ?_ fun x => ?_ | with_reducible refine TA.cond (fun hc => ?_) (fun hc => ?_) | with_reducible refine TA.go (fun x => ?_) (fun x => ?_) | with_reducible refine TA.rd fun x _ => ?_ | split)
set_option maxHeartbeats 4000000 in
theorem queue_Pop_f_t (a1 : Int) : TA W (queue_Pop.f a1) (fun _ => True) := by
 unfold queue_Pop.f
 repeat' (first | with_reducible exact TA.retT _ | with_reducible exact (lay_Ref_f_t C ..).top | with_reducible exact (lay_Field_f_t C ..).top | with_reducible exact (lay_Put_f_t C ..).top | with_reducible refine TA.bindT ?_ fun x => ?_ | with_reducible refine TA.cond (fun hc => ?_) (fun hc => ?_) | with_reducible refine TA.go (fun x => ?_) (fun x => ?_) | with_reducible refine TA.rd fun x _ => ?_ | split)
set_option maxHeartbeats 4000000 in
theorem endp_Recv_f_t {k : Nat} (hk : 1450 ≤ k) (a1 : Int) (a2 : Int) : TA W (endp_Recv.f k a1 a2) (fun _ => True) := by
 unfold endp_Recv.f
 repeat' (first | with_reducible exact TA.retT _ | with_reducible exact (lay_Ref_f_t C ..).top | with_reducible exact (lay_Field_f_t C ..).top | with_reducible exact (queue_Pop_f_t C ..).top | with_reducible exact (endp_State_f_t C ..).top | with_reducible exact (endp_owe_f_t C ..).top | with_reducible exact (endp_Wake_f_t C ..).top | with_reducible exact (endp_rest_f_t C (k := k) hk ..).top | with_reducible exact (endp_Block_f_t C ..).top | with_reducible exact (lay_Put_f_t C ..).top | with_reducible refine TA.optS (s_e ..) fun x hx => ?_ | with_reducible refine TA.bindT ?_ fun x => ?_ | with_reducible refine TA.cond (fun hc => ?_) (fun hc => ?_) | with_reducible refine TA.go (fun x => ?_) (fun x => ?_) | with_reducible refine TA.rd fun x _ => ?_ | split)
set_option maxHeartbeats 4000000 in
theorem endp_Send_f_t {k : Nat} (hk : 1450 ≤ k) (a1 : Int) (a2 : Int) (a3 : Int) (a4 : Int) (a5 : Bool) : TA W (endp_Send.f k a1 a2 a3 a4 a5) (fun _ => True) := by
 unfold endp_Send.f
 repeat' (first | with_reducible exact TA.retT _ | with_reducible exact (lay_Field_f_t C ..).top | with_reducible exact (queue_Pop_f_t C ..).top | with_reducible exact (endp_Wake_f_t C ..).top | with_reducible exact (endp_rest_f_t C (k := k) hk ..).top | with_reducible exact (endp_owe_f_t C ..).top | with_reducible exact (endp_Block_f_t C ..).top | with_reducible exact (lay_Put_f_t C ..).top | with_reducible refine TA.optS (s_e ..) fun x hx => ?_ | with_reducible refine TA.bindT ?_ fun x => ?_ | with_reducible refine TA.cond (fun hc => ?_) (fun hc => ?_) | with_reducible refine TA.go (fun x => ?_) (fun x => ?_) | with_reducible refine TA.rd fun x _ => ?_ | split)
set_option maxHeartbeats 4000000 in
theorem ntfn_word_f_t (a1 : Int) : TA W (ntfn_word.f a1) (fun _ => True) := by
 unfold ntfn_word.f
 repeat' (first | with_reducible exact TA.retT _ | with_reducible exact (lay_Field_f_t C ..).top | with_reducible refine TA.bindT ?_ fun x => ?_ | with_reducible refine TA.cond (fun hc => ?_) (fun hc => ?_) | with_reducible refine TA.go (fun x => ?_) (fun x => ?_) | with_reducible refine TA.rd fun x _ => ?_ | split)
set_option maxHeartbeats 4000000 in
theorem ntfn_Poll_f_t (a1 : Int) : TA W (ntfn_Poll.f a1) (fun _ => True) := by
 unfold ntfn_Poll.f
 repeat' (first | with_reducible exact TA.retT _ | with_reducible exact (ntfn_word_f_t C ..).top | with_reducible exact (lay_Put_f_t C ..).top | with_reducible refine TA.optS (s_n ..) fun x hx => ?_ | with_reducible refine TA.bindT ?_ fun x => ?_ | with_reducible refine TA.cond (fun hc => ?_) (fun hc => ?_) | with_reducible refine TA.go (fun x => ?_) (fun x => ?_) | with_reducible refine TA.rd fun x _ => ?_ | split)
set_option maxHeartbeats 4000000 in
theorem ntfn_Signal_f_t (a1 : Int) (a2 : Int) : TA W (ntfn_Signal.f a1 a2) (fun _ => True) := by
 unfold ntfn_Signal.f
 repeat' (first | with_reducible exact TA.retT _ | with_reducible exact (queue_Pop_f_t C ..).top | with_reducible exact (endp_Wake_f_t C ..).top | with_reducible exact (ntfn_word_f_t C ..).top | with_reducible exact (lay_Put_f_t C ..).top | with_reducible refine TA.optS (s_n ..) fun x hx => ?_ | with_reducible refine TA.bindT ?_ fun x => ?_ | with_reducible refine TA.cond (fun hc => ?_) (fun hc => ?_) | with_reducible refine TA.go (fun x => ?_) (fun x => ?_) | with_reducible refine TA.rd fun x _ => ?_ | split)
set_option maxHeartbeats 4000000 in
theorem ntfn_Wait_f_t (a1 : Int) (a2 : Int) : TA W (ntfn_Wait.f a1 a2) (fun _ => True) := by
 unfold ntfn_Wait.f
 repeat' (first | with_reducible exact TA.retT _ | with_reducible exact (ntfn_word_f_t C ..).top | with_reducible exact (endp_Block_f_t C ..).top | with_reducible exact (ntfn_Poll_f_t C ..).top | with_reducible refine TA.optS (s_n ..) fun x hx => ?_ | with_reducible refine TA.bindT ?_ fun x => ?_ | with_reducible refine TA.cond (fun hc => ?_) (fun hc => ?_) | with_reducible refine TA.go (fun x => ?_) (fun x => ?_) | with_reducible refine TA.rd fun x _ => ?_ | split)
set_option maxHeartbeats 4000000 in
theorem invoke_doer_message_f_t {k : Nat} (hk : 1450 ≤ k) (a0 : invoke_doer) : TA W (invoke_doer_message.f k a0) (fun _ => True) := by
 unfold invoke_doer_message.f
 repeat' (first | with_reducible exact TA.retT _ | with_reducible exact (endp_Send_f_t C (k := k) hk ..).top | with_reducible exact (endp_Recv_f_t C (k := k) hk ..).top | with_reducible exact (ntfn_Signal_f_t C ..).top | with_reducible exact (ntfn_Wait_f_t C ..).top | with_reducible exact (ntfn_Poll_f_t C ..).top | with_reducible refine TA.optS (s_is ..) fun x hx => ?_ | with_reducible refine TA.optS (s_signed ..) fun x hx => ?_ | with_reducible refine TA.bindT ?_ fun x => ?_ | with_reducible refine TA.cond (fun hc => ?_) (fun hc => ?_) | with_reducible refine TA.go (fun x => ?_) (fun x => ?_) | with_reducible refine TA.rd fun x _ => ?_ | split)
set_option maxHeartbeats 4000000 in
theorem cdt_Parent_f_t (a1 : Int) : TA W (cdt_Parent.f a1) (fun _ => True) := by
 unfold cdt_Parent.f
 repeat' (first | with_reducible exact TA.retT _ | with_reducible exact (cdt_get_f_t C ..).top | with_reducible refine TA.bindT ?_ fun x => ?_ | with_reducible refine TA.cond (fun hc => ?_) (fun hc => ?_) | with_reducible refine TA.go (fun x => ?_) (fun x => ?_) | with_reducible refine TA.rd fun x _ => ?_ | split)
set_option maxHeartbeats 4000000 in
theorem cdt_Link_f_t (a1 : Int) (a2 : Int) : TA W (cdt_Link.f a1 a2) (fun _ => True) := by
 unfold cdt_Link.f
 repeat' (first | with_reducible exact TA.retT _ | with_reducible exact (cdt_Parent_f_t C ..).top | with_reducible exact (cdt_get_f_t C ..).top | with_reducible exact cdt_put_f_t C _ _ _ (by decide) | with_reducible refine TA.optS (s_c ..) fun x hx => ?_ | with_reducible refine TA.bindT ?_ fun x => ?_ | with_reducible refine TA.cond (fun hc => ?_) (fun hc => ?_) | with_reducible refine TA.go (fun x => ?_) (fun x => ?_) | with_reducible refine TA.rd fun x _ => ?_ | split)
theorem derive_below_f_t {k : Nat} (hk : 1450 ≤ k) (a1 : Int) (a2 : Int) (a3 : api_Cap) (gd : good a3) : TA W (derive_below.f k a1 a2 a3) (fun _ => True) := by
 unfold derive_below.f
 exact TA.bindT (cdt_Link_f_t C _ _) fun _ => TA.cond (fun _ => TA.retT _) fun _ => TA.bindT (cspace_Set_f_t C (by omega) _ _ gd) fun _ => TA.retT _
theorem derive_Copy_f_t {k : Nat} (hk : 1450 ≤ k) (a1 : Int) (a2 : Int) (a3 : Int) : TA W (derive_Copy.f k a1 a2 a3) (fun _ => True) := by
 unfold derive_Copy.f
 refine TA.bind (derive_ends_f_t C (by omega) _ _) fun r hr => ?_
 obtain ⟨t1, t2⟩ := r
 refine TA.cond (fun _ => TA.retT _) fun _ => TA.optS (s_der _ _) fun x hx => ?_
 obtain ⟨t7, t8⟩ := x
 exact TA.cond (fun _ => TA.retT _) fun he => TA.bindT (derive_below_f_t C hk _ _ _ (gd_derive C hr hx he)) fun _ => TA.retT _
set_option maxHeartbeats 4000000 in
theorem cdt_beside_f_t (a1 : Int) (a2 : Int) (a3 : Int) : TA W (cdt_beside.f a1 a2 a3) (fun _ => True) := by
 unfold cdt_beside.f
 repeat' (first | with_reducible exact TA.retT _ | with_reducible exact (cdt_get_f_t C ..).top | with_reducible exact cdt_put_f_t C _ _ _ (by decide) | with_reducible exact (cdt_Parent_f_t C ..).top | with_reducible refine TA.bindT ?_ fun x => ?_ | with_reducible refine TA.cond (fun hc => ?_) (fun hc => ?_) | with_reducible refine TA.go (fun x => ?_) (fun x => ?_) | with_reducible refine TA.rd fun x _ => ?_ | split)
set_option maxHeartbeats 4000000 in
theorem cdt_clear_f_t (a1 : Int) : TA W (cdt_clear.f a1) (fun _ => True) := by
 unfold cdt_clear.f
 repeat' (first | with_reducible exact TA.retT _ | with_reducible exact cdt_put_f_t C _ _ _ (by decide) | with_reducible refine TA.bindT ?_ fun x => ?_ | with_reducible refine TA.cond (fun hc => ?_) (fun hc => ?_) | with_reducible refine TA.go (fun x => ?_) (fun x => ?_) | with_reducible refine TA.rd fun x _ => ?_ | split)
set_option maxHeartbeats 4000000 in
theorem cdt_Unlink_f_t (a1 : Int) : TA W (cdt_Unlink.f a1) (fun _ => True) := by
 unfold cdt_Unlink.f
 repeat' (first | with_reducible exact TA.retT _ | with_reducible exact (cdt_Parent_f_t C ..).top | with_reducible exact (cdt_get_f_t C ..).top | with_reducible exact (cdt_beside_f_t C ..).top | with_reducible exact (cdt_clear_f_t C ..).top | with_reducible refine TA.optS (s_c ..) fun x hx => ?_ | with_reducible refine TA.bindT ?_ fun x => ?_ | with_reducible refine TA.cond (fun hc => ?_) (fun hc => ?_) | with_reducible refine TA.go (fun x => ?_) (fun x => ?_) | with_reducible refine TA.rd fun x _ => ?_ | split)
theorem derive_Delete_f_t {k : Nat} (hk : 1450 ≤ k) (a1 : Int) : TA W (derive_Delete.f k a1) (fun _ => True) := by
 unfold derive_Delete.f
 exact TA.optS (s_d _) fun _ _ => TA.cond (fun _ => TA.retT _) fun _ => TA.bind (cdt_Kids_f_t C (by omega) _) fun l _ => TA.cond (fun _ => TA.retT _) fun _ => TA.bindT (cdt_Unlink_f_t C _) fun _ => TA.cond (fun _ => TA.retT _) fun _ => TA.bindT (cspace_Set_f_t C (by omega) _ _ (C.nul _ rfl)) fun _ => TA.retT _
theorem derive_Mint_f_t {k : Nat} (hk : 1450 ≤ k) (a1 : Int) (a2 : Int) (a3 : Int) (a4 : Int) : TA W (derive_Mint.f k a1 a2 a3 a4) (fun _ => True) := by
 unfold derive_Mint.f
 refine TA.bind (derive_ends_f_t C (by omega) _ _) fun r hr => ?_
 obtain ⟨t1, t2⟩ := r
 refine TA.cond (fun _ => TA.retT _) fun _ => TA.optS (s_mint _ _ _) fun x hx => ?_
 obtain ⟨t7, t8⟩ := x
 exact TA.cond (fun _ => TA.retT _) fun he => TA.bindT (derive_below_f_t C hk _ _ _ (gd_mint C hr hx he)) fun _ => TA.retT _
theorem cdt_Replace_f_t {k : Nat} (hk : 1450 ≤ k) (a1 : Int) (a2 : Int) : TA W (cdt_Replace.f k a1 a2) (fun _ => True) := by
 unfold cdt_Replace.f
 refine TA.optS (s_c _) fun b _ => TA.bindT (TA.cond (fun _ => TA.retT _) fun _ => TA.optS (s_c _) fun _ _ => TA.retT _) fun b => TA.cond (fun _ => TA.retT _) fun _ => TA.bindT (TA.cond (fun _ => TA.retT _) fun _ => TA.bindT (cdt_Parent_f_t C _) fun _ => TA.retT _) fun b => TA.bindT (TA.cond (fun _ => TA.retT _) fun _ => TA.bindT (cdt_get_f_t C _ _) fun _ => TA.retT _) fun b => TA.cond (fun _ => TA.retT _) fun _ => TA.bindT (cdt_Parent_f_t C _) fun p => TA.bindT ?_ fun _ => TA.bind (cdt_Kids_f_t C (by omega) _) fun l hl => TA.bindT (cdt_Replace_l2_t C _ l hl l.length k 0 (by decide) (by omega) (by omega)) fun _ => ?_
 ·repeat' (first | with_reducible exact TA.retT _ | with_reducible exact (cdt_get_f_t C ..).top | with_reducible exact (cdt_Parent_f_t C ..).top | with_reducible exact cdt_put_f_t C _ _ _ (by decide) | with_reducible exact cdt_beside_f_t C .. | with_reducible exact cdt_clear_f_t C .. | with_reducible refine TA.bindT ?_ fun x => ?_ | with_reducible refine TA.cond (fun hc => ?_) (fun hc => ?_))
 ·repeat' (first | with_reducible exact TA.retT _ | with_reducible exact (cdt_get_f_t C ..).top | with_reducible exact (cdt_Parent_f_t C ..).top | with_reducible exact cdt_put_f_t C _ _ _ (by decide) | with_reducible exact cdt_beside_f_t C .. | with_reducible exact cdt_clear_f_t C .. | with_reducible refine TA.bindT ?_ fun x => ?_ | with_reducible refine TA.cond (fun hc => ?_) (fun hc => ?_))
theorem derive_turn_f_t {k : Nat} (hk : 1450 ≤ k) (a1 : Int) (a2 : Int) (a3 : api_Cap) (gd : good a3) : TA W (derive_turn.f k a1 a2 a3) (fun _ => True) := by
 unfold derive_turn.f
 exact TA.bindT (cdt_Replace_f_t C hk _ _) fun _ => TA.cond (fun _ => TA.retT _) fun _ => TA.bindT (cspace_Set_f_t C (by omega) _ _ gd) fun _ => TA.cond (fun _ => TA.retT _) fun _ => TA.bindT (cspace_Set_f_t C (by omega) _ _ (C.nul _ rfl)) fun _ => TA.retT _
theorem derive_Move_f_t {k : Nat} (hk : 1450 ≤ k) (a1 : Int) (a2 : Int) : TA W (derive_Move.f k a1 a2) (fun _ => True) := by
 unfold derive_Move.f
 refine TA.bind (derive_ends_f_t C (by omega) _ _) fun r hr => ?_
 obtain ⟨t1, t2⟩ := r
 exact TA.cond (fun _ => TA.retT _) fun _ => TA.bindT (derive_turn_f_t C hk _ _ _ hr.1) fun _ => TA.retT _
theorem derive_Mutate_f_t {k : Nat} (hk : 1450 ≤ k) (a1 : Int) (a2 : Int) (a3 : Int) (a4 : Int) : TA W (derive_Mutate.f k a1 a2 a3 a4) (fun _ => True) := by
 unfold derive_Mutate.f
 refine TA.bind (derive_ends_f_t C (by omega) _ _) fun r hr => ?_
 obtain ⟨t1, t2⟩ := r
 refine TA.cond (fun _ => TA.retT _) fun _ => TA.optS (s_mut _ _ _) fun x hx => ?_
 obtain ⟨t7, t8⟩ := x
 exact TA.cond (fun _ => TA.retT _) fun he => TA.bindT (derive_turn_f_t C hk _ _ _ (gd_mutate C hr hx he)) fun _ => TA.retT _
set_option maxHeartbeats 4000000 in
theorem derive_One_f_t {k : Nat} (hk : 1450 ≤ k) (a1 : Int) : TA W (derive_One.f k a1) (fun _ => True) := by
 unfold derive_One.f
 repeat' (first | with_reducible exact TA.retT _ | with_reducible exact (cdt_Kids_f_t C (k := k) (by omega) ..).top | with_reducible exact (cdt_Leaf_f_t C (k := k) (by omega) ..).top | with_reducible exact (derive_Delete_f_t C (k := k) hk ..).top | with_reducible refine TA.optS (s_d ..) fun x hx => ?_ | with_reducible refine TA.bindT ?_ fun x => ?_ | with_reducible refine TA.cond (fun hc => ?_) (fun hc => ?_) | with_reducible refine TA.go (fun x => ?_) (fun x => ?_) | with_reducible refine TA.rd fun x _ => ?_ | split)
set_option maxHeartbeats 4000000 in
theorem untyped_Left_f_t (a1 : Int) : TA W (untyped_Left.f a1) (fun _ => True) := by
 unfold untyped_Left.f
 repeat' (first | with_reducible exact TA.retT _ | with_reducible exact (lay_Is_f_t C ..).top | with_reducible exact (lay_Field_f_t C ..).top | with_reducible refine TA.bindT ?_ fun x => ?_ | with_reducible refine TA.cond (fun hc => ?_) (fun hc => ?_) | with_reducible refine TA.go (fun x => ?_) (fun x => ?_) | with_reducible refine TA.rd fun x _ => ?_ | split)
theorem untyped_may_f_t {k : Nat} (hk : 1450 ≤ k) (a1 : Int) (a2 : Int) (a3 : Int) (a4 : Int) : TA W (untyped_may.f k a1 a2 a3 a4) (fun r => r.2 = none → 0 ≤ costOf a3 a4) := by
 unfold untyped_may.f
 refine TA.optS (s_slot _ _) fun x _ => ?_
 obtain ⟨t1, t2⟩ := x
 refine TA.optS (s_slot _ _) fun x _ => ?_
 obtain ⟨t4, t5⟩ := x
 refine TA.bindT (cspace_Cap_f_t C (by omega) _).top fun t7 => TA.optS (s_cost _ _) fun x hx => ?_
 obtain ⟨t11, t12⟩ := x
 have bad : ∀ (n e : Int), (fun r : Int × Option Int => r.2 = none → 0 ≤ costOf a3 a4) (n, some e) := fun n e z => by cases z
 refine TA.cond (fun _ => TA.ret (bad _ _)) fun _ => TA.bindT (TA.cond (fun _ => TA.retT _) fun _ => TA.bindT (lay_Is_f_t C _ _) fun _ => TA.retT _) fun b => TA.cond (fun _ => TA.ret (bad _ _)) fun _ => TA.optS (s_has _ _) fun h _ => TA.cond (fun _ => TA.ret (bad _ _)) fun _ => TA.bindT (cspace_Cap_f_t C (by omega) _).top fun t27 => TA.bindT (TA.cond (fun _ => TA.retT _) fun _ => TA.bindT (cdt_Parent_f_t C _) fun _ => TA.retT _) fun b => TA.cond (fun _ => TA.ret (bad _ _)) fun _ => TA.cond (fun _ => TA.ret (bad _ _)) fun hc => TA.bindT (untyped_Left_f_t C _) fun t39 => TA.cond (fun _ => TA.ret (bad _ _)) fun _ => TA.ret fun _ => ?_
 rw [ucost_ok] at hx
 injection hx with hx
 injection hx with _ hx
 have hc : t12 = true := by simpa using hc
 rw [hc] at hx
 exact of_decide_eq_true hx
theorem untyped_Retype_f_t {k : Nat} (hk : 1450 ≤ k) (a1 : Int) (a2 : Int) (a3 : Int) (a4 : Int) : TA W (untyped_Retype.f k a1 a2 a3 a4) (fun _ => True) := by
 unfold untyped_Retype.f
 refine TA.bind (untyped_may_f_t C hk _ _ _ _) fun r hr => ?_
 obtain ⟨t1, t2⟩ := r
 refine TA.cond (fun _ => TA.retT _) fun hc => ?_
 obtain ⟨h4, h5⟩ := cost_bits (hr (by cases t2 with | none => rfl | some e => cases hc))
 have ck : ∃ x, chk (decide (0 ≤ a4)) = some x := ⟨(), by unfold chk; rw [decide_eq_true h4]; rfl⟩
 refine TA.bind (R := fun j => 0 ≤ j ∧ j ≤ 4611686018427387904) (TA.cond (fun h2 => TA.optS ck fun _ _ => TA.ret ?_) fun _ => TA.ret (by decide)) fun j hj => TA.bind (lay_Take_f_t C _ _ hj) fun q hq => ?_
 ·have := two5 h4 (h5 (by simpa using h2))
  omega
 obtain ⟨t8, t9, t10⟩ := q
 refine TA.cond (fun _ => TA.retT _) fun hn => TA.bindT (cspace_Cap_f_t C (by omega) _).top fun t14 => TA.bind (lay_Field_f_t C _ _) fun t17 _ => TA.bindT (lay_Put_f_t C _ _ _) fun _ => TA.bindT (untyped_Retype_l2_t C t9 8 k 0 (by decide) (by decide) (by omega)) fun _ => TA.bindT (lay_Put_f_t C _ _ _) fun _ => TA.bindT (TA.cond (fun _ => TA.optS ck fun _ _ => TA.bindT (lay_Put_f_t C _ _ _) fun _ => TA.retT _) fun _ => TA.cond (fun _ => TA.bindT (lay_Put_f_t C _ _ _) fun _ => TA.bindT (lay_Put_f_t C _ _ _) fun _ => TA.retT _) fun _ => TA.retT _) fun _ => TA.bindT (cdt_Link_f_t C _ _) fun t36 => TA.cond (fun _ => TA.retT _) fun _ => TA.bindT (cspace_Set_f_t C (by omega) _ _ (hq (by cases t10 with | none => rfl | some e => cases hn) _ rfl)) fun _ => TA.retT _
set_option maxHeartbeats 4000000 in
theorem invoke_doer_slots_f_t {k : Nat} (hk : 1450 ≤ k) (a0 : invoke_doer) : TA W (invoke_doer_slots.f k a0) (fun _ => True) := by
 unfold invoke_doer_slots.f
 repeat' (first | with_reducible exact TA.retT _ | with_reducible exact (derive_Delete_f_t C (k := k) hk ..).top | with_reducible exact (derive_One_f_t C (k := k) hk ..).top | with_reducible exact (invoke_doer_find_f_t C (k := k) hk ..).top | with_reducible exact (derive_Copy_f_t C (k := k) hk ..).top | with_reducible exact (derive_Mint_f_t C (k := k) hk ..).top | with_reducible exact (derive_Move_f_t C (k := k) hk ..).top | with_reducible exact (derive_Mutate_f_t C (k := k) hk ..).top | with_reducible exact (untyped_Retype_f_t C (k := k) hk ..).top | with_reducible refine TA.optS (s_is ..) fun x hx => ?_ | with_reducible refine TA.bindT ?_ fun x => ?_ | with_reducible refine TA.cond (fun hc => ?_) (fun hc => ?_) | with_reducible refine TA.go (fun x => ?_) (fun x => ?_) | with_reducible refine TA.rd fun x _ => ?_ | split)
set_option maxHeartbeats 4000000 in
theorem tcb_Prio_f_t (a1 : Int) (a2 : Int) : TA W (tcb_Prio.f a1 a2) (fun _ => True) := by
 unfold tcb_Prio.f
 repeat' (first | with_reducible exact TA.retT _ | with_reducible exact (lay_Is_f_t C ..).top | with_reducible exact (lay_Field_f_t C ..).top | with_reducible exact (lay_Put_f_t C ..).top | with_reducible refine TA.bindT ?_ fun x => ?_ | with_reducible refine TA.cond (fun hc => ?_) (fun hc => ?_) | with_reducible refine TA.go (fun x => ?_) (fun x => ?_) | with_reducible refine TA.rd fun x _ => ?_ | split)
set_option maxHeartbeats 4000000 in
theorem tcb_Resume_f_t (a1 : Int) : TA W (tcb_Resume.f a1) (fun _ => True) := by
 unfold tcb_Resume.f
 repeat' (first | with_reducible exact TA.retT _ | with_reducible exact (lay_Is_f_t C ..).top | with_reducible exact (endp_State_f_t C ..).top | with_reducible exact (endp_Wake_f_t C ..).top | with_reducible refine TA.bindT ?_ fun x => ?_ | with_reducible refine TA.cond (fun hc => ?_) (fun hc => ?_) | with_reducible refine TA.go (fun x => ?_) (fun x => ?_) | with_reducible refine TA.rd fun x _ => ?_ | split)
set_option maxHeartbeats 4000000 in
theorem tcb_SetRoot_f_t {k : Nat} (hk : 1450 ≤ k) (a1 : Int) (a2 : api_Cap) : TA W (tcb_SetRoot.f k a1 a2) (fun _ => True) := by
 unfold tcb_SetRoot.f
 repeat' (first | with_reducible exact TA.retT _ | with_reducible exact (lay_Is_f_t C ..).top | with_reducible exact (cspace_Fine_f_t C ..).top | with_reducible exact (lay_Put_f_t C ..).top | with_reducible refine TA.optS (s_put' (k := k) (by omega) _) fun x hx => ?_ | with_reducible refine TA.bindT ?_ fun x => ?_ | with_reducible refine TA.cond (fun hc => ?_) (fun hc => ?_) | with_reducible refine TA.go (fun x => ?_) (fun x => ?_) | with_reducible refine TA.rd fun x _ => ?_ | split)
set_option maxHeartbeats 4000000 in
theorem endp_On_f_t (a1 : Int) : TA W (endp_On.f a1) (fun _ => True) := by
 unfold endp_On.f
 repeat' (first | with_reducible exact TA.retT _ | with_reducible exact (lay_Field_f_t C ..).top | with_reducible refine TA.bindT ?_ fun x => ?_ | with_reducible refine TA.cond (fun hc => ?_) (fun hc => ?_) | with_reducible refine TA.go (fun x => ?_) (fun x => ?_) | with_reducible refine TA.rd fun x _ => ?_ | split)
set_option maxHeartbeats 4000000 in
theorem endp_Cancel_f_t {k : Nat} (hk : 1450 ≤ k) (a1 : Int) : TA W (endp_Cancel.f k a1) (fun _ => True) := by
 unfold endp_Cancel.f
 repeat' (first | with_reducible exact TA.retT _ | with_reducible exact (endp_On_f_t C ..).top | with_reducible exact (endp_State_f_t C ..).top | with_reducible exact (lay_Ref_f_t C ..).top | with_reducible exact (lay_Put_f_t C ..).top | with_reducible exact (endp_on_f_t C ..).top | with_reducible exact (queue_Remove_f_t C (k := k) (by omega) ..).top | with_reducible exact (lay_Is_f_t C ..).top | with_reducible exact (endp_rest_f_t C (k := k) hk ..).top | with_reducible refine TA.optS (s_e ..) fun x hx => ?_ | with_reducible refine TA.bindT ?_ fun x => ?_ | with_reducible refine TA.cond (fun hc => ?_) (fun hc => ?_) | with_reducible refine TA.go (fun x => ?_) (fun x => ?_) | with_reducible refine TA.rd fun x _ => ?_ | split)
set_option maxHeartbeats 4000000 in
theorem tcb_Suspend_f_t {k : Nat} (hk : 1450 ≤ k) (a1 : Int) : TA W (tcb_Suspend.f k a1) (fun _ => True) := by
 unfold tcb_Suspend.f
 repeat' (first | with_reducible exact TA.retT _ | with_reducible exact (lay_Is_f_t C ..).top | with_reducible exact (endp_State_f_t C ..).top | with_reducible exact (endp_Cancel_f_t C (k := k) hk ..).top | with_reducible refine TA.bindT ?_ fun x => ?_ | with_reducible refine TA.cond (fun hc => ?_) (fun hc => ?_) | with_reducible refine TA.go (fun x => ?_) (fun x => ?_) | with_reducible refine TA.rd fun x _ => ?_ | split)
set_option maxHeartbeats 4000000 in
theorem invoke_doer_thread_f_t {k : Nat} (hk : 1450 ≤ k) (a0 : invoke_doer) : TA W (invoke_doer_thread.f k a0) (fun _ => True) := by
 unfold invoke_doer_thread.f
 repeat' (first | with_reducible exact TA.retT _ | with_reducible exact (tcb_Suspend_f_t C (k := k) hk ..).top | with_reducible exact (tcb_Resume_f_t C ..).top | with_reducible exact (tcb_Prio_f_t C ..).top | with_reducible exact (invoke_doer_other_f_t C (k := k) hk ..).top | with_reducible exact (tcb_SetRoot_f_t C (k := k) hk ..).top | with_reducible refine TA.optS (s_is ..) fun x hx => ?_ | with_reducible refine TA.bindT ?_ fun x => ?_ | with_reducible refine TA.cond (fun hc => ?_) (fun hc => ?_) | with_reducible refine TA.go (fun x => ?_) (fun x => ?_) | with_reducible refine TA.rd fun x _ => ?_ | split)
set_option maxHeartbeats 4000000 in
theorem invoke_doer_do_f_t {k : Nat} (hk : 1450 ≤ k) (a0 : invoke_doer) : TA W (invoke_doer_do.f k a0) (fun _ => True) := by
 unfold invoke_doer_do.f
 repeat' (first | with_reducible exact TA.retT _ | with_reducible exact (endp_Answer_f_t C ..).top | with_reducible exact (invoke_doer_find_f_t C (k := k) hk ..).top | with_reducible exact (cspace_Cap_f_t C (k := k) (by omega) ..).top | with_reducible exact (invoke_doer_message_f_t C (k := k) hk ..).top | with_reducible exact (invoke_doer_slots_f_t C (k := k) hk ..).top | with_reducible exact (invoke_doer_thread_f_t C (k := k) hk ..).top | with_reducible exact (invoke_doer_device_f_t C (k := k) hk ..).top | with_reducible refine TA.bindT ?_ fun x => ?_ | with_reducible refine TA.cond (fun hc => ?_) (fun hc => ?_) | with_reducible refine TA.go (fun x => ?_) (fun x => ?_) | with_reducible refine TA.rd fun x _ => ?_ | split)
end
theorem WIn.go {n : Nat} {α β γ : Type} {o : Brk α β} {f : α → VM γ} {g : β → VM γ} (hf : ∀ r, WIn n (f r)) (hg : ∀ b, WIn n (g b)) : WIn n (Brk.go o f g) := by
 cases o with
 | ret r => exact hf r
 | nx b => exact hg b
theorem slot_in {a b t : Int} {c : Bool} (h : lay_Slot.f a b = some (t, c)) (hc : c = true) : 0 ≤ t ∧ t < 738 := by
 subst hc
 unfold lay_Slot.f lay_in.f at h
 by_cases h1 : 0 ≤ a ∧ a < 96
 ·by_cases h2 : 0 ≤ b ∧ b < 5
  ·have e1 : w64 (a * 5) = a * 5 := w64_id (by omega) (by omega)
   have e2 : w64 (a * 5 + b) = a * 5 + b := w64_id (by omega) (by omega)
   simp [h1, h2, e1, e2] at h
   omega
  ·simp [h1] at h
   rcases Classical.em (0 ≤ b) with q | q
   ·have : ¬ b < 5 := fun z => h2 ⟨q, z⟩
    simp [q, this] at h
   ·simp [q] at h
 ·rcases Classical.em (0 ≤ a) with q | q
  ·have : ¬ a < 96 := fun z => h1 ⟨q, z⟩
   simp [q, this] at h
  ·simp [q] at h
theorem obj_in {a b t : Int} {c : Bool} (h : lay_Obj.f a b = some (t, c)) (hc : c = true) : 0 ≤ t ∧ t < 738 := by
 subst hc
 unfold lay_Obj.f lay_in.f at h
 by_cases h1 : 0 ≤ a ∧ a < 32
 ·by_cases h2 : 0 ≤ b ∧ b < 8
  ·have e1 : w64 (a * 8) = a * 8 := w64_id (by omega) (by omega)
   have e2 : w64 (480 + a * 8) = 480 + a * 8 := w64_id (by omega) (by omega)
   have e3 : w64 (480 + a * 8 + b) = 480 + a * 8 + b := w64_id (by omega) (by omega)
   simp [h1, h2, e1, e2, e3] at h
   omega
  ·simp [h1] at h
   rcases Classical.em (0 ≤ b) with q | q
   ·have : ¬ b < 8 := fun z => h2 ⟨q, z⟩
    simp [q, this] at h
   ·simp [q] at h
 ·rcases Classical.em (0 ≤ a) with q | q
  ·have : ¬ a < 32 := fun z => h1 ⟨q, z⟩
   simp [q, this] at h
  ·simp [q] at h
theorem lay_Take_f_in (a1 a2 : Int) : WIn 738 (lay_Take.f a1 a2) := by
 unfold lay_Take.f lay_Used.f
 repeat' (first | exact WIn.ret _ | refine WIn.cond (fun _ => ?_) (fun _ => ?_) | refine WIn.bind ?_ fun x => ?_ | refine WIn.rd fun x => ?_ | refine WIn.wr (by decide) (by decide) ?_)
theorem lay_Put_f_in (a1 a2 a3 : Int) : WIn 738 (lay_Put.f a1 a2 a3) := by
 unfold lay_Put.f
 refine WIn.optB fun x hx => ?_
 obtain ⟨t1, t2⟩ := x
 refine WIn.cond (fun hc => ?_) (fun _ => .ret _)
 simp only [Bool.and_eq_true] at hc
 have := obj_in hx hc.1
 exact .wr this.1 this.2 (.ret _)
theorem cdt_put_f_in (a1 a2 a3 : Int) : WIn 738 (cdt_put.f a1 a2 a3) := by
 unfold cdt_put.f
 refine WIn.optB fun x hx => ?_
 obtain ⟨t1, t2⟩ := x
 refine WIn.cond (fun hc => ?_) (fun _ => .ret _)
 have := slot_in hx hc
 exact .wr this.1 this.2 (.ret _)
theorem cspace_Set_f_in (k : Nat) (a1 : Int) (a2 : api_Cap) : WIn 738 (cspace_Set.f k a1 a2) := by
 unfold cspace_Set.f
 refine WIn.optB fun x hx => ?_
 obtain ⟨t1, t2⟩ := x
 refine WIn.cond (fun _ => .ret _) (fun hc => ?_)
 refine WIn.optB fun y _ => ?_
 obtain ⟨t6, t7⟩ := y
 refine WIn.cond (fun _ => .ret _) (fun _ => ?_)
 have := slot_in hx (by simpa using hc)
 exact .wr this.1 this.2 (.ret _)
set_option maxHeartbeats 4000000 in
theorem cspace_Cap_f_in (k : Nat) (a1 : Int) : WIn 738 (cspace_Cap.f k a1) := by
 unfold cspace_Cap.f
 repeat' (first | with_reducible exact WIn.ret _ | with_reducible exact WIn.fail | with_reducible refine WIn.optB fun x hx => ?_ | with_reducible refine WIn.bind ?_ fun x => ?_ | with_reducible refine WIn.cond (fun hc => ?_) (fun hc => ?_) | with_reducible refine WIn.go (fun x => ?_) (fun x => ?_) | with_reducible refine WIn.rd fun x => ?_ | split | with_reducible exact WIn.opt _)
set_option maxHeartbeats 4000000 in
theorem lay_Field_f_in (a1 : Int) (a2 : Int) : WIn 738 (lay_Field.f a1 a2) := by
 unfold lay_Field.f
 repeat' (first | with_reducible exact WIn.ret _ | with_reducible exact WIn.fail | with_reducible refine WIn.optB fun x hx => ?_ | with_reducible refine WIn.bind ?_ fun x => ?_ | with_reducible refine WIn.cond (fun hc => ?_) (fun hc => ?_) | with_reducible refine WIn.go (fun x => ?_) (fun x => ?_) | with_reducible refine WIn.rd fun x => ?_ | split | with_reducible exact WIn.opt _)
set_option maxHeartbeats 4000000 in
theorem endp_on_f_in (a1 : Int) (a2 : Int) : WIn 738 (endp_on.f a1 a2) := by
 unfold endp_on.f
 repeat' (first | with_reducible exact WIn.ret _ | with_reducible exact WIn.fail | with_reducible exact lay_Field_f_in .. | with_reducible exact lay_Put_f_in .. | with_reducible refine WIn.optB fun x hx => ?_ | with_reducible refine WIn.bind ?_ fun x => ?_ | with_reducible refine WIn.cond (fun hc => ?_) (fun hc => ?_) | with_reducible refine WIn.go (fun x => ?_) (fun x => ?_) | with_reducible refine WIn.rd fun x => ?_ | split | with_reducible exact WIn.opt _)
set_option maxHeartbeats 4000000 in
theorem endp_Wake_f_in (a1 : Int) (a2 : Int) (a3 : Int) : WIn 738 (endp_Wake.f a1 a2 a3) := by
 unfold endp_Wake.f
 repeat' (first | with_reducible exact WIn.ret _ | with_reducible exact WIn.fail | with_reducible exact lay_Put_f_in .. | with_reducible exact endp_on_f_in .. | with_reducible refine WIn.optB fun x hx => ?_ | with_reducible refine WIn.bind ?_ fun x => ?_ | with_reducible refine WIn.cond (fun hc => ?_) (fun hc => ?_) | with_reducible refine WIn.go (fun x => ?_) (fun x => ?_) | with_reducible refine WIn.rd fun x => ?_ | split | with_reducible exact WIn.opt _)
set_option maxHeartbeats 4000000 in
theorem lay_Ref_f_in (a1 : Int) (a2 : Int) : WIn 738 (lay_Ref.f a1 a2) := by
 unfold lay_Ref.f
 repeat' (first | with_reducible exact WIn.ret _ | with_reducible exact WIn.fail | with_reducible exact lay_Field_f_in .. | with_reducible refine WIn.optB fun x hx => ?_ | with_reducible refine WIn.bind ?_ fun x => ?_ | with_reducible refine WIn.cond (fun hc => ?_) (fun hc => ?_) | with_reducible refine WIn.go (fun x => ?_) (fun x => ?_) | with_reducible refine WIn.rd fun x => ?_ | split | with_reducible exact WIn.opt _)
set_option maxHeartbeats 4000000 in
theorem endp_Answer_f_in (a1 : Int) (a2 : Int) : WIn 738 (endp_Answer.f a1 a2) := by
 unfold endp_Answer.f
 repeat' (first | with_reducible exact WIn.ret _ | with_reducible exact WIn.fail | with_reducible exact lay_Ref_f_in .. | with_reducible exact lay_Put_f_in .. | with_reducible exact endp_Wake_f_in .. | with_reducible refine WIn.optB fun x hx => ?_ | with_reducible refine WIn.bind ?_ fun x => ?_ | with_reducible refine WIn.cond (fun hc => ?_) (fun hc => ?_) | with_reducible refine WIn.go (fun x => ?_) (fun x => ?_) | with_reducible refine WIn.rd fun x => ?_ | split | with_reducible exact WIn.opt _)
set_option maxHeartbeats 4000000 in
theorem lay_Is_f_in (a1 : Int) (a2 : Int) : WIn 738 (lay_Is.f a1 a2) := by
 unfold lay_Is.f
 repeat' (first | with_reducible exact WIn.ret _ | with_reducible exact WIn.fail | with_reducible refine WIn.optB fun x hx => ?_ | with_reducible refine WIn.bind ?_ fun x => ?_ | with_reducible refine WIn.cond (fun hc => ?_) (fun hc => ?_) | with_reducible refine WIn.go (fun x => ?_) (fun x => ?_) | with_reducible refine WIn.rd fun x => ?_ | split | with_reducible exact WIn.opt _)
set_option maxHeartbeats 4000000 in
theorem cspace_Fine_f_in (a1 : api_Cap) : WIn 738 (cspace_Fine.f a1) := by
 unfold cspace_Fine.f
 repeat' (first | with_reducible exact WIn.ret _ | with_reducible exact WIn.fail | with_reducible exact lay_Is_f_in .. | with_reducible exact lay_Field_f_in .. | with_reducible refine WIn.optB fun x hx => ?_ | with_reducible refine WIn.bind ?_ fun x => ?_ | with_reducible refine WIn.cond (fun hc => ?_) (fun hc => ?_) | with_reducible refine WIn.go (fun x => ?_) (fun x => ?_) | with_reducible refine WIn.rd fun x => ?_ | split | with_reducible exact WIn.opt _)
set_option maxHeartbeats 4000000 in
theorem cspace_Lookup_l1_in (a2 : Int) : ∀ k x, WIn 738 (cspace_Lookup.l1 a2 k x) := by
 intro k
 induction k with
 | zero => intro x; unfold cspace_Lookup.l1; exact trivial
 | succ k ih =>
  intro x
  obtain ⟨x27_1, x8_1, y1_0_1, y1_1_1, y1_2_1, y1_3_1, y1_4_1, y1_5_1⟩ := x
  unfold cspace_Lookup.l1
  repeat' (first | with_reducible exact WIn.ret _ | with_reducible exact WIn.fail | with_reducible exact ih _ | with_reducible exact lay_Field_f_in .. | with_reducible exact cspace_Cap_f_in .. | with_reducible exact cspace_Fine_f_in .. | with_reducible refine WIn.optB fun x hx => ?_ | with_reducible refine WIn.bind ?_ fun x => ?_ | with_reducible refine WIn.cond (fun hc => ?_) (fun hc => ?_) | with_reducible refine WIn.go (fun x => ?_) (fun x => ?_) | with_reducible refine WIn.rd fun x => ?_ | split | with_reducible exact WIn.opt _)
set_option maxHeartbeats 4000000 in
theorem cspace_Lookup_f_in (k : Nat) (a1 : api_Cap) (a2 : Int) : WIn 738 (cspace_Lookup.f k a1 a2) := by
 unfold cspace_Lookup.f
 repeat' (first | with_reducible exact WIn.ret _ | with_reducible exact WIn.fail | with_reducible exact cspace_Fine_f_in .. | with_reducible exact cspace_Lookup_l1_in .. | with_reducible refine WIn.optB fun x hx => ?_ | with_reducible refine WIn.bind ?_ fun x => ?_ | with_reducible refine WIn.cond (fun hc => ?_) (fun hc => ?_) | with_reducible refine WIn.go (fun x => ?_) (fun x => ?_) | with_reducible refine WIn.rd fun x => ?_ | split | with_reducible exact WIn.opt _)
set_option maxHeartbeats 4000000 in
theorem tcb_Root_f_in (k : Nat) (a1 : Int) : WIn 738 (tcb_Root.f k a1) := by
 unfold tcb_Root.f
 repeat' (first | with_reducible exact WIn.ret _ | with_reducible exact WIn.fail | with_reducible exact lay_Is_f_in .. | with_reducible exact lay_Field_f_in .. | with_reducible refine WIn.optB fun x hx => ?_ | with_reducible refine WIn.bind ?_ fun x => ?_ | with_reducible refine WIn.cond (fun hc => ?_) (fun hc => ?_) | with_reducible refine WIn.go (fun x => ?_) (fun x => ?_) | with_reducible refine WIn.rd fun x => ?_ | split | with_reducible exact WIn.opt _)
set_option maxHeartbeats 4000000 in
theorem invoke_doer_find_f_in (k : Nat) (a0 : invoke_doer) (a1 : Int) : WIn 738 (invoke_doer_find.f k a0 a1) := by
 unfold invoke_doer_find.f
 repeat' (first | with_reducible exact WIn.ret _ | with_reducible exact WIn.fail | with_reducible exact tcb_Root_f_in .. | with_reducible exact cspace_Lookup_f_in .. | with_reducible refine WIn.optB fun x hx => ?_ | with_reducible refine WIn.bind ?_ fun x => ?_ | with_reducible refine WIn.cond (fun hc => ?_) (fun hc => ?_) | with_reducible refine WIn.go (fun x => ?_) (fun x => ?_) | with_reducible refine WIn.rd fun x => ?_ | split | with_reducible exact WIn.opt _)
set_option maxHeartbeats 4000000 in
theorem invoke_doer_other_f_in (k : Nat) (a0 : invoke_doer) (a1 : Int) (a2 : Int) : WIn 738 (invoke_doer_other.f k a0 a1 a2) := by
 unfold invoke_doer_other.f
 repeat' (first | with_reducible exact WIn.ret _ | with_reducible exact WIn.fail | with_reducible exact invoke_doer_find_f_in .. | with_reducible exact cspace_Cap_f_in .. | with_reducible refine WIn.optB fun x hx => ?_ | with_reducible refine WIn.bind ?_ fun x => ?_ | with_reducible refine WIn.cond (fun hc => ?_) (fun hc => ?_) | with_reducible refine WIn.go (fun x => ?_) (fun x => ?_) | with_reducible refine WIn.rd fun x => ?_ | split | with_reducible exact WIn.opt _)
set_option maxHeartbeats 4000000 in
theorem irq_Ack_f_in (a1 : Int) : WIn 738 (irq_Ack.f a1) := by
 unfold irq_Ack.f
 repeat' (first | with_reducible exact WIn.ret _ | with_reducible exact WIn.fail | with_reducible exact lay_Is_f_in .. | with_reducible exact lay_Field_f_in .. | with_reducible exact lay_Put_f_in .. | with_reducible refine WIn.optB fun x hx => ?_ | with_reducible refine WIn.bind ?_ fun x => ?_ | with_reducible refine WIn.cond (fun hc => ?_) (fun hc => ?_) | with_reducible refine WIn.go (fun x => ?_) (fun x => ?_) | with_reducible refine WIn.rd fun x => ?_ | split | with_reducible exact WIn.opt _)
set_option maxHeartbeats 4000000 in
theorem irq_Bind_f_in (a1 : Int) (a2 : Int) (a3 : Int) : WIn 738 (irq_Bind.f a1 a2 a3) := by
 unfold irq_Bind.f
 repeat' (first | with_reducible exact WIn.ret _ | with_reducible exact WIn.fail | with_reducible exact lay_Is_f_in .. | with_reducible exact lay_Put_f_in .. | with_reducible refine WIn.optB fun x hx => ?_ | with_reducible refine WIn.bind ?_ fun x => ?_ | with_reducible refine WIn.cond (fun hc => ?_) (fun hc => ?_) | with_reducible refine WIn.go (fun x => ?_) (fun x => ?_) | with_reducible refine WIn.rd fun x => ?_ | split | with_reducible exact WIn.opt _)
set_option maxHeartbeats 4000000 in
theorem space_Page_f_in (a1 : Int) (a2 : Int) : WIn 738 (space_Page.f a1 a2) := by
 unfold space_Page.f
 repeat' (first | with_reducible exact WIn.ret _ | with_reducible exact WIn.fail | with_reducible exact lay_Is_f_in .. | with_reducible exact lay_Field_f_in .. | with_reducible refine WIn.optB fun x hx => ?_ | with_reducible refine WIn.bind ?_ fun x => ?_ | with_reducible refine WIn.cond (fun hc => ?_) (fun hc => ?_) | with_reducible refine WIn.go (fun x => ?_) (fun x => ?_) | with_reducible refine WIn.rd fun x => ?_ | split | with_reducible exact WIn.opt _)
set_option maxHeartbeats 4000000 in
theorem space_Map_f_in (a1 : Int) (a2 : Int) (a3 : Int) (a4 : Int) : WIn 738 (space_Map.f a1 a2 a3 a4) := by
 unfold space_Map.f
 repeat' (first | with_reducible exact WIn.ret _ | with_reducible exact WIn.fail | with_reducible exact lay_Ref_f_in .. | with_reducible exact space_Page_f_in .. | with_reducible exact lay_Is_f_in .. | with_reducible exact lay_Put_f_in .. | with_reducible refine WIn.optB fun x hx => ?_ | with_reducible refine WIn.bind ?_ fun x => ?_ | with_reducible refine WIn.cond (fun hc => ?_) (fun hc => ?_) | with_reducible refine WIn.go (fun x => ?_) (fun x => ?_) | with_reducible refine WIn.rd fun x => ?_ | split | with_reducible exact WIn.opt _)
set_option maxHeartbeats 4000000 in
theorem space_Unmap_f_in (a1 : Int) : WIn 738 (space_Unmap.f a1) := by
 unfold space_Unmap.f
 repeat' (first | with_reducible exact WIn.ret _ | with_reducible exact WIn.fail | with_reducible exact lay_Is_f_in .. | with_reducible exact lay_Ref_f_in .. | with_reducible exact lay_Field_f_in .. | with_reducible exact space_Page_f_in .. | with_reducible exact lay_Put_f_in .. | with_reducible refine WIn.optB fun x hx => ?_ | with_reducible refine WIn.bind ?_ fun x => ?_ | with_reducible refine WIn.cond (fun hc => ?_) (fun hc => ?_) | with_reducible refine WIn.go (fun x => ?_) (fun x => ?_) | with_reducible refine WIn.rd fun x => ?_ | split | with_reducible exact WIn.opt _)
set_option maxHeartbeats 4000000 in
theorem invoke_doer_device_f_in (k : Nat) (a0 : invoke_doer) : WIn 738 (invoke_doer_device.f k a0) := by
 unfold invoke_doer_device.f
 repeat' (first | with_reducible exact WIn.ret _ | with_reducible exact WIn.fail | with_reducible exact invoke_doer_other_f_in .. | with_reducible exact space_Map_f_in .. | with_reducible exact space_Unmap_f_in .. | with_reducible exact irq_Bind_f_in .. | with_reducible exact irq_Ack_f_in .. | with_reducible refine WIn.optB fun x hx => ?_ | with_reducible refine WIn.bind ?_ fun x => ?_ | with_reducible refine WIn.cond (fun hc => ?_) (fun hc => ?_) | with_reducible refine WIn.go (fun x => ?_) (fun x => ?_) | with_reducible refine WIn.rd fun x => ?_ | split | with_reducible exact WIn.opt _)
set_option maxHeartbeats 4000000 in
theorem queue_Push_f_in (a1 : Int) (a2 : Int) : WIn 738 (queue_Push.f a1 a2) := by
 unfold queue_Push.f
 repeat' (first | with_reducible exact WIn.ret _ | with_reducible exact WIn.fail | with_reducible exact lay_Put_f_in .. | with_reducible exact lay_Ref_f_in .. | with_reducible refine WIn.optB fun x hx => ?_ | with_reducible refine WIn.bind ?_ fun x => ?_ | with_reducible refine WIn.cond (fun hc => ?_) (fun hc => ?_) | with_reducible refine WIn.go (fun x => ?_) (fun x => ?_) | with_reducible refine WIn.rd fun x => ?_ | split | with_reducible exact WIn.opt _)
set_option maxHeartbeats 4000000 in
theorem endp_Block_f_in (a1 : Int) (a2 : Int) (a3 : Int) : WIn 738 (endp_Block.f a1 a2 a3) := by
 unfold endp_Block.f
 repeat' (first | with_reducible exact WIn.ret _ | with_reducible exact WIn.fail | with_reducible exact queue_Push_f_in .. | with_reducible exact lay_Put_f_in .. | with_reducible exact endp_on_f_in .. | with_reducible refine WIn.optB fun x hx => ?_ | with_reducible refine WIn.bind ?_ fun x => ?_ | with_reducible refine WIn.cond (fun hc => ?_) (fun hc => ?_) | with_reducible refine WIn.go (fun x => ?_) (fun x => ?_) | with_reducible refine WIn.rd fun x => ?_ | split | with_reducible exact WIn.opt _)
set_option maxHeartbeats 4000000 in
theorem endp_State_f_in (a1 : Int) : WIn 738 (endp_State.f a1) := by
 unfold endp_State.f
 repeat' (first | with_reducible exact WIn.ret _ | with_reducible exact WIn.fail | with_reducible exact lay_Field_f_in .. | with_reducible refine WIn.optB fun x hx => ?_ | with_reducible refine WIn.bind ?_ fun x => ?_ | with_reducible refine WIn.cond (fun hc => ?_) (fun hc => ?_) | with_reducible refine WIn.go (fun x => ?_) (fun x => ?_) | with_reducible refine WIn.rd fun x => ?_ | split | with_reducible exact WIn.opt _)
set_option maxHeartbeats 4000000 in
theorem endp_owe_f_in (a1 : Int) (a2 : Int) : WIn 738 (endp_owe.f a1 a2) := by
 unfold endp_owe.f
 repeat' (first | with_reducible exact WIn.ret _ | with_reducible exact WIn.fail | with_reducible exact lay_Put_f_in .. | with_reducible exact endp_on_f_in .. | with_reducible refine WIn.optB fun x hx => ?_ | with_reducible refine WIn.bind ?_ fun x => ?_ | with_reducible refine WIn.cond (fun hc => ?_) (fun hc => ?_) | with_reducible refine WIn.go (fun x => ?_) (fun x => ?_) | with_reducible refine WIn.rd fun x => ?_ | split | with_reducible exact WIn.opt _)
set_option maxHeartbeats 4000000 in
theorem queue_List_l1_in  : ∀ k x, WIn 738 (queue_List.l1  k x) := by
 intro k
 induction k with
 | zero => intro x; unfold queue_List.l1; exact trivial
 | succ k ih =>
  intro x
  obtain ⟨x5_1, x6_1, x7_1⟩ := x
  unfold queue_List.l1
  repeat' (first | with_reducible exact WIn.ret _ | with_reducible exact WIn.fail | with_reducible exact ih _ | with_reducible exact lay_Ref_f_in .. | with_reducible refine WIn.optB fun x hx => ?_ | with_reducible refine WIn.bind ?_ fun x => ?_ | with_reducible refine WIn.cond (fun hc => ?_) (fun hc => ?_) | with_reducible refine WIn.go (fun x => ?_) (fun x => ?_) | with_reducible refine WIn.rd fun x => ?_ | split | with_reducible exact WIn.opt _)
set_option maxHeartbeats 4000000 in
theorem queue_List_f_in (k : Nat) (a1 : Int) : WIn 738 (queue_List.f k a1) := by
 unfold queue_List.f
 repeat' (first | with_reducible exact WIn.ret _ | with_reducible exact WIn.fail | with_reducible exact lay_Ref_f_in .. | with_reducible exact queue_List_l1_in .. | with_reducible refine WIn.optB fun x hx => ?_ | with_reducible refine WIn.bind ?_ fun x => ?_ | with_reducible refine WIn.cond (fun hc => ?_) (fun hc => ?_) | with_reducible refine WIn.go (fun x => ?_) (fun x => ?_) | with_reducible refine WIn.rd fun x => ?_ | split | with_reducible exact WIn.opt _)
set_option maxHeartbeats 4000000 in
theorem endp_rest_f_in (k : Nat) (a1 : Int) : WIn 738 (endp_rest.f k a1) := by
 unfold endp_rest.f
 repeat' (first | with_reducible exact WIn.ret _ | with_reducible exact WIn.fail | with_reducible exact queue_List_f_in .. | with_reducible exact lay_Put_f_in .. | with_reducible refine WIn.optB fun x hx => ?_ | with_reducible refine WIn.bind ?_ fun x => ?_ | with_reducible refine WIn.cond (fun hc => ?_) (fun hc => ?_) | with_reducible refine WIn.go (fun x => ?_) (fun x => ?_) | with_reducible refine WIn.rd fun x => ?_ | split | with_reducible exact WIn.opt _)
set_option maxHeartbeats 4000000 in
theorem queue_Pop_f_in (a1 : Int) : WIn 738 (queue_Pop.f a1) := by
 unfold queue_Pop.f
 repeat' (first | with_reducible exact WIn.ret _ | with_reducible exact WIn.fail | with_reducible exact lay_Ref_f_in .. | with_reducible exact lay_Field_f_in .. | with_reducible exact lay_Put_f_in .. | with_reducible refine WIn.optB fun x hx => ?_ | with_reducible refine WIn.bind ?_ fun x => ?_ | with_reducible refine WIn.cond (fun hc => ?_) (fun hc => ?_) | with_reducible refine WIn.go (fun x => ?_) (fun x => ?_) | with_reducible refine WIn.rd fun x => ?_ | split | with_reducible exact WIn.opt _)
set_option maxHeartbeats 4000000 in
theorem endp_Recv_f_in (k : Nat) (a1 : Int) (a2 : Int) : WIn 738 (endp_Recv.f k a1 a2) := by
 unfold endp_Recv.f
 repeat' (first | with_reducible exact WIn.ret _ | with_reducible exact WIn.fail | with_reducible exact lay_Ref_f_in .. | with_reducible exact lay_Field_f_in .. | with_reducible exact queue_Pop_f_in .. | with_reducible exact endp_State_f_in .. | with_reducible exact endp_owe_f_in .. | with_reducible exact endp_Wake_f_in .. | with_reducible exact endp_rest_f_in .. | with_reducible exact endp_Block_f_in .. | with_reducible exact lay_Put_f_in .. | with_reducible refine WIn.optB fun x hx => ?_ | with_reducible refine WIn.bind ?_ fun x => ?_ | with_reducible refine WIn.cond (fun hc => ?_) (fun hc => ?_) | with_reducible refine WIn.go (fun x => ?_) (fun x => ?_) | with_reducible refine WIn.rd fun x => ?_ | split | with_reducible exact WIn.opt _)
set_option maxHeartbeats 4000000 in
theorem endp_Send_f_in (k : Nat) (a1 : Int) (a2 : Int) (a3 : Int) (a4 : Int) (a5 : Bool) : WIn 738 (endp_Send.f k a1 a2 a3 a4 a5) := by
 unfold endp_Send.f
 repeat' (first | with_reducible exact WIn.ret _ | with_reducible exact WIn.fail | with_reducible exact lay_Field_f_in .. | with_reducible exact queue_Pop_f_in .. | with_reducible exact endp_Wake_f_in .. | with_reducible exact endp_rest_f_in .. | with_reducible exact endp_owe_f_in .. | with_reducible exact endp_Block_f_in .. | with_reducible exact lay_Put_f_in .. | with_reducible refine WIn.optB fun x hx => ?_ | with_reducible refine WIn.bind ?_ fun x => ?_ | with_reducible refine WIn.cond (fun hc => ?_) (fun hc => ?_) | with_reducible refine WIn.go (fun x => ?_) (fun x => ?_) | with_reducible refine WIn.rd fun x => ?_ | split | with_reducible exact WIn.opt _)
set_option maxHeartbeats 4000000 in
theorem ntfn_word_f_in (a1 : Int) : WIn 738 (ntfn_word.f a1) := by
 unfold ntfn_word.f
 repeat' (first | with_reducible exact WIn.ret _ | with_reducible exact WIn.fail | with_reducible exact lay_Field_f_in .. | with_reducible refine WIn.optB fun x hx => ?_ | with_reducible refine WIn.bind ?_ fun x => ?_ | with_reducible refine WIn.cond (fun hc => ?_) (fun hc => ?_) | with_reducible refine WIn.go (fun x => ?_) (fun x => ?_) | with_reducible refine WIn.rd fun x => ?_ | split | with_reducible exact WIn.opt _)
set_option maxHeartbeats 4000000 in
theorem ntfn_Poll_f_in (a1 : Int) : WIn 738 (ntfn_Poll.f a1) := by
 unfold ntfn_Poll.f
 repeat' (first | with_reducible exact WIn.ret _ | with_reducible exact WIn.fail | with_reducible exact ntfn_word_f_in .. | with_reducible exact lay_Put_f_in .. | with_reducible refine WIn.optB fun x hx => ?_ | with_reducible refine WIn.bind ?_ fun x => ?_ | with_reducible refine WIn.cond (fun hc => ?_) (fun hc => ?_) | with_reducible refine WIn.go (fun x => ?_) (fun x => ?_) | with_reducible refine WIn.rd fun x => ?_ | split | with_reducible exact WIn.opt _)
set_option maxHeartbeats 4000000 in
theorem ntfn_Signal_f_in (a1 : Int) (a2 : Int) : WIn 738 (ntfn_Signal.f a1 a2) := by
 unfold ntfn_Signal.f
 repeat' (first | with_reducible exact WIn.ret _ | with_reducible exact WIn.fail | with_reducible exact queue_Pop_f_in .. | with_reducible exact endp_Wake_f_in .. | with_reducible exact ntfn_word_f_in .. | with_reducible exact lay_Put_f_in .. | with_reducible refine WIn.optB fun x hx => ?_ | with_reducible refine WIn.bind ?_ fun x => ?_ | with_reducible refine WIn.cond (fun hc => ?_) (fun hc => ?_) | with_reducible refine WIn.go (fun x => ?_) (fun x => ?_) | with_reducible refine WIn.rd fun x => ?_ | split | with_reducible exact WIn.opt _)
set_option maxHeartbeats 4000000 in
theorem ntfn_Wait_f_in (a1 : Int) (a2 : Int) : WIn 738 (ntfn_Wait.f a1 a2) := by
 unfold ntfn_Wait.f
 repeat' (first | with_reducible exact WIn.ret _ | with_reducible exact WIn.fail | with_reducible exact ntfn_word_f_in .. | with_reducible exact endp_Block_f_in .. | with_reducible exact ntfn_Poll_f_in .. | with_reducible refine WIn.optB fun x hx => ?_ | with_reducible refine WIn.bind ?_ fun x => ?_ | with_reducible refine WIn.cond (fun hc => ?_) (fun hc => ?_) | with_reducible refine WIn.go (fun x => ?_) (fun x => ?_) | with_reducible refine WIn.rd fun x => ?_ | split | with_reducible exact WIn.opt _)
set_option maxHeartbeats 4000000 in
theorem invoke_doer_message_f_in (k : Nat) (a0 : invoke_doer) : WIn 738 (invoke_doer_message.f k a0) := by
 unfold invoke_doer_message.f
 repeat' (first | with_reducible exact WIn.ret _ | with_reducible exact WIn.fail | with_reducible exact endp_Send_f_in .. | with_reducible exact endp_Recv_f_in .. | with_reducible exact ntfn_Signal_f_in .. | with_reducible exact ntfn_Wait_f_in .. | with_reducible exact ntfn_Poll_f_in .. | with_reducible refine WIn.optB fun x hx => ?_ | with_reducible refine WIn.bind ?_ fun x => ?_ | with_reducible refine WIn.cond (fun hc => ?_) (fun hc => ?_) | with_reducible refine WIn.go (fun x => ?_) (fun x => ?_) | with_reducible refine WIn.rd fun x => ?_ | split | with_reducible exact WIn.opt _)
set_option maxHeartbeats 4000000 in
theorem cdt_get_f_in (a1 : Int) (a2 : Int) : WIn 738 (cdt_get.f a1 a2) := by
 unfold cdt_get.f
 repeat' (first | with_reducible exact WIn.ret _ | with_reducible exact WIn.fail | with_reducible refine WIn.optB fun x hx => ?_ | with_reducible refine WIn.bind ?_ fun x => ?_ | with_reducible refine WIn.cond (fun hc => ?_) (fun hc => ?_) | with_reducible refine WIn.go (fun x => ?_) (fun x => ?_) | with_reducible refine WIn.rd fun x => ?_ | split | with_reducible exact WIn.opt _)
set_option maxHeartbeats 4000000 in
theorem cdt_Parent_f_in (a1 : Int) : WIn 738 (cdt_Parent.f a1) := by
 unfold cdt_Parent.f
 repeat' (first | with_reducible exact WIn.ret _ | with_reducible exact WIn.fail | with_reducible exact cdt_get_f_in .. | with_reducible refine WIn.optB fun x hx => ?_ | with_reducible refine WIn.bind ?_ fun x => ?_ | with_reducible refine WIn.cond (fun hc => ?_) (fun hc => ?_) | with_reducible refine WIn.go (fun x => ?_) (fun x => ?_) | with_reducible refine WIn.rd fun x => ?_ | split | with_reducible exact WIn.opt _)
set_option maxHeartbeats 4000000 in
theorem cdt_Link_f_in (a1 : Int) (a2 : Int) : WIn 738 (cdt_Link.f a1 a2) := by
 unfold cdt_Link.f
 repeat' (first | with_reducible exact WIn.ret _ | with_reducible exact WIn.fail | with_reducible exact cdt_Parent_f_in .. | with_reducible exact cdt_get_f_in .. | with_reducible exact cdt_put_f_in .. | with_reducible refine WIn.optB fun x hx => ?_ | with_reducible refine WIn.bind ?_ fun x => ?_ | with_reducible refine WIn.cond (fun hc => ?_) (fun hc => ?_) | with_reducible refine WIn.go (fun x => ?_) (fun x => ?_) | with_reducible refine WIn.rd fun x => ?_ | split | with_reducible exact WIn.opt _)
set_option maxHeartbeats 4000000 in
theorem derive_below_f_in (k : Nat) (a1 : Int) (a2 : Int) (a3 : api_Cap) : WIn 738 (derive_below.f k a1 a2 a3) := by
 unfold derive_below.f
 repeat' (first | with_reducible exact WIn.ret _ | with_reducible exact WIn.fail | with_reducible exact cdt_Link_f_in .. | with_reducible exact cspace_Set_f_in .. | with_reducible refine WIn.optB fun x hx => ?_ | with_reducible refine WIn.bind ?_ fun x => ?_ | with_reducible refine WIn.cond (fun hc => ?_) (fun hc => ?_) | with_reducible refine WIn.go (fun x => ?_) (fun x => ?_) | with_reducible refine WIn.rd fun x => ?_ | split | with_reducible exact WIn.opt _)
set_option maxHeartbeats 4000000 in
theorem derive_ends_f_in (k : Nat) (a1 : Int) (a2 : Int) : WIn 738 (derive_ends.f k a1 a2) := by
 unfold derive_ends.f
 repeat' (first | with_reducible exact WIn.ret _ | with_reducible exact WIn.fail | with_reducible exact cspace_Cap_f_in .. | with_reducible refine WIn.optB fun x hx => ?_ | with_reducible refine WIn.bind ?_ fun x => ?_ | with_reducible refine WIn.cond (fun hc => ?_) (fun hc => ?_) | with_reducible refine WIn.go (fun x => ?_) (fun x => ?_) | with_reducible refine WIn.rd fun x => ?_ | split | with_reducible exact WIn.opt _)
set_option maxHeartbeats 4000000 in
theorem derive_Copy_f_in (k : Nat) (a1 : Int) (a2 : Int) (a3 : Int) : WIn 738 (derive_Copy.f k a1 a2 a3) := by
 unfold derive_Copy.f
 repeat' (first | with_reducible exact WIn.ret _ | with_reducible exact WIn.fail | with_reducible exact derive_ends_f_in .. | with_reducible exact derive_below_f_in .. | with_reducible refine WIn.optB fun x hx => ?_ | with_reducible refine WIn.bind ?_ fun x => ?_ | with_reducible refine WIn.cond (fun hc => ?_) (fun hc => ?_) | with_reducible refine WIn.go (fun x => ?_) (fun x => ?_) | with_reducible refine WIn.rd fun x => ?_ | split | with_reducible exact WIn.opt _)
set_option maxHeartbeats 4000000 in
theorem cdt_Kids_l1_in  : ∀ k x, WIn 738 (cdt_Kids.l1  k x) := by
 intro k
 induction k with
 | zero => intro x; unfold cdt_Kids.l1; exact trivial
 | succ k ih =>
  intro x
  obtain ⟨x6_1, x5_1⟩ := x
  unfold cdt_Kids.l1
  repeat' (first | with_reducible exact WIn.ret _ | with_reducible exact WIn.fail | with_reducible exact ih _ | with_reducible exact cdt_get_f_in .. | with_reducible refine WIn.optB fun x hx => ?_ | with_reducible refine WIn.bind ?_ fun x => ?_ | with_reducible refine WIn.cond (fun hc => ?_) (fun hc => ?_) | with_reducible refine WIn.go (fun x => ?_) (fun x => ?_) | with_reducible refine WIn.rd fun x => ?_ | split | with_reducible exact WIn.opt _)
set_option maxHeartbeats 4000000 in
theorem cdt_Kids_f_in (k : Nat) (a1 : Int) : WIn 738 (cdt_Kids.f k a1) := by
 unfold cdt_Kids.f
 repeat' (first | with_reducible exact WIn.ret _ | with_reducible exact WIn.fail | with_reducible exact cdt_get_f_in .. | with_reducible exact cdt_Kids_l1_in .. | with_reducible refine WIn.optB fun x hx => ?_ | with_reducible refine WIn.bind ?_ fun x => ?_ | with_reducible refine WIn.cond (fun hc => ?_) (fun hc => ?_) | with_reducible refine WIn.go (fun x => ?_) (fun x => ?_) | with_reducible refine WIn.rd fun x => ?_ | split | with_reducible exact WIn.opt _)
set_option maxHeartbeats 4000000 in
theorem cdt_beside_f_in (a1 : Int) (a2 : Int) (a3 : Int) : WIn 738 (cdt_beside.f a1 a2 a3) := by
 unfold cdt_beside.f
 repeat' (first | with_reducible exact WIn.ret _ | with_reducible exact WIn.fail | with_reducible exact cdt_get_f_in .. | with_reducible exact cdt_put_f_in .. | with_reducible exact cdt_Parent_f_in .. | with_reducible refine WIn.optB fun x hx => ?_ | with_reducible refine WIn.bind ?_ fun x => ?_ | with_reducible refine WIn.cond (fun hc => ?_) (fun hc => ?_) | with_reducible refine WIn.go (fun x => ?_) (fun x => ?_) | with_reducible refine WIn.rd fun x => ?_ | split | with_reducible exact WIn.opt _)
set_option maxHeartbeats 4000000 in
theorem cdt_clear_f_in (a1 : Int) : WIn 738 (cdt_clear.f a1) := by
 unfold cdt_clear.f
 repeat' (first | with_reducible exact WIn.ret _ | with_reducible exact WIn.fail | with_reducible exact cdt_put_f_in .. | with_reducible refine WIn.optB fun x hx => ?_ | with_reducible refine WIn.bind ?_ fun x => ?_ | with_reducible refine WIn.cond (fun hc => ?_) (fun hc => ?_) | with_reducible refine WIn.go (fun x => ?_) (fun x => ?_) | with_reducible refine WIn.rd fun x => ?_ | split | with_reducible exact WIn.opt _)
set_option maxHeartbeats 4000000 in
theorem cdt_Unlink_f_in (a1 : Int) : WIn 738 (cdt_Unlink.f a1) := by
 unfold cdt_Unlink.f
 repeat' (first | with_reducible exact WIn.ret _ | with_reducible exact WIn.fail | with_reducible exact cdt_Parent_f_in .. | with_reducible exact cdt_get_f_in .. | with_reducible exact cdt_beside_f_in .. | with_reducible exact cdt_clear_f_in .. | with_reducible refine WIn.optB fun x hx => ?_ | with_reducible refine WIn.bind ?_ fun x => ?_ | with_reducible refine WIn.cond (fun hc => ?_) (fun hc => ?_) | with_reducible refine WIn.go (fun x => ?_) (fun x => ?_) | with_reducible refine WIn.rd fun x => ?_ | split | with_reducible exact WIn.opt _)
set_option maxHeartbeats 4000000 in
theorem derive_Delete_f_in (k : Nat) (a1 : Int) : WIn 738 (derive_Delete.f k a1) := by
 unfold derive_Delete.f
 repeat' (first | with_reducible exact WIn.ret _ | with_reducible exact WIn.fail | with_reducible exact cdt_Kids_f_in .. | with_reducible exact cdt_Unlink_f_in .. | with_reducible exact cspace_Set_f_in .. | with_reducible refine WIn.optB fun x hx => ?_ | with_reducible refine WIn.bind ?_ fun x => ?_ | with_reducible refine WIn.cond (fun hc => ?_) (fun hc => ?_) | with_reducible refine WIn.go (fun x => ?_) (fun x => ?_) | with_reducible refine WIn.rd fun x => ?_ | split | with_reducible exact WIn.opt _)
set_option maxHeartbeats 4000000 in
theorem derive_Mint_f_in (k : Nat) (a1 : Int) (a2 : Int) (a3 : Int) (a4 : Int) : WIn 738 (derive_Mint.f k a1 a2 a3 a4) := by
 unfold derive_Mint.f
 repeat' (first | with_reducible exact WIn.ret _ | with_reducible exact WIn.fail | with_reducible exact derive_ends_f_in .. | with_reducible exact derive_below_f_in .. | with_reducible refine WIn.optB fun x hx => ?_ | with_reducible refine WIn.bind ?_ fun x => ?_ | with_reducible refine WIn.cond (fun hc => ?_) (fun hc => ?_) | with_reducible refine WIn.go (fun x => ?_) (fun x => ?_) | with_reducible refine WIn.rd fun x => ?_ | split | with_reducible exact WIn.opt _)
set_option maxHeartbeats 4000000 in
theorem cdt_Replace_l2_in (a2 : Int) (t48 : List Int) : ∀ k x, WIn 738 (cdt_Replace.l2 a2 t48 k x) := by
 intro k
 induction k with
 | zero => intro x; unfold cdt_Replace.l2; exact trivial
 | succ k ih =>
  intro x
  skip
  unfold cdt_Replace.l2
  repeat' (first | with_reducible exact WIn.ret _ | with_reducible exact WIn.fail | with_reducible exact ih _ | with_reducible exact cdt_put_f_in .. | with_reducible refine WIn.optB fun x hx => ?_ | with_reducible refine WIn.bind ?_ fun x => ?_ | with_reducible refine WIn.cond (fun hc => ?_) (fun hc => ?_) | with_reducible refine WIn.go (fun x => ?_) (fun x => ?_) | with_reducible refine WIn.rd fun x => ?_ | split | with_reducible exact WIn.opt _)
set_option maxHeartbeats 4000000 in
theorem cdt_Replace_f_in (k : Nat) (a1 : Int) (a2 : Int) : WIn 738 (cdt_Replace.f k a1 a2) := by
 unfold cdt_Replace.f
 repeat' (first | with_reducible exact WIn.ret _ | with_reducible exact WIn.fail | with_reducible exact cdt_Parent_f_in .. | with_reducible exact cdt_get_f_in .. | with_reducible exact cdt_put_f_in .. | with_reducible exact cdt_beside_f_in .. | with_reducible exact cdt_clear_f_in .. | with_reducible exact cdt_Kids_f_in .. | with_reducible exact cdt_Replace_l2_in .. | with_reducible refine WIn.optB fun x hx => ?_ | with_reducible refine WIn.bind ?_ fun x => ?_ | with_reducible refine WIn.cond (fun hc => ?_) (fun hc => ?_) | with_reducible refine WIn.go (fun x => ?_) (fun x => ?_) | with_reducible refine WIn.rd fun x => ?_ | split | with_reducible exact WIn.opt _)
set_option maxHeartbeats 4000000 in
theorem derive_turn_f_in (k : Nat) (a1 : Int) (a2 : Int) (a3 : api_Cap) : WIn 738 (derive_turn.f k a1 a2 a3) := by
 unfold derive_turn.f
 repeat' (first | with_reducible exact WIn.ret _ | with_reducible exact WIn.fail | with_reducible exact cdt_Replace_f_in .. | with_reducible exact cspace_Set_f_in .. | with_reducible refine WIn.optB fun x hx => ?_ | with_reducible refine WIn.bind ?_ fun x => ?_ | with_reducible refine WIn.cond (fun hc => ?_) (fun hc => ?_) | with_reducible refine WIn.go (fun x => ?_) (fun x => ?_) | with_reducible refine WIn.rd fun x => ?_ | split | with_reducible exact WIn.opt _)
set_option maxHeartbeats 4000000 in
theorem derive_Move_f_in (k : Nat) (a1 : Int) (a2 : Int) : WIn 738 (derive_Move.f k a1 a2) := by
 unfold derive_Move.f
 repeat' (first | with_reducible exact WIn.ret _ | with_reducible exact WIn.fail | with_reducible exact derive_ends_f_in .. | with_reducible exact derive_turn_f_in .. | with_reducible refine WIn.optB fun x hx => ?_ | with_reducible refine WIn.bind ?_ fun x => ?_ | with_reducible refine WIn.cond (fun hc => ?_) (fun hc => ?_) | with_reducible refine WIn.go (fun x => ?_) (fun x => ?_) | with_reducible refine WIn.rd fun x => ?_ | split | with_reducible exact WIn.opt _)
set_option maxHeartbeats 4000000 in
theorem derive_Mutate_f_in (k : Nat) (a1 : Int) (a2 : Int) (a3 : Int) (a4 : Int) : WIn 738 (derive_Mutate.f k a1 a2 a3 a4) := by
 unfold derive_Mutate.f
 repeat' (first | with_reducible exact WIn.ret _ | with_reducible exact WIn.fail | with_reducible exact derive_ends_f_in .. | with_reducible exact derive_turn_f_in .. | with_reducible refine WIn.optB fun x hx => ?_ | with_reducible refine WIn.bind ?_ fun x => ?_ | with_reducible refine WIn.cond (fun hc => ?_) (fun hc => ?_) | with_reducible refine WIn.go (fun x => ?_) (fun x => ?_) | with_reducible refine WIn.rd fun x => ?_ | split | with_reducible exact WIn.opt _)
set_option maxHeartbeats 4000000 in
theorem cdt_Leaf_l1_in  : ∀ k x, WIn 738 (cdt_Leaf.l1  k x) := by
 intro k
 induction k with
 | zero => intro x; unfold cdt_Leaf.l1; exact trivial
 | succ k ih =>
  intro x
  obtain ⟨x9_1, x1_1⟩ := x
  unfold cdt_Leaf.l1
  repeat' (first | with_reducible exact WIn.ret _ | with_reducible exact WIn.fail | with_reducible exact ih _ | with_reducible exact cdt_get_f_in .. | with_reducible refine WIn.optB fun x hx => ?_ | with_reducible refine WIn.bind ?_ fun x => ?_ | with_reducible refine WIn.cond (fun hc => ?_) (fun hc => ?_) | with_reducible refine WIn.go (fun x => ?_) (fun x => ?_) | with_reducible refine WIn.rd fun x => ?_ | split | with_reducible exact WIn.opt _)
set_option maxHeartbeats 4000000 in
theorem cdt_Leaf_f_in (k : Nat) (a1 : Int) : WIn 738 (cdt_Leaf.f k a1) := by
 unfold cdt_Leaf.f
 repeat' (first | with_reducible exact WIn.ret _ | with_reducible exact WIn.fail | with_reducible exact cdt_Leaf_l1_in .. | with_reducible refine WIn.optB fun x hx => ?_ | with_reducible refine WIn.bind ?_ fun x => ?_ | with_reducible refine WIn.cond (fun hc => ?_) (fun hc => ?_) | with_reducible refine WIn.go (fun x => ?_) (fun x => ?_) | with_reducible refine WIn.rd fun x => ?_ | split | with_reducible exact WIn.opt _)
set_option maxHeartbeats 4000000 in
theorem derive_One_f_in (k : Nat) (a1 : Int) : WIn 738 (derive_One.f k a1) := by
 unfold derive_One.f
 repeat' (first | with_reducible exact WIn.ret _ | with_reducible exact WIn.fail | with_reducible exact cdt_Kids_f_in .. | with_reducible exact cdt_Leaf_f_in .. | with_reducible exact derive_Delete_f_in .. | with_reducible refine WIn.optB fun x hx => ?_ | with_reducible refine WIn.bind ?_ fun x => ?_ | with_reducible refine WIn.cond (fun hc => ?_) (fun hc => ?_) | with_reducible refine WIn.go (fun x => ?_) (fun x => ?_) | with_reducible refine WIn.rd fun x => ?_ | split | with_reducible exact WIn.opt _)
set_option maxHeartbeats 4000000 in
theorem untyped_Left_f_in (a1 : Int) : WIn 738 (untyped_Left.f a1) := by
 unfold untyped_Left.f
 repeat' (first | with_reducible exact WIn.ret _ | with_reducible exact WIn.fail | with_reducible exact lay_Is_f_in .. | with_reducible exact lay_Field_f_in .. | with_reducible refine WIn.optB fun x hx => ?_ | with_reducible refine WIn.bind ?_ fun x => ?_ | with_reducible refine WIn.cond (fun hc => ?_) (fun hc => ?_) | with_reducible refine WIn.go (fun x => ?_) (fun x => ?_) | with_reducible refine WIn.rd fun x => ?_ | split | with_reducible exact WIn.opt _)
set_option maxHeartbeats 4000000 in
theorem untyped_may_f_in (k : Nat) (a1 : Int) (a2 : Int) (a3 : Int) (a4 : Int) : WIn 738 (untyped_may.f k a1 a2 a3 a4) := by
 unfold untyped_may.f
 repeat' (first | with_reducible exact WIn.ret _ | with_reducible exact WIn.fail | with_reducible exact cspace_Cap_f_in .. | with_reducible exact lay_Is_f_in .. | with_reducible exact cdt_Parent_f_in .. | with_reducible exact untyped_Left_f_in .. | with_reducible refine WIn.optB fun x hx => ?_ | with_reducible refine WIn.bind ?_ fun x => ?_ | with_reducible refine WIn.cond (fun hc => ?_) (fun hc => ?_) | with_reducible refine WIn.go (fun x => ?_) (fun x => ?_) | with_reducible refine WIn.rd fun x => ?_ | split | with_reducible exact WIn.opt _)
set_option maxHeartbeats 4000000 in
theorem untyped_Retype_l2_in (t9 : Int) : ∀ k x, WIn 738 (untyped_Retype.l2 t9 k x) := by
 intro k
 induction k with
 | zero => intro x; unfold untyped_Retype.l2; exact trivial
 | succ k ih =>
  intro x
  skip
  unfold untyped_Retype.l2
  repeat' (first | with_reducible exact WIn.ret _ | with_reducible exact WIn.fail | with_reducible exact ih _ | with_reducible exact lay_Put_f_in .. | with_reducible refine WIn.optB fun x hx => ?_ | with_reducible refine WIn.bind ?_ fun x => ?_ | with_reducible refine WIn.cond (fun hc => ?_) (fun hc => ?_) | with_reducible refine WIn.go (fun x => ?_) (fun x => ?_) | with_reducible refine WIn.rd fun x => ?_ | split | with_reducible exact WIn.opt _)
set_option maxHeartbeats 4000000 in
theorem untyped_Retype_f_in (k : Nat) (a1 : Int) (a2 : Int) (a3 : Int) (a4 : Int) : WIn 738 (untyped_Retype.f k a1 a2 a3 a4) := by
 unfold untyped_Retype.f
 repeat' (first | with_reducible exact WIn.ret _ | with_reducible exact WIn.fail | with_reducible exact untyped_may_f_in .. | with_reducible exact lay_Take_f_in .. | with_reducible exact cspace_Cap_f_in .. | with_reducible exact lay_Field_f_in .. | with_reducible exact lay_Put_f_in .. | with_reducible exact untyped_Retype_l2_in .. | with_reducible exact cdt_Link_f_in .. | with_reducible exact cspace_Set_f_in .. | with_reducible refine WIn.optB fun x hx => ?_ | with_reducible refine WIn.bind ?_ fun x => ?_ | with_reducible refine WIn.cond (fun hc => ?_) (fun hc => ?_) | with_reducible refine WIn.go (fun x => ?_) (fun x => ?_) | with_reducible refine WIn.rd fun x => ?_ | split | with_reducible exact WIn.opt _)
set_option maxHeartbeats 4000000 in
theorem invoke_doer_slots_f_in (k : Nat) (a0 : invoke_doer) : WIn 738 (invoke_doer_slots.f k a0) := by
 unfold invoke_doer_slots.f
 repeat' (first | with_reducible exact WIn.ret _ | with_reducible exact WIn.fail | with_reducible exact derive_Delete_f_in .. | with_reducible exact derive_One_f_in .. | with_reducible exact invoke_doer_find_f_in .. | with_reducible exact derive_Copy_f_in .. | with_reducible exact derive_Mint_f_in .. | with_reducible exact derive_Move_f_in .. | with_reducible exact derive_Mutate_f_in .. | with_reducible exact untyped_Retype_f_in .. | with_reducible refine WIn.optB fun x hx => ?_ | with_reducible refine WIn.bind ?_ fun x => ?_ | with_reducible refine WIn.cond (fun hc => ?_) (fun hc => ?_) | with_reducible refine WIn.go (fun x => ?_) (fun x => ?_) | with_reducible refine WIn.rd fun x => ?_ | split | with_reducible exact WIn.opt _)
set_option maxHeartbeats 4000000 in
theorem tcb_Prio_f_in (a1 : Int) (a2 : Int) : WIn 738 (tcb_Prio.f a1 a2) := by
 unfold tcb_Prio.f
 repeat' (first | with_reducible exact WIn.ret _ | with_reducible exact WIn.fail | with_reducible exact lay_Is_f_in .. | with_reducible exact lay_Field_f_in .. | with_reducible exact lay_Put_f_in .. | with_reducible refine WIn.optB fun x hx => ?_ | with_reducible refine WIn.bind ?_ fun x => ?_ | with_reducible refine WIn.cond (fun hc => ?_) (fun hc => ?_) | with_reducible refine WIn.go (fun x => ?_) (fun x => ?_) | with_reducible refine WIn.rd fun x => ?_ | split | with_reducible exact WIn.opt _)
set_option maxHeartbeats 4000000 in
theorem tcb_Resume_f_in (a1 : Int) : WIn 738 (tcb_Resume.f a1) := by
 unfold tcb_Resume.f
 repeat' (first | with_reducible exact WIn.ret _ | with_reducible exact WIn.fail | with_reducible exact lay_Is_f_in .. | with_reducible exact endp_State_f_in .. | with_reducible exact endp_Wake_f_in .. | with_reducible refine WIn.optB fun x hx => ?_ | with_reducible refine WIn.bind ?_ fun x => ?_ | with_reducible refine WIn.cond (fun hc => ?_) (fun hc => ?_) | with_reducible refine WIn.go (fun x => ?_) (fun x => ?_) | with_reducible refine WIn.rd fun x => ?_ | split | with_reducible exact WIn.opt _)
set_option maxHeartbeats 4000000 in
theorem tcb_SetRoot_f_in (k : Nat) (a1 : Int) (a2 : api_Cap) : WIn 738 (tcb_SetRoot.f k a1 a2) := by
 unfold tcb_SetRoot.f
 repeat' (first | with_reducible exact WIn.ret _ | with_reducible exact WIn.fail | with_reducible exact lay_Is_f_in .. | with_reducible exact cspace_Fine_f_in .. | with_reducible exact lay_Put_f_in .. | with_reducible refine WIn.optB fun x hx => ?_ | with_reducible refine WIn.bind ?_ fun x => ?_ | with_reducible refine WIn.cond (fun hc => ?_) (fun hc => ?_) | with_reducible refine WIn.go (fun x => ?_) (fun x => ?_) | with_reducible refine WIn.rd fun x => ?_ | split | with_reducible exact WIn.opt _)
set_option maxHeartbeats 4000000 in
theorem endp_On_f_in (a1 : Int) : WIn 738 (endp_On.f a1) := by
 unfold endp_On.f
 repeat' (first | with_reducible exact WIn.ret _ | with_reducible exact WIn.fail | with_reducible exact lay_Field_f_in .. | with_reducible refine WIn.optB fun x hx => ?_ | with_reducible refine WIn.bind ?_ fun x => ?_ | with_reducible refine WIn.cond (fun hc => ?_) (fun hc => ?_) | with_reducible refine WIn.go (fun x => ?_) (fun x => ?_) | with_reducible refine WIn.rd fun x => ?_ | split | with_reducible exact WIn.opt _)
set_option maxHeartbeats 4000000 in
theorem queue_put_l1_in (a2 : List Int) : ∀ k x, WIn 738 (queue_put.l1 a2 k x) := by
 intro k
 induction k with
 | zero => intro x; unfold queue_put.l1; exact trivial
 | succ k ih =>
  intro x
  skip
  unfold queue_put.l1
  repeat' (first | with_reducible exact WIn.ret _ | with_reducible exact WIn.fail | with_reducible exact ih _ | with_reducible exact lay_Put_f_in .. | with_reducible refine WIn.optB fun x hx => ?_ | with_reducible refine WIn.bind ?_ fun x => ?_ | with_reducible refine WIn.cond (fun hc => ?_) (fun hc => ?_) | with_reducible refine WIn.go (fun x => ?_) (fun x => ?_) | with_reducible refine WIn.rd fun x => ?_ | split | with_reducible exact WIn.opt _)
set_option maxHeartbeats 4000000 in
theorem queue_put_f_in (k : Nat) (a1 : Int) (a2 : List Int) : WIn 738 (queue_put.f k a1 a2) := by
 unfold queue_put.f
 repeat' (first | with_reducible exact WIn.ret _ | with_reducible exact WIn.fail | with_reducible exact queue_put_l1_in .. | with_reducible exact lay_Put_f_in .. | with_reducible refine WIn.optB fun x hx => ?_ | with_reducible refine WIn.bind ?_ fun x => ?_ | with_reducible refine WIn.cond (fun hc => ?_) (fun hc => ?_) | with_reducible refine WIn.go (fun x => ?_) (fun x => ?_) | with_reducible refine WIn.rd fun x => ?_ | split | with_reducible exact WIn.opt _)
set_option maxHeartbeats 4000000 in
theorem queue_Remove_f_in (k : Nat) (a1 : Int) (a2 : Int) : WIn 738 (queue_Remove.f k a1 a2) := by
 unfold queue_Remove.f
 repeat' (first | with_reducible exact WIn.ret _ | with_reducible exact WIn.fail | with_reducible exact queue_List_f_in .. | with_reducible exact queue_put_f_in .. | with_reducible exact lay_Put_f_in .. | with_reducible refine WIn.optB fun x hx => ?_ | with_reducible refine WIn.bind ?_ fun x => ?_ | with_reducible refine WIn.cond (fun hc => ?_) (fun hc => ?_) | with_reducible refine WIn.go (fun x => ?_) (fun x => ?_) | with_reducible refine WIn.rd fun x => ?_ | split | with_reducible exact WIn.opt _)
set_option maxHeartbeats 4000000 in
theorem endp_Cancel_f_in (k : Nat) (a1 : Int) : WIn 738 (endp_Cancel.f k a1) := by
 unfold endp_Cancel.f
 repeat' (first | with_reducible exact WIn.ret _ | with_reducible exact WIn.fail | with_reducible exact endp_On_f_in .. | with_reducible exact endp_State_f_in .. | with_reducible exact lay_Ref_f_in .. | with_reducible exact lay_Put_f_in .. | with_reducible exact endp_on_f_in .. | with_reducible exact queue_Remove_f_in .. | with_reducible exact lay_Is_f_in .. | with_reducible exact endp_rest_f_in .. | with_reducible refine WIn.optB fun x hx => ?_ | with_reducible refine WIn.bind ?_ fun x => ?_ | with_reducible refine WIn.cond (fun hc => ?_) (fun hc => ?_) | with_reducible refine WIn.go (fun x => ?_) (fun x => ?_) | with_reducible refine WIn.rd fun x => ?_ | split | with_reducible exact WIn.opt _)
set_option maxHeartbeats 4000000 in
theorem tcb_Suspend_f_in (k : Nat) (a1 : Int) : WIn 738 (tcb_Suspend.f k a1) := by
 unfold tcb_Suspend.f
 repeat' (first | with_reducible exact WIn.ret _ | with_reducible exact WIn.fail | with_reducible exact lay_Is_f_in .. | with_reducible exact endp_State_f_in .. | with_reducible exact endp_Cancel_f_in .. | with_reducible refine WIn.optB fun x hx => ?_ | with_reducible refine WIn.bind ?_ fun x => ?_ | with_reducible refine WIn.cond (fun hc => ?_) (fun hc => ?_) | with_reducible refine WIn.go (fun x => ?_) (fun x => ?_) | with_reducible refine WIn.rd fun x => ?_ | split | with_reducible exact WIn.opt _)
set_option maxHeartbeats 4000000 in
theorem invoke_doer_thread_f_in (k : Nat) (a0 : invoke_doer) : WIn 738 (invoke_doer_thread.f k a0) := by
 unfold invoke_doer_thread.f
 repeat' (first | with_reducible exact WIn.ret _ | with_reducible exact WIn.fail | with_reducible exact tcb_Suspend_f_in .. | with_reducible exact tcb_Resume_f_in .. | with_reducible exact tcb_Prio_f_in .. | with_reducible exact invoke_doer_other_f_in .. | with_reducible exact tcb_SetRoot_f_in .. | with_reducible refine WIn.optB fun x hx => ?_ | with_reducible refine WIn.bind ?_ fun x => ?_ | with_reducible refine WIn.cond (fun hc => ?_) (fun hc => ?_) | with_reducible refine WIn.go (fun x => ?_) (fun x => ?_) | with_reducible refine WIn.rd fun x => ?_ | split | with_reducible exact WIn.opt _)
set_option maxHeartbeats 4000000 in
theorem invoke_doer_do_f_in (k : Nat) (a0 : invoke_doer) : WIn 738 (invoke_doer_do.f k a0) := by
 unfold invoke_doer_do.f
 repeat' (first | with_reducible exact WIn.ret _ | with_reducible exact WIn.fail | with_reducible exact endp_Answer_f_in .. | with_reducible exact invoke_doer_find_f_in .. | with_reducible exact cspace_Cap_f_in .. | with_reducible exact invoke_doer_message_f_in .. | with_reducible exact invoke_doer_slots_f_in .. | with_reducible exact invoke_doer_thread_f_in .. | with_reducible exact invoke_doer_device_f_in .. | with_reducible refine WIn.optB fun x hx => ?_ | with_reducible refine WIn.bind ?_ fun x => ?_ | with_reducible refine WIn.cond (fun hc => ?_) (fun hc => ?_) | with_reducible refine WIn.go (fun x => ?_) (fun x => ?_) | with_reducible refine WIn.rd fun x => ?_ | split | with_reducible exact WIn.opt _)
def ovl (v : List Int) (o : List (Int × Int)) (w : List Int) : Prop := w.length = v.length ∧ (∀ p ∈ o, 0 ≤ p.1 ∧ p.1 < (v.length : Int)) ∧ ∀ i : Int, 0 ≤ i → i < (v.length : Int) → w[i.toNat]? = some ((mfind o i).getD (v[i.toNat]?.getD 0))
theorem mfind_none_of {o : List (Int × Int)} {i : Int} (h : ∀ p ∈ o, p.1 ≠ i) : mfind o i = none := by
 induction o with
 | nil => rfl
 | cons p l ih =>
  unfold mfind
  rw [if_neg (h p List.mem_cons_self)]
  exact ih fun q hq => h q (List.mem_cons_of_mem _ hq)
theorem mfind_mset (o : List (Int × Int)) (i x j : Int) : mfind (mset o i x) j = if j = i then some x else mfind o j := by
 induction o with
 | nil =>
  unfold mset mfind
  by_cases h : j = i
  ·subst h; simp
  ·rw [if_neg (fun z => h z.symm), if_neg h]; rfl
 | cons p l ih =>
  unfold mset
  by_cases h : p.1 = i
  ·rw [if_pos h]
   unfold mfind
   dsimp only
   by_cases h2 : j = i
   ·subst h2; simp
   ·rw [if_neg (fun z => h2 z.symm), if_neg h2, if_neg (fun z => h2 (z.symm.trans h))]
  ·rw [if_neg h]
   unfold mfind
   by_cases h2 : p.1 = j
   ·rw [if_pos h2, if_pos h2, if_neg (fun z => h (h2.trans z))]
   ·rw [if_neg h2, if_neg h2, ih]
theorem readP (v : List Int) (i : Int) : plainI.rd v i = (if 0 ≤ i ∧ i < (v.length : Int) then v[i.toNat]?.getD 0 else 0, v) := by
 show ((view_Plain_Read.f v i).getD 0, v) = _
 unfold view_Plain_Read.f view_Plain_has.f
 by_cases h : 0 ≤ i ∧ i < (v.length : Int)
 ·have hl : i.toNat < v.length := by omega
  have e : at_ v i = some v[i.toNat] := by unfold at_; rw [decide_eq_true h.1, cond_true]; exact List.getElem?_eq_getElem hl
  rw [if_pos h]
  simp [h, e, List.getElem?_eq_getElem hl]
 ·rw [if_neg h]
  by_cases h0 : 0 ≤ i
  ·have : ¬ i < (v.length : Int) := fun z => h ⟨h0, z⟩
   simp [h0, this]
  ·simp [h0]
theorem writeP (v : List Int) (i x : Int) : plainI.wr v i x = if 0 ≤ i ∧ i < (v.length : Int) then v.set i.toNat x else v := by
 show (view_Plain_Write.f v i x).getD v = _
 unfold view_Plain_Write.f view_Plain_has.f
 by_cases h : 0 ≤ i ∧ i < (v.length : Int)
 ·have hl : i.toNat < v.length := by omega
  have e : at_ v i = some v[i.toNat] := by unfold at_; rw [decide_eq_true h.1, cond_true]; exact List.getElem?_eq_getElem hl
  rw [if_pos h]
  simp [h, e]
 ·rw [if_neg h]
  by_cases h0 : 0 ≤ i
  ·have : ¬ i < (v.length : Int) := fun z => h ⟨h0, z⟩
   simp [h0, this]
  ·simp [h0]
theorem draft_sim {α : Type} (v : List Int) (m : VM α) : ∀ (o : List (Int × Int)) (w : List Int) (a : α) (w' : List Int), WIn v.length m → ovl v o w → VM.run plainI m w = some (a, w') → ∃ o', VM.run plainI (m.draft o) v = some ((a, o'), v) ∧ ovl v o' w' := by
 induction m with
 | ret a => intro o w b w' _ ho h; cases h; exact ⟨o, rfl, ho⟩
 | fail => intro o w b w' _ _ h; cases h
 | rd i k ih =>
  intro o w b w' hi ho h
  unfold VM.run at h
  rw [readP] at h
  dsimp only at h
  unfold VM.draft
  cases hf : mfind o i with
  | some x =>
   dsimp only
   have hr : 0 ≤ i ∧ i < (v.length : Int) := by
    refine Classical.byContradiction fun z => ?_
    rw [mfind_none_of (fun p hp (e : p.1 = i) => z (by have := ho.2.1 p hp; omega))] at hf; cases hf
   have hx := ho.2.2 i hr.1 hr.2
   rw [hf] at hx
   rw [if_pos (by rw [ho.1]; exact hr), hx] at h
   exact ih x o w b w' (hi x) ho h
  | none =>
   dsimp only
   unfold VM.run
   rw [readP]
   dsimp only
   have e : (if 0 ≤ i ∧ i < (w.length : Int) then w[i.toNat]?.getD 0 else 0) = if 0 ≤ i ∧ i < (v.length : Int) then v[i.toNat]?.getD 0 else 0 := by
    rw [ho.1]
    by_cases hr : 0 ≤ i ∧ i < (v.length : Int)
    ·rw [if_pos hr, if_pos hr, ho.2.2 i hr.1 hr.2, hf]; rfl
    ·rw [if_neg hr, if_neg hr]
   rw [e] at h
   exact ih _ o w b w' (hi _) ho h
 | wr i x k ih =>
  intro o w b w' hi ho h
  unfold VM.run at h
  rw [writeP, if_pos (by rw [ho.1]; exact hi.1)] at h
  unfold VM.draft
  refine ih (mset o i x) _ b w' hi.2 ⟨by rw [List.length_set]; exact ho.1, fun p hp => ?_, fun j h0 h1 => ?_⟩ h
  ·rcases mset_mem o i x p hp with z | z
   ·exact ho.2.1 p z
   ·rw [z]; exact hi.1
  ·rw [mfind_mset]
   have hl := ho.1
   by_cases e : j = i
   ·subst e; rw [if_pos rfl, List.getElem?_set_self (by have := hi.1; omega)]; rfl
   ·rw [if_neg e, List.getElem?_set_ne (by have := hi.1; omega)]; exact ho.2.2 j h0 h1
theorem at_nat {α : Type} {l : List α} {i : Nat} (h : i < l.length) : at_ l (i : Int) = some l[i] := by
 unfold at_; rw [decide_eq_true (by omega), cond_true]; exact List.getElem?_eq_getElem h
theorem w64_nat {i : Nat} (h : i < 1000000) : w64 ((i : Int) + 1) = ((i + 1 : Nat) : Int) := by rw [w64_id (by omega) (by omega)]; omega
theorem app_snoc {α : Type} (l : List α) (x : α) (h : l.length < 1000000) : app l [x] = some (l ++ [x]) := by
 have e9 : l.length + [x].length ≤ 4294967296 := by simp; omega
 unfold app; rw [decide_eq_true e9]; rfl
def pairsOf (l : List (Int × Int)) : List view_Pair_uint64 := (skeys l).map fun j => ⟨j, (mfind l j).getD 0⟩
theorem ofu_l1 (l : List (Int × Int)) (ys : List Int) (hy : ys.length ≤ 2000) : ∀ (n k i : Nat) (acc : List view_Pair_uint64), i + n = ys.length → n < k → acc = (ys.take i).map (fun j => ⟨j, (mfind l j).getD 0⟩) → view_Of_uint64.l1 (some l) ys k (i, acc) = some (ys.map fun j => ⟨j, (mfind l j).getD 0⟩) := by
 intro n
 induction n with
 | zero =>
  intro k i acc e hk ha
  obtain ⟨k, rfl⟩ : ∃ q, k = q + 1 := ⟨k - 1, by omega⟩
  unfold view_Of_uint64.l1
  rw [decide_eq_false (by omega), cond_false, ha, List.take_of_length_le (by omega)]
 | succ n ih =>
  intro k i acc e hk ha
  obtain ⟨k, rfl⟩ : ∃ q, k = q + 1 := ⟨k - 1, by omega⟩
  unfold view_Of_uint64.l1
  have hi : i < ys.length := by omega
  have hl : acc.length ≤ 2000 := by rw [ha, List.length_map, List.length_take]; omega
  rw [decide_eq_true (by omega), cond_true, at_nat hi, Option.bind_some, w64_nat (by omega)]
  simp only [lk1, mfindO, Option.bind_some]
  rw [app_snoc _ _ (by omega), Option.bind_some]
  refine ih k (i + 1) _ (by omega) (by omega) ?_
  rw [List.take_succ_eq_append_getElem hi, List.map_append, ha]; rfl
theorem ofu_ok (l : List (Int × Int)) (hl : l.length ≤ 1500) (k : Nat) (hk : l.length < k) : view_Of_uint64.f k (some l) = some (pairsOf l, some l) := by
 unfold view_Of_uint64.f
 rw [show skeysO (some l) = some (skeys l) from rfl, Option.bind_some]
 rw [show ((0 : Int), ([] : List view_Pair_uint64)) = (((0 : Nat) : Int), []) from rfl, ofu_l1 l (skeys l) (by rw [skeys_len]; omega) (skeys l).length k 0 [] (Nat.zero_add _) (by rw [skeys_len]; omega) rfl]
 rfl
theorem writes_run (ps : List view_Pair_uint64) (hl : ps.length ≤ 2000) : ∀ (n k i : Nat) (u : List Int), i + n = ps.length → n < k → VM.run plainI (invoke_Do.l1 ps k i) u = some ((), (ps.drop i).foldl (fun u p => plainI.wr u p.At p.Val) u) := by
 intro n
 induction n with
 | zero =>
  intro k i u e hk
  obtain ⟨k, rfl⟩ : ∃ q, k = q + 1 := ⟨k - 1, by omega⟩
  unfold invoke_Do.l1
  rw [decide_eq_false (by omega), cond_false, List.drop_of_length_le (by omega)]; rfl
 | succ n ih =>
  intro k i u e hk
  obtain ⟨k, rfl⟩ : ∃ q, k = q + 1 := ⟨k - 1, by omega⟩
  unfold invoke_Do.l1
  have hi : i < ps.length := by omega
  rw [decide_eq_true (by omega), cond_true, at_nat hi, w64_nat (by omega)]
  rw [List.drop_eq_getElem_cons hi, List.foldl_cons]
  exact ih k (i + 1) _ (by omega) (by omega)
theorem fold_get (o : List (Int × Int)) : ∀ (ys : List Int) (u : List Int), (∀ j ∈ ys, 0 ≤ j ∧ j < (u.length : Int)) →
  ((ys.map fun j => (⟨j, (mfind o j).getD 0⟩ : view_Pair_uint64)).foldl (fun u p => plainI.wr u p.At p.Val) u).length = u.length ∧
  ∀ i : Int, 0 ≤ i → ((ys.map fun j => (⟨j, (mfind o j).getD 0⟩ : view_Pair_uint64)).foldl (fun u p => plainI.wr u p.At p.Val) u)[i.toNat]? = if i ∈ ys then some ((mfind o i).getD 0) else u[i.toNat]? := by
 intro ys
 induction ys with
 | nil => intro u _; exact ⟨rfl, fun i _ => by simp⟩
 | cons y ys ih =>
  intro u h
  have hy := h y List.mem_cons_self
  rw [List.map_cons, List.foldl_cons, show plainI.wr u (⟨y, (mfind o y).getD 0⟩ : view_Pair_uint64).At (⟨y, (mfind o y).getD 0⟩ : view_Pair_uint64).Val = u.set y.toNat ((mfind o y).getD 0) from (writeP u y _).trans (if_pos hy)]
  obtain ⟨h1, h2⟩ := ih (u.set y.toNat ((mfind o y).getD 0)) (fun j hj => by rw [List.length_set]; exact h j (List.mem_cons_of_mem _ hj))
  refine ⟨by rw [h1, List.length_set], fun i hi => ?_⟩
  rw [h2 i hi]
  by_cases c : i ∈ ys
  ·rw [if_pos c, if_pos (List.mem_cons_of_mem _ c)]
  ·rw [if_neg c]
   by_cases e : i = y
   ·subst e; rw [if_pos List.mem_cons_self, List.getElem?_set_self (by omega)]
   ·rw [if_neg (fun z => (List.mem_cons.1 z).elim e c), List.getElem?_set_ne (by omega)]
theorem written {v w : List Int} {o : List (Int × Int)} (h : ovl v o w) : (pairsOf o).foldl (fun u p => plainI.wr u p.At p.Val) v = w := by
 have hk : ∀ j ∈ skeys o, 0 ≤ j ∧ j < (v.length : Int) := fun j hj => by
  obtain ⟨p, hp, rfl⟩ := List.mem_map.1 ((skeys_perm o).mem_iff.1 hj)
  exact h.2.1 p hp
 obtain ⟨h1, h2⟩ := fold_get o (skeys o) v hk
 refine List.ext_getElem? fun n => ?_
 have := h2 (n : Int) (by omega)
 rw [Int.toNat_natCast] at this
 unfold pairsOf
 rw [this]
 by_cases hn : n < v.length
 ·have h3 := h.2.2 (n : Int) (by omega) (by omega)
  rw [Int.toNat_natCast] at h3
  rw [h3]
  by_cases c : (n : Int) ∈ skeys o
  ·obtain ⟨x, hx⟩ := (skeys_mem o n).1 c
   rw [if_pos c, hx]; rfl
  ·rw [if_neg c]
   cases hf : mfind o (n : Int) with
   | some x => exact absurd ((skeys_mem o n).2 ⟨x, hf⟩) c
   | none => rw [List.getElem?_eq_getElem hn]; rfl
 ·have c : (n : Int) ∉ skeys o := fun z => by have := hk _ z; omega
  rw [if_neg c, List.getElem?_eq_none (by omega), List.getElem?_eq_none (by rw [h.1]; omega)]
end Go.Proofs

