/- Plain laws of what is reached, parts Ps4VB, Ps4TxL, Ps4TxD, Ps4S8J, Ps4Dsc, Ps4Help, Ps4Help2, Ps4S8A, Ps4S8I, Ps4S8D, Ps4S8S, Ps4S8T. On no condition. -/
import Derived.Test.YtmodeilahcbidaaFnStmSerial2
import Derived.Test.YtmodeilahcbidaaFr2
import Derived.Test.YtmodeilahcbidaaFr1
import Derived.Test.YtmodeilahcbidaaFnStmSerial1
import Derived.Test.YtmodeilahcbidaaFnStmSerial3
import Derived.Test.YtmodeilahcbidaaFnStmSerial0
set_option linter.all false
/-! Lists of words: fields, views run on a list. -/
set_option linter.unusedVariables false
namespace Go.Proofs
open Go.Sl
def InObj (i f : Int) : Prop := 0 ≤ i ∧ i < 32 ∧ 0 ≤ f ∧ f < 8
instance (i f : Int) : Decidable (InObj i f) := inferInstanceAs (Decidable (_ ∧ _))
theorem prd {s : List Int} {i : Int} (h : 0 ≤ i ∧ i < (s.length : Int)) : plainI.rd s i = (s.getD i.toNat 0, s) := by
  show ((view_Plain_Read.f s i).getD 0, s) = _
  unfold view_Plain_Read.f view_Plain_has.f
  have h2 : s[i.toNat]? = some s[i.toNat] := List.getElem?_eq_getElem (by omega)
  have h1 : (decide (0 ≤ i) && decide (i < (s.length : Int))) = true := by simp; omega
  have h3 : at_ s i = some s[i.toNat] := by unfold at_; rw [decide_eq_true h.1, cond_true, h2]
  simp only [h1, Option.bind_some, Bool.not_true, cond_false, h3, Option.getD_some, List.getD, h2]
theorem pwr {s : List Int} {i x : Int} (h : 0 ≤ i ∧ i < (s.length : Int)) : plainI.wr s i x = s.set i.toNat x := by
  show (view_Plain_Write.f s i x).getD s = _
  unfold view_Plain_Write.f view_Plain_has.f
  have h2 : s[i.toNat]? = some s[i.toNat] := List.getElem?_eq_getElem (by omega)
  have h1 : (decide (0 ≤ i) && decide (i < (s.length : Int))) = true := by simp; omega
  have h3 : at_ s i = some s[i.toNat] := by unfold at_; rw [decide_eq_true h.1, cond_true, h2]
  simp only [h1, Option.bind_some, cond_true, h3, Option.getD_some]
theorem runB {α β : Type} (x : VM α) (g : α → VM β) (s : List Int) : VM.run plainI (x.bind g) s = (VM.run plainI x s).bind fun p => VM.run plainI (g p.1) p.2 := VM.run_bind plainI x g s
theorem runR {α : Type} (a : α) (s : List Int) : VM.run plainI (VM.ret a) s = some (a, s) := rfl
theorem runO {α : Type} (x : Option α) (s : List Int) : VM.run plainI (VM.opt x) s = x.map fun a => (a, s) := by cases x <;> rfl
theorem runC {α : Type} (c : Bool) (x y : VM α) (s : List Int) : VM.run plainI (bif c then x else y) s = bif c then VM.run plainI x s else VM.run plainI y s := by cases c <;> rfl
theorem runRd {α : Type} {i : Int} (g : Int → VM α) {s : List Int} (h : 0 ≤ i ∧ i < (s.length : Int)) : VM.run plainI (VM.rd i g) s = VM.run plainI (g (s.getD i.toNat 0)) s := by
  show VM.run plainI (g (plainI.rd s i).1) (plainI.rd s i).2 = _
  have e := prd h
  exact congrArg (fun p : Int × List Int => VM.run plainI (g p.1) p.2) e
theorem runWr {α : Type} {i x : Int} (g : VM α) {s : List Int} (h : 0 ≤ i ∧ i < (s.length : Int)) : VM.run plainI (VM.wr i x g) s = VM.run plainI g (s.set i.toNat x) := by
  show VM.run plainI g (plainI.wr s i x) = _
  exact congrArg (fun p : List Int => VM.run plainI g p) (pwr h)
/-- As many words as there are, none below 0. -/
def Good (s : List Int) : Prop := s.length = 738 ∧ ∀ j, 0 ≤ s.getD j 0
def goodB (s : List Int) : Bool := s.length == 738 && s.all fun x => decide (0 ≤ x)
theorem good_of {s : List Int} (h : goodB s = true) : Good s := by
  simp only [goodB, Bool.and_eq_true, beq_iff_eq, List.all_eq_true, decide_eq_true_eq] at h
  refine ⟨h.1, fun j => ?_⟩
  rw [List.getD]
  cases e : s[j]? with
  | none => simp
  | some x => simpa using h.2 x (List.mem_of_getElem? e)
def numb (w : Int) : Int := if 4611686018427387904 < w then 0 else w
theorem numb_nn {w : Int} (h : 0 ≤ w) : 0 ≤ numb w := by unfold numb; split <;> omega
theorem numb_le {w : Int} : numb w ≤ 4611686018427387904 := by unfold numb; split <;> omega
theorem numb_id {w : Int} (h : w ≤ 4611686018427387904) : numb w = w := by unfold numb; rw [if_neg (by omega)]
def fld (s : List Int) (i f : Int) : Int := if InObj i f then numb (s.getD (480 + 8 * i + f).toNat 0) else 0
def put (s : List Int) (i f n : Int) : List Int := if InObj i f ∧ 0 ≤ n then s.set (480 + 8 * i + f).toNat n else s
theorem fld_nn {s : List Int} (h : Good s) (i f : Int) : 0 ≤ fld s i f := by
  unfold fld; split
  · exact numb_nn (h.2 _)
  · omega
theorem fld_le (s : List Int) (i f : Int) : fld s i f ≤ 4611686018427387904 := by
  unfold fld; split
  · exact numb_le
  · omega
theorem getD_set (s : List Int) (a b : Nat) (v : Int) : (s.set a v).getD b 0 = if a = b ∧ b < s.length then v else s.getD b 0 := by
  simp only [List.getD]
  by_cases e : a = b
  · subst e
    by_cases h : a < s.length
    · rw [List.getElem?_set_self h]; simp [h]
    · rw [List.getElem?_eq_none (by simpa using h)]
      rw [List.getElem?_eq_none (by omega)]; simp [h]
  · rw [List.getElem?_set_ne e]; simp [e]
theorem put_len (s : List Int) (i f n : Int) : (put s i f n).length = s.length := by unfold put; split <;> simp
theorem good_put {s : List Int} (h : Good s) (i f n : Int) : Good (put s i f n) := by
  refine ⟨by rw [put_len]; exact h.1, fun j => ?_⟩
  unfold put
  split
  · rename_i hn
    rw [getD_set]; split
    · omega
    · exact h.2 j
  · exact h.2 j
theorem fld_put {s : List Int} (h : Good s) (i f n i' f' : Int) (hn : n ≤ 4611686018427387904) : fld (put s i f n) i' f' = if i = i' ∧ f = f' ∧ InObj i f ∧ 0 ≤ n then n else fld s i' f' := by
  unfold put fld
  by_cases h1 : InObj i f ∧ 0 ≤ n
  · rw [if_pos h1]
    by_cases h2 : InObj i' f'
    · rw [if_pos h2, if_pos h2, getD_set, h.1]
      have a := h1.1
      unfold InObj at a h2
      by_cases e : i = i' ∧ f = f'
      · obtain ⟨rfl, rfl⟩ := e
        rw [if_pos ⟨rfl, by omega⟩, if_pos ⟨rfl, rfl, h1.1, h1.2⟩, numb_id hn]
      · rw [if_neg (by omega), if_neg (fun e' => e ⟨e'.1, e'.2.1⟩)]
    · rw [if_neg h2, if_neg h2, if_neg]
      rintro ⟨rfl, rfl, q, _⟩; exact h2 q
  · rw [if_neg h1]
    have : ¬ (i = i' ∧ f = f' ∧ InObj i f ∧ 0 ≤ n) := fun e => h1 e.2.2
    rw [if_neg this]
theorem band_65535 {x : Int} (h : 0 ≤ x) (h2 : x < 9223372036854775808) : band .i64 x 65535 = x % 65536 := by
  have := band_mod_i64 (x := x) 16 (by decide) h (by omega)
  simpa using this
theorem at_some {α : Type} {l : List α} {i : Int} (h : 0 ≤ i) (h2 : i < (l.length : Int)) : ∃ x, at_ l i = some x ∧ x ∈ l := by
  have h3 : l[i.toNat]? = some (l[i.toNat]'(by omega)) := List.getElem?_eq_getElem (by omega)
  refine ⟨l[i.toNat]'(by omega), ?_, List.getElem_mem _⟩
  unfold at_; rw [decide_eq_true h, cond_true, h3]
def hd : List Int → Int
  | [] => 0
  | t :: _ => t + 1
def la (l : List Int) : Int := match l.getLast? with | none => 0 | some t => t + 1
end Go.Proofs
/-! A record, run. -/
set_option linter.unusedVariables false
namespace Go.Proofs
open Go.Sl
section
variable {α β : Type}
theorem srunB (x : VM α) (g : α → VM β) (s : tx_Tx) : VM.run seenI (x.bind g) s = (VM.run seenI x s).bind fun p => VM.run seenI (g p.1) p.2 := VM.run_bind seenI x g s
theorem srunR (a : α) (s : tx_Tx) : VM.run seenI (VM.ret a) s = some (a, s) := rfl
theorem srunO (x : Option α) (s : tx_Tx) : VM.run seenI (VM.opt x) s = x.map fun a => (a, s) := by cases x <;> rfl
theorem srunC (c : Bool) (x y : VM α) (s : tx_Tx) : VM.run seenI (bif c then x else y) s = bif c then VM.run seenI x s else VM.run seenI y s := by cases c <;> rfl
theorem srunRd (i : Int) (g : Int → VM α) (s : tx_Tx) : VM.run seenI (VM.rd i g) s = VM.run seenI (g (rdS s i).1) (rdS s i).2 := by
  show VM.run seenI (g ((tx_seen_Read.f s i).getD (0, s)).1) ((tx_seen_Read.f s i).getD (0, s)).2 = _
  rw [rdS_ok]; rfl
theorem srunWr (i x : Int) (g : VM α) {s : tx_Tx} (h : TxOk s) : VM.run seenI (VM.wr i x g) s = VM.run seenI g (wrS s i x) := by
  show VM.run seenI g ((tx_seen_Write.f s i x).getD s) = _
  rw [wrS_ok h]; rfl
end
/-- What a look at a cell makes of which one is lacked. -/
def upd (cells : Int) (L : List (Int × api_Cell)) (lack i : Int) : Int := if (0 ≤ i ∧ i < cells) ∧ mfind L i = none ∧ lack = -1 then i else lack
theorem upd_upd (cells : Int) (L : List (Int × api_Cell)) (lack i : Int) : upd cells L (upd cells L lack i) i = upd cells L lack i := by
  unfold upd
  by_cases h : (0 ≤ i ∧ i < cells) ∧ mfind L i = none ∧ lack = -1
  · rw [if_pos h, if_neg (by omega)]
  · rw [if_neg h, if_neg h]
theorem hasS_eq {s : tx_Tx} {L : List (Int × api_Cell)} (hl : s.l = some L) (i : Int) : hasS s i = (decide (0 ≤ i ∧ i < s.cells), { s with lack := upd s.cells L s.lack i }) := by
  unfold hasS upd
  by_cases h : i < 0 ∨ s.cells ≤ i
  · rw [if_pos h, if_neg (by omega), decide_eq_false (by omega)]
  · rw [if_neg h, decide_eq_true (by omega)]
    have e : mfindO s.l i = mfind L i := by rw [hl]; rfl
    rw [e]
    by_cases h2 : mfind L i = none ∧ s.lack = -1
    · rw [if_pos h2, if_pos ⟨by omega, h2⟩]
    · rw [if_neg h2, if_neg (fun z => h2 z.2)]
theorem rdS_snd {s : tx_Tx} {L : List (Int × api_Cell)} (hl : s.l = some L) (i : Int) : (rdS s i).2 = { s with lack := upd s.cells L s.lack i } := by rw [rdS_2, hasS_eq hl]
theorem rdS_out {s : tx_Tx} {L : List (Int × api_Cell)} (hl : s.l = some L) {i : Int} (h : ¬ (0 ≤ i ∧ i < s.cells)) : (rdS s i).1 = 0 := by
  unfold rdS
  rw [hasS_eq hl, decide_eq_false h]; rfl
theorem upd_cases (cells : Int) (L : List (Int × api_Cell)) (lack i : Int) : upd cells L lack i = lack ∨ (lack = -1 ∧ upd cells L lack i = i ∧ 0 ≤ i ∧ i < cells ∧ mfind L i = none) := by
  unfold upd; split
  · rename_i h; exact .inr ⟨h.2.2, rfl, h.1.1, h.1.2, h.2.1⟩
  · exact .inl rfl
/-- A record as a run has it: the cells, what it has learnt; which one it lacks. -/
structure Rn (cells : Int) (L : List (Int × api_Cell)) (s : tx_Tx) : Prop where
  ok : TxOk s
  cells : s.cells = cells
  l : s.l = some L
theorem Rn.rd {cells : Int} {L : List (Int × api_Cell)} {s : tx_Tx} (h : Rn cells L s) (i : Int) : Rn cells L (rdS s i).2 ∧ (rdS s i).2.lack = upd cells L s.lack i ∧ (rdS s i).2.out = s.out := by
  have e := rdS_snd h.l i
  refine ⟨⟨?_, by rw [e]; exact h.cells, by rw [e]; exact h.l⟩, by rw [e, h.cells], by rw [e]⟩
  rw [rdS_2]; exact h.ok.has i
theorem Rn.wr {cells : Int} {L : List (Int × api_Cell)} {s : tx_Tx} (h : Rn cells L s) (i x : Int) : Rn cells L (wrS s i x) ∧ (wrS s i x).lack = upd cells L s.lack i := by
  have e := hasS_eq h.l i
  refine ⟨⟨h.ok.wr i x, ?_, ?_⟩, ?_⟩ <;> (unfold wrS; rw [e]; dsimp only; split)
  · exact h.cells
  · exact h.cells
  · exact h.l
  · exact h.l
  · show upd s.cells L s.lack i = _; rw [h.cells]
  · show upd s.cells L s.lack i = _; rw [h.cells]
theorem run_eq {α : Type} (m : VM α) {t : tx_Tx} (h : 0 ≤ t.cells ∧ t.cells ≤ 1024) : tx_Tx_Run.f m t = (VM.run seenI m { t with out := some [], lack := -1 }).bind fun p => some (if p.2.lack = -1 then 0 else p.2.lack, p.2.lack == -1, p.1, { p.2 with fine := p.2.lack == -1 }) := by
  unfold tx_Tx_Run.f
  rw [decide_eq_true h.1, decide_eq_true h.2]; rfl
theorem Rn.start {t : tx_Tx} {L : List (Int × api_Cell)} (hl : t.l = some L) (h : 0 ≤ t.cells ∧ t.cells ≤ 1024) : Rn t.cells L { t with out := some [], lack := -1 } := ⟨⟨h, [], rfl, List.nodup_nil, fun p hp => by cases hp⟩, rfl, hl⟩
theorem at_nat {α : Type} {l : List α} {i : Nat} (h : i < l.length) : at_ l (i : Int) = some l[i] := by
  unfold at_; rw [decide_eq_true (by omega), cond_true]; exact List.getElem?_eq_getElem h
theorem w64_nat {i : Nat} (h : i < 1000000) : w64 ((i : Int) + 1) = ((i + 1 : Nat) : Int) := by rw [w64_id (by omega) (by omega)]; omega
theorem app_one {α : Type} (l : List α) (x : α) (h : l.length < 1000000) : app l [x] = some (l ++ [x]) := by
  have e9 : l.length + [x].length ≤ 4294967296 := by simp; omega
  unfold app; rw [decide_eq_true e9]; rfl
/-- All cells of a map, by rising numbers. -/
def cellsOf (l : List (Int × api_Cell)) : List view_Pair_api_Cell := (skeys l).map fun j => ⟨j, (mfind l j).getD ⟨0, 0, 0⟩⟩
theorem ofc_l1 (l : List (Int × api_Cell)) (ys : List Int) (hy : ys.length ≤ 2000) : ∀ (n k i : Nat) (acc : List view_Pair_api_Cell), i + n = ys.length → n < k → acc = (ys.take i).map (fun j => ⟨j, (mfind l j).getD ⟨0, 0, 0⟩⟩) → view_Of_api_Cell.l1 (some l) ys k (i, acc) = some (ys.map fun j => ⟨j, (mfind l j).getD ⟨0, 0, 0⟩⟩) := by
  intro n
  induction n with
  | zero =>
    intro k i acc e hk ha
    obtain ⟨k, rfl⟩ : ∃ q, k = q + 1 := ⟨k - 1, by omega⟩
    unfold view_Of_api_Cell.l1
    rw [decide_eq_false (by omega), cond_false, ha, List.take_of_length_le (by omega)]
  | succ n ih =>
    intro k i acc e hk ha
    obtain ⟨k, rfl⟩ : ∃ q, k = q + 1 := ⟨k - 1, by omega⟩
    unfold view_Of_api_Cell.l1
    have hi : i < ys.length := by omega
    have hl : acc.length ≤ 2000 := by rw [ha, List.length_map, List.length_take]; omega
    rw [decide_eq_true (by omega), cond_true, at_nat hi, Option.bind_some, w64_nat (by omega)]
    simp only [lk1, mfindO, Option.bind_some]
    rw [app_one _ _ (by omega), Option.bind_some]
    refine ih k (i + 1) _ (by omega) (by omega) ?_
    rw [List.take_succ_eq_append_getElem hi, List.map_append, ha]; rfl
theorem ofc_ok (l : List (Int × api_Cell)) (hl : l.length ≤ 1500) (k : Nat) (hk : 2000 < k) : view_Of_api_Cell.f k (some l) = some (cellsOf l, some l) := by
  unfold view_Of_api_Cell.f
  rw [show skeysO (some l) = some (skeys l) from rfl, Option.bind_some]
  rw [show ((0 : Int), ([] : List view_Pair_api_Cell)) = (((0 : Nat) : Int), []) from rfl, ofc_l1 l (skeys l) (by rw [skeys_len]; omega) (skeys l).length k 0 [] (Nat.zero_add _) (by rw [skeys_len]; omega) rfl]
  rfl
/-- An entry, of a cell that was learnt. -/
def entOf (out : Option (List (Int × Int))) (p : view_Pair_api_Cell) : tx_Entry :=
  match mfindO out p.At with
  | some v => ⟨p.At, p.Val.Version, p.Val.Value, v, v != p.Val.Value⟩
  | none => ⟨p.At, p.Val.Version, p.Val.Value, p.Val.Value, false⟩
theorem ent_l1 (t : tx_Tx) (ps : List view_Pair_api_Cell) (hp : ps.length ≤ 2000) : ∀ (n k i : Nat) (acc : List tx_Entry), i + n = ps.length → n < k → acc = (ps.take i).map (entOf t.out) → tx_Tx_Entries.l1 t ps k (acc, i) = some (ps.map (entOf t.out)) := by
  intro n
  induction n with
  | zero =>
    intro k i acc e hk ha
    obtain ⟨k, rfl⟩ : ∃ q, k = q + 1 := ⟨k - 1, by omega⟩
    unfold tx_Tx_Entries.l1
    rw [decide_eq_false (by omega), cond_false, ha, List.take_of_length_le (by omega)]
  | succ n ih =>
    intro k i acc e hk ha
    obtain ⟨k, rfl⟩ : ∃ q, k = q + 1 := ⟨k - 1, by omega⟩
    unfold tx_Tx_Entries.l1
    have hi : i < ps.length := by omega
    have hl : acc.length ≤ 2000 := by rw [ha, List.length_map, List.length_take]; omega
    rw [decide_eq_true (by omega), cond_true, at_nat hi, Option.bind_some, w64_nat (by omega)]
    have hnext := ih k (i + 1) (acc ++ [entOf t.out ps[i]]) (by omega) (by omega) (by rw [List.take_succ_eq_append_getElem hi, List.map_append, ha]; rfl)
    cases hm : mfindO t.out ps[i].At with
    | none =>
      have e1 : entOf t.out ps[i] = ⟨ps[i].At, ps[i].Val.Version, ps[i].Val.Value, ps[i].Val.Value, false⟩ := by unfold entOf; rw [hm]
      simp only [lkO, hm, Option.bind_some, Option.isSome_none, cond_false]
      rw [app_one _ _ (by omega), Option.bind_some, ← e1]; exact hnext
    | some v =>
      have e1 : entOf t.out ps[i] = ⟨ps[i].At, ps[i].Val.Version, ps[i].Val.Value, v, v != ps[i].Val.Value⟩ := by unfold entOf; rw [hm]
      simp only [lkO, hm, Option.bind_some, Option.isSome_some, Option.getD_some, cond_true]
      rw [app_one _ _ (by omega), Option.bind_some, ← e1]; exact hnext
theorem entries_ok {t : tx_Tx} {L : List (Int × api_Cell)} (hl : t.l = some L) (hlen : L.length ≤ 1500) (k : Nat) (hk : 2000 < k) : tx_Tx_Entries.f k t = some (if t.fine = true then (cellsOf L).map (entOf t.out) else [], t) := by
  unfold tx_Tx_Entries.f
  by_cases hf : t.fine = true
  · rw [hf, if_pos rfl]
    simp only [Bool.not_true, cond_false]
    rw [hl, ofc_ok L hlen k hk, Option.bind_some]
    dsimp only
    have hc : (cellsOf L).length ≤ 2000 := by unfold cellsOf; rw [List.length_map, skeys_len]; omega
    rw [show (([] : List tx_Entry), (0 : Int)) = ([], ((0 : Nat) : Int)) from rfl, ent_l1 t (cellsOf L) hc (cellsOf L).length k 0 [] (Nat.zero_add _) (by unfold cellsOf; rw [List.length_map, skeys_len]; omega) rfl, Option.bind_some, ← hl, ← hf]
  · have : t.fine = false := by cases h : t.fine <;> simp_all
    rw [this, if_neg (by simp)]; rfl
theorem learn_ok {t : tx_Tx} {L : List (Int × api_Cell)} (hl : t.l = some L) (hlen : L.length < 100000) (hc : t.cells ≤ 1024) (i : Int) (c : api_Cell) : tx_Tx_Learn.f t i c = some (if 0 ≤ i ∧ i < t.cells then { t with l := some (mset L i c) } else t) := by
  unfold tx_Tx_Learn.f
  by_cases h0 : 0 ≤ i
  · by_cases h1 : i < t.cells
    · rw [decide_eq_true h0, decide_eq_true h1, if_pos ⟨h0, h1⟩]
      simp only [cond_true, Option.bind_some, hl, mputO, mput, wfI64 (i := i) (by omega) (by omega), Bool.true_and]
      rw [decide_eq_true (by omega : L.length < 4294967296)]; rfl
    · rw [decide_eq_true h0, decide_eq_false h1, if_neg (by omega)]; rfl
  · rw [decide_eq_false h0, if_neg (by omega)]; rfl
end Go.Proofs
/-! The law's function, of a record's view, and of a list. -/
set_option linter.unusedVariables false
namespace Go.Proofs
open Go.Sl
def pget (p : List Int) (i : Int) : Int := if 0 ≤ i ∧ i < (p.length : Int) then p.getD i.toNat 0 else 0
def pput (p : List Int) (i x : Int) : List Int := if 0 ≤ i ∧ i < (p.length : Int) then p.set i.toNat x else p
theorem pl_rd {α : Type} (i : Int) (g : Int → VM α) (p : List Int) : VM.run plainI (VM.rd i g) p = VM.run plainI (g (pget p i)) p := by
  show VM.run plainI (g (plainI.rd p i).1) (plainI.rd p i).2 = _
  have e : plainI.rd p i = (pget p i, p) := by
    unfold pget
    by_cases h : 0 ≤ i ∧ i < (p.length : Int)
    · rw [prd h, if_pos h]
    · rw [if_neg h]
      show ((view_Plain_Read.f p i).getD 0, p) = _
      unfold view_Plain_Read.f view_Plain_has.f
      have : (decide (0 ≤ i) && decide (i < (p.length : Int))) = false := by
        by_cases h0 : 0 ≤ i
        · rw [decide_eq_true h0, decide_eq_false (by omega)]; rfl
        · rw [decide_eq_false h0]; rfl
      rw [this]; rfl
  rw [e]
theorem pl_wr {α : Type} (i x : Int) (g : VM α) (p : List Int) : VM.run plainI (VM.wr i x g) p = VM.run plainI g (pput p i x) := by
  show VM.run plainI g (plainI.wr p i x) = _
  have e : plainI.wr p i x = pput p i x := by
    unfold pput
    by_cases h : 0 ≤ i ∧ i < (p.length : Int)
    · rw [pwr h, if_pos h]
    · rw [if_neg h]
      show (view_Plain_Write.f p i x).getD p = _
      unfold view_Plain_Write.f view_Plain_has.f
      have : (decide (0 ≤ i) && decide (i < (p.length : Int))) = false := by
        by_cases h0 : 0 ≤ i
        · rw [decide_eq_true h0, decide_eq_false (by omega)]; rfl
        · rw [decide_eq_false h0]; rfl
      rw [this]; rfl
  rw [e]
theorem pput_len (p : List Int) (i x : Int) : (pput p i x).length = p.length := by unfold pput; split <;> simp
theorem pget_put (p : List Int) (i x c : Int) (hc : 0 ≤ c ∧ c < (p.length : Int)) : pget (pput p i x) c = if i = c then x else pget p c := by
  have e1 : pget (pput p i x) c = (pput p i x).getD c.toNat 0 := by unfold pget; rw [pput_len, if_pos hc]
  have e2 : pget p c = p.getD c.toNat 0 := by unfold pget; rw [if_pos hc]
  rw [e1, e2]
  unfold pput
  by_cases h : i = c
  · subst h; rw [if_pos hc, getD_set, if_pos ⟨rfl, by omega⟩, if_pos rfl]
  · rw [if_neg h]
    split
    · rw [getD_set, if_neg (by omega)]
    · rfl
section
variable (cells : Int) (L : List (Int × api_Cell)) (val : Int → Int)
/-- The list has what was written, and what was learnt. -/
structure Sim (s : tx_Tx) (p : List Int) : Prop where
  len : (p.length : Int) = cells
  get : ∀ c, 0 ≤ c → c < cells → pget p c = (mfindO s.out c).getD (val c)
  keys : ∀ c v, mfindO s.out c = some v → ∃ z, mfind L c = some z
def LackOk (c : Int) : Prop := c = -1 ∨ (0 ≤ c ∧ c < cells ∧ mfind L c = none)
/-- What was learnt is so. -/
def Known : Prop := ∀ c z, mfind L c = some z → z.Value = val c ∧ 0 ≤ c ∧ c < cells
variable {cells L val}
theorem LackOk.upd {c : Int} (h : LackOk cells L c) (i : Int) : LackOk cells L (upd cells L c i) := by
  rcases upd_cases cells L c i with e | ⟨_, e, h1, h2, h3⟩
  · rw [e]; exact h
  · rw [e]; exact .inr ⟨h1, h2, h3⟩
theorem upd_m1 {c i : Int} (h : upd cells L c i = -1) : c = -1 ∧ ((0 ≤ i ∧ i < cells) → ∃ z, mfind L i = some z) := by
  unfold upd at h
  split at h
  · rename_i q; omega
  · rename_i q
    refine ⟨h, fun hin => ?_⟩
    cases hf : mfind L i with
    | some z => exact ⟨z, rfl⟩
    | none => exact absurd ⟨hin, hf, h⟩ q
theorem Sim.rd {s : tx_Tx} {p : List Int} (hk : Known cells L val) (hr : Rn cells L s) (h : Sim cells L val s p) {i : Int} (hl : upd cells L s.lack i = -1) : (rdS s i).1 = pget p i ∧ Sim cells L val (rdS s i).2 p := by
  have e := rdS_snd hr.l i
  obtain ⟨h1, h2⟩ := upd_m1 hl
  refine ⟨?_, ?_⟩
  · by_cases hin : 0 ≤ i ∧ i < cells
    · obtain ⟨z, hz⟩ := h2 hin
      rw [h.get i hin.1 hin.2]
      unfold rdS
      rw [hasS_eq hr.l, hr.cells, decide_eq_true hin, if_pos rfl]
      dsimp only
      cases ho : mfindO s.out i with
      | some v => rfl
      | none =>
        have : mfindO s.l i = some z := by rw [hr.l]; exact hz
        rw [this]
        exact (hk i z hz).1
    · rw [rdS_out hr.l (by rw [hr.cells]; exact hin)]
      unfold pget; rw [if_neg (by rw [h.len]; exact hin)]
  · rw [e]; exact ⟨h.len, h.get, h.keys⟩
theorem Sim.wr {s : tx_Tx} {p : List Int} (hr : Rn cells L s) (h : Sim cells L val s p) {i x : Int} (hl : upd cells L s.lack i = -1) : Sim cells L val (wrS s i x) (pput p i x) := by
  obtain ⟨h1, h2⟩ := upd_m1 hl
  have e := hasS_eq hr.l i
  obtain ⟨_, o, ho, _, _⟩ := hr.ok
  by_cases hin : 0 ≤ i ∧ i < cells
  · have ew : (wrS s i x).out = some (mset o i x) := by
      unfold wrS; rw [e, hr.cells, decide_eq_true hin, if_pos rfl]; simp [ho]
    have ef : ∀ c, mfindO (wrS s i x).out c = if c = i then some x else mfindO s.out c := fun c => by
      rw [ew, ho]; show mfind (mset o i x) c = _; rw [mfind_set]; rfl
    refine ⟨by rw [pput_len]; exact h.len, fun c c0 c1 => ?_, fun c v hv => ?_⟩
    · rw [pget_put _ _ _ _ ⟨c0, by rw [h.len]; exact c1⟩, ef]
      by_cases q : i = c
      · rw [if_pos q, if_pos q.symm]; rfl
      · rw [if_neg q, if_neg (Ne.symm q)]; exact h.get c c0 c1
    · rw [ef] at hv
      by_cases q : c = i
      · rw [q]; exact h2 hin
      · rw [if_neg q] at hv; exact h.keys c v hv
  · have ew : (wrS s i x).out = s.out := by
      unfold wrS; rw [e, hr.cells, decide_eq_false hin, if_neg (by simp)]
    have ep : pput p i x = p := by unfold pput; rw [if_neg (by rw [h.len]; exact hin)]
    rw [ep]
    exact ⟨h.len, fun c c0 c1 => by rw [ew]; exact h.get c c0 c1, fun c v hv => by rw [ew] at hv; exact h.keys c v hv⟩
theorem optB {α β : Type} (x : α) (g : α → VM β) : (VM.opt (some x)).bind g = g x := rfl
theorem do_run (hk : Known cells L val) (l : List law06_Op) (hl40 : l.length ≤ 40) (hN : ∀ x ∈ l, 0 ≤ x.N) : ∀ (n k i : Nat) (sum : Int) (s : tx_Tx), l.length ≤ i + n → i ≤ 50 → n < k → Rn cells L s → LackOk cells L s.lack →
    ∃ r s', VM.run seenI (law06_Do.l1 l k (i, sum)) s = some (r, s') ∧ Rn cells L s' ∧ LackOk cells L s'.lack ∧ (s'.lack = -1 → s.lack = -1 ∧ ∀ p, Sim cells L val s p → ∃ p', (∀ k2, n < k2 → VM.run plainI (law06_Do.l1 l k2 (i, sum)) p = some (r, p')) ∧ Sim cells L val s' p') := by
  intro n
  induction n with
  | zero =>
    intro k i sum s e h50 hk' hr hlk
    have hq : ∀ q, law06_Do.l1 l (q + 1) ((i : Int), sum) = VM.ret sum := fun q => by
      unfold law06_Do.l1
      rw [decide_eq_false (by omega)]; rfl
    obtain ⟨k, rfl⟩ : ∃ q, k = q + 1 := ⟨k - 1, by omega⟩
    rw [hq]
    refine ⟨sum, s, rfl, hr, hlk, fun z => ⟨z, fun p hp => ⟨p, fun k2 h2 => ?_, hp⟩⟩⟩
    obtain ⟨k2, rfl⟩ : ∃ q, k2 = q + 1 := ⟨k2 - 1, by omega⟩
    rw [hq]; rfl
  | succ n ih =>
    intro k i sum s e h50 hk' hr hlk
    obtain ⟨k, rfl⟩ : ∃ q, k = q + 1 := ⟨k - 1, by omega⟩
    by_cases hi : i < l.length
    · have hmod : 0 ≤ l[i].N.tmod 4 ∧ l[i].N.tmod 4 < 4 := by
        have := hN l[i] (List.getElem_mem hi)
        rw [Int.tmod_eq_emod_of_nonneg this]; omega
      obtain ⟨j, hj, hj4⟩ : ∃ j : Nat, l[i].N.tmod 4 = j ∧ j < 4 := ⟨(l[i].N.tmod 4).toNat, by omega, by omega⟩
      have ej : w64 (w64 ((i : Int) + w64 (l[i].N.tmod 4)) + 1) = ((i + j + 1 : Nat) : Int) := by
        have q1 : w64 (j : Int) = j := w64_id (by omega) (by omega)
        have q2 : w64 ((i : Int) + j) = i + j := w64_id (by omega) (by omega)
        have q3 : w64 ((i : Int) + j + 1) = i + j + 1 := w64_id (by omega) (by omega)
        rw [hj, q1, q2, q3]; omega
      have hq : ∀ q, law06_Do.l1 l (q + 1) ((i : Int), sum) = VM.rd l[i].From fun x => bif l[i].Jump && (x.tmod 2 == 1) then law06_Do.l1 l q (((i + j + 1 : Nat) : Int), wu64 (wu64 (sum * 3) + x)) else bif !l[i].Look then VM.wr l[i].To (wu64 (x + l[i].N)) (law06_Do.l1 l q (((i + 1 : Nat) : Int), wu64 (wu64 (sum * 3) + x))) else law06_Do.l1 l q (((i + 1 : Nat) : Int), wu64 (wu64 (sum * 3) + x)) := fun q => by
        rw [law06_Do.l1, decide_eq_true (by omega), cond_true]
        simp only [at_nat hi, optB, ej, w64_nat (by omega : i < 1000000)]
      obtain ⟨g1, u1, _⟩ := hr.rd l[i].From
      have hlk1 : LackOk cells L (rdS s l[i].From).2.lack := by rw [u1]; exact hlk.upd _
      rw [hq, srunRd]
      generalize hx : (rdS s l[i].From).1 = x at *
      have hpl : (rdS s l[i].From).2.lack = -1 → ∀ p, Sim cells L val s p → x = pget p l[i].From ∧ Sim cells L val (rdS s l[i].From).2 p := fun z p hp => by
        rw [← hx]; exact hp.rd hk hr (by rw [← u1]; exact z)
      have hback : (rdS s l[i].From).2.lack = -1 → s.lack = -1 := fun z => (upd_m1 (by rw [← u1]; exact z)).1
      by_cases cj : (l[i].Jump && (x.tmod 2 == 1)) = true
      · rw [cj, cond_true]
        obtain ⟨r, s', p1, p2, p3, p4⟩ := ih k (i + j + 1) (wu64 (wu64 (sum * 3) + x)) (rdS s l[i].From).2 (by omega) (by omega) (by omega) g1 hlk1
        refine ⟨r, s', p1, p2, p3, fun z => ?_⟩
        obtain ⟨z1, z2⟩ := p4 z
        refine ⟨hback z1, fun p hp => ?_⟩
        obtain ⟨a1, a2⟩ := hpl z1 p hp
        obtain ⟨p', b1, b2⟩ := z2 p a2
        refine ⟨p', fun k2 h2 => ?_, b2⟩
        obtain ⟨k2, rfl⟩ : ∃ q, k2 = q + 1 := ⟨k2 - 1, by omega⟩
        rw [hq, pl_rd, ← a1, cj, cond_true]; exact b1 k2 (by omega)
      · have cj' : (l[i].Jump && (x.tmod 2 == 1)) = false := by simpa using cj
        rw [cj', cond_false]
        by_cases cl : l[i].Look = true
        · rw [cl]
          simp only [Bool.not_true, cond_false]
          obtain ⟨r, s', p1, p2, p3, p4⟩ := ih k (i + 1) (wu64 (wu64 (sum * 3) + x)) (rdS s l[i].From).2 (by omega) (by omega) (by omega) g1 hlk1
          refine ⟨r, s', p1, p2, p3, fun z => ?_⟩
          obtain ⟨z1, z2⟩ := p4 z
          refine ⟨hback z1, fun p hp => ?_⟩
          obtain ⟨a1, a2⟩ := hpl z1 p hp
          obtain ⟨p', b1, b2⟩ := z2 p a2
          refine ⟨p', fun k2 h2 => ?_, b2⟩
          obtain ⟨k2, rfl⟩ : ∃ q, k2 = q + 1 := ⟨k2 - 1, by omega⟩
          rw [hq, pl_rd, ← a1, cj', cond_false, cl]; exact b1 k2 (by omega)
        · have cl' : l[i].Look = false := by simpa using cl
          rw [cl']
          simp only [Bool.not_false, cond_true]
          rw [srunWr _ _ _ g1.ok]
          obtain ⟨g2, u2⟩ := g1.wr l[i].To (wu64 (x + l[i].N))
          obtain ⟨r, s', p1, p2, p3, p4⟩ := ih k (i + 1) (wu64 (wu64 (sum * 3) + x)) (wrS (rdS s l[i].From).2 l[i].To (wu64 (x + l[i].N))) (by omega) (by omega) (by omega) g2 (by rw [u2]; exact hlk1.upd _)
          refine ⟨r, s', p1, p2, p3, fun z => ?_⟩
          obtain ⟨z1, z2⟩ := p4 z
          rw [u2] at z1
          have z0 := (upd_m1 z1).1
          refine ⟨hback z0, fun p hp => ?_⟩
          obtain ⟨a1, a2⟩ := hpl z0 p hp
          obtain ⟨p', b1, b2⟩ := z2 _ (a2.wr (x := wu64 (x + l[i].N)) g1 z1)
          refine ⟨p', fun k2 h2 => ?_, b2⟩
          obtain ⟨k2, rfl⟩ : ∃ q, k2 = q + 1 := ⟨k2 - 1, by omega⟩
          rw [hq, pl_rd, ← a1, cj', cond_false, cl']
          simp only [Bool.not_false, cond_true]
          rw [pl_wr]; exact b1 k2 (by omega)
    · have hq : ∀ q, law06_Do.l1 l (q + 1) ((i : Int), sum) = VM.ret sum := fun q => by
        unfold law06_Do.l1
        rw [decide_eq_false (by omega)]; rfl
      rw [hq]
      refine ⟨sum, s, rfl, hr, hlk, fun z => ⟨z, fun p hp => ⟨p, fun k2 h2 => ?_, hp⟩⟩⟩
      obtain ⟨k2, rfl⟩ : ∃ q, k2 = q + 1 := ⟨k2 - 1, by omega⟩
      rw [hq]; rfl
end
end Go.Proofs
/-! A job, run on a record. -/
set_option linter.unusedVariables false
namespace Go.Proofs
open Go.Sl
/-- What a job comes to, where the cells are as the entries tell. -/
def EntOk (n : Nat) (ops : List law06_Op) (l : List tx_Entry) (told : Int) : Prop :=
  ∀ p : List Int, p.length = n → (∀ e ∈ l, pget p e.Cell = e.Old) → ∃ r p', (∀ k2, 50 < k2 → VM.run plainI (law06_Do.f k2 ops) p = some (r, p')) ∧ told = w64 (r.tmod 1000000) ∧ p'.length = n ∧
    ∀ c, 0 ≤ c → c < (n : Int) → pget p' c = match l.find? (fun e => e.Cell == c) with | some e => if e.Write = true then e.New else pget p c | none => pget p c
def entsOf (T : List (Int × api_Cell)) (out : Option (List (Int × Int))) : List tx_Entry := (cellsOf T).map (entOf out)
theorem entOf_f (out : Option (List (Int × Int))) (p : view_Pair_api_Cell) : (entOf out p).Cell = p.At ∧ (entOf out p).Version = p.Val.Version ∧ (entOf out p).Old = p.Val.Value := by
  unfold entOf; split <;> exact ⟨rfl, rfl, rfl⟩
theorem ents_mem {T : List (Int × api_Cell)} {out : Option (List (Int × Int))} {e : tx_Entry} (h : e ∈ entsOf T out) : ∃ z, mfind T e.Cell = some z ∧ e.Version = z.Version ∧ e.Old = z.Value ∧ e = entOf out ⟨e.Cell, z⟩ := by
  unfold entsOf cellsOf at h
  rw [List.mem_map] at h
  obtain ⟨p, hp, rfl⟩ := h
  rw [List.mem_map] at hp
  obtain ⟨j, hj, rfl⟩ := hp
  obtain ⟨z, hz⟩ := (skeys_mem T j).1 hj
  obtain ⟨h1, h2, h3⟩ := entOf_f out ⟨j, (mfind T j).getD ⟨0, 0, 0⟩⟩
  refine ⟨z, by rw [h1]; exact hz, by rw [h2, hz]; rfl, by rw [h3, hz]; rfl, ?_⟩
  rw [h1, hz]; rfl
theorem ents_len (T : List (Int × api_Cell)) (out : Option (List (Int × Int))) : (entsOf T out).length = T.length := by
  unfold entsOf cellsOf; rw [List.length_map, List.length_map, skeys_len]
theorem ents_get {T : List (Int × api_Cell)} {out : Option (List (Int × Int))} {i : Nat} {e : tx_Entry} (h : (entsOf T out)[i]? = some e) : (skeys T)[i]? = some e.Cell := by
  unfold entsOf cellsOf at h
  rw [List.getElem?_map, List.getElem?_map] at h
  cases hs : (skeys T)[i]? with
  | none => rw [hs] at h; cases h
  | some j =>
    rw [hs] at h
    simp only [Option.map_some, Option.some.injEq] at h
    rw [← h, (entOf_f _ _).1]
theorem ents_rise {T : List (Int × api_Cell)} {out : Option (List (Int × Int))} (hok : MOk T) {i j : Nat} {e f : tx_Entry} (hij : i < j) (he : (entsOf T out)[i]? = some e) (hf : (entsOf T out)[j]? = some f) : e.Cell < f.Cell := by
  have h1 := ents_get he
  have h2 := ents_get hf
  obtain ⟨a1, a2⟩ := List.getElem?_eq_some_iff.1 h1
  obtain ⟨b1, b2⟩ := List.getElem?_eq_some_iff.1 h2
  have := (List.pairwise_iff_getElem.1 (skeys_sorted hok)) i j a1 b1 hij
  rw [a2, b2] at this; exact this
theorem ents_find {T : List (Int × api_Cell)} {out : Option (List (Int × Int))} (c : Int) : (entsOf T out).find? (fun e => e.Cell == c) = (mfind T c).map fun z => entOf out ⟨c, z⟩ := by
  cases hz : mfind T c with
  | none =>
    rw [Option.map_none]
    refine List.find?_eq_none.2 fun e he q => ?_
    obtain ⟨z, h1, _⟩ := ents_mem he
    rw [show e.Cell = c by simpa using q, hz] at h1; cases h1
  | some z =>
    rw [Option.map_some]
    cases hf : (entsOf T out).find? (fun e => e.Cell == c) with
    | none =>
      have hin : entOf out ⟨c, z⟩ ∈ entsOf T out := by
        unfold entsOf cellsOf
        refine List.mem_map.2 ⟨⟨c, z⟩, List.mem_map.2 ⟨c, (skeys_mem T c).2 ⟨z, hz⟩, by rw [hz]; rfl⟩, rfl⟩
      have := List.find?_eq_none.1 hf _ hin
      rw [(entOf_f _ _).1] at this
      simp at this
    | some e =>
      have h1 : e.Cell = c := by
        have := List.find?_some (p := fun e : tx_Entry => e.Cell == c) hf
        simpa using this
      obtain ⟨z', h2, _, _, h3⟩ := ents_mem (List.mem_of_find?_eq_some hf)
      rw [h1, hz] at h2; injection h2 with h2; subst h2
      rw [h3, h1]
/-- A record that may be run. -/
structure RecT (n : Nat) (t : tx_Tx) (T : List (Int × api_Cell)) : Prop where
  cells : t.cells = n
  l : t.l = some T
  ok : MOk T
  rng : ∀ c z, mfind T c = some z → 0 ≤ c ∧ c < (n : Int)
theorem RecT.few {n : Nat} {t : tx_Tx} {T : List (Int × api_Cell)} (h : RecT n t T) : T.length ≤ n := by
  have hok : (T.map (·.1)).Nodup := h.ok
  have := nodup_few n (T.map (·.1)) hok (fun x hx => by
    obtain ⟨z, hz⟩ := (mfind_keys T x).1 hx
    exact h.rng x z hz)
  simpa using this
theorem job_run {n : Nat} (hn : n ≤ 1000) {t : tx_Tx} {T : List (Int × api_Cell)} (h : RecT n t T) (ops : List law06_Op) (h40 : ops.length ≤ 40) (hN : ∀ x ∈ ops, 0 ≤ x.N) {k : Nat} (hk : 50 < k) :
    ∃ lack told t', tx_Tx_Run.f (law08_jobs_1.f k ops) t = some (if lack = -1 then 0 else lack, lack == -1, told, t') ∧ RecT n t' T ∧ t'.fine = (lack == -1) ∧ (lack ≠ -1 → 0 ≤ lack ∧ lack < (n : Int) ∧ mfind T lack = none) ∧ (lack = -1 → EntOk n ops (entsOf T t'.out) told) := by
  have hcell : 0 ≤ t.cells ∧ t.cells ≤ 1024 := by rw [h.cells]; omega
  have hst : Rn (n : Int) T { t with out := some [], lack := -1 } := by
    have := Rn.start h.l hcell
    rw [h.cells] at this; rw [h.cells]; exact this
  have hk0 : Known (n : Int) T (fun c => ((mfind T c).getD ⟨0, 0, 0⟩).Value) := fun c z hz => ⟨by show _ = ((mfind T c).getD ⟨0, 0, 0⟩).Value; rw [hz]; rfl, h.rng c z hz⟩
  obtain ⟨r, s', p1, p2, p3, p4⟩ := do_run hk0 ops h40 hN 50 k 0 0 _ (by omega) (by omega) (by omega) hst (.inl rfl)
  rw [show ((0 : Nat) : Int) = 0 from rfl] at p1
  have hrun : VM.run seenI (law08_jobs_1.f k ops) { t with out := some [], lack := -1 } = some (w64 (r.tmod 1000000), s') := by
    unfold law08_jobs_1.f law06_Do.f
    rw [srunB, srunB, p1]; rfl
  refine ⟨s'.lack, w64 (r.tmod 1000000), { s' with fine := s'.lack == -1 }, ?_, ⟨p2.cells, p2.l, h.ok, h.rng⟩, rfl, fun hz => p3.resolve_left hz, fun hz p hp he => ?_⟩
  · rw [run_eq _ hcell, hrun]; rfl
  · have hkp : Known (n : Int) T (fun c => pget p c) := fun c z hz2 => by
      refine ⟨?_, h.rng c z hz2⟩
      have hin : entOf s'.out ⟨c, z⟩ ∈ entsOf T s'.out := by
        unfold entsOf cellsOf
        exact List.mem_map.2 ⟨⟨c, z⟩, List.mem_map.2 ⟨c, (skeys_mem T c).2 ⟨z, hz2⟩, by rw [hz2]; rfl⟩, rfl⟩
      have := he _ hin
      obtain ⟨h1, _, h3⟩ := entOf_f s'.out ⟨c, z⟩
      rw [h1, h3] at this; exact this.symm
    obtain ⟨r2, s2, q1, q2, q3, q4⟩ := do_run hkp ops h40 hN 50 k 0 0 _ (by omega) (by omega) (by omega) hst (.inl rfl)
    rw [show ((0 : Nat) : Int) = 0 from rfl] at q1 q4
    rw [p1] at q1; injection q1 with q1; injection q1 with q0 q1; subst q0; subst q1
    obtain ⟨_, hq⟩ := q4 hz
    have sim0 : Sim (n : Int) T (fun c => pget p c) { t with out := some [], lack := -1 } p := ⟨by omega, fun c c0 c1 => rfl, fun c v hv => by cases hv⟩
    obtain ⟨p', hp1, hp2⟩ := hq p sim0
    refine ⟨r, p', fun k2 h2 => ?_, rfl, by have := hp2.len; omega, fun c c0 c1 => ?_⟩
    · unfold law06_Do.f
      rw [runB, hp1 k2 h2]; rfl
    · rw [hp2.get c c0 c1]
      show _ = match (entsOf T s'.out).find? (fun e => e.Cell == c) with | some e => if e.Write = true then e.New else pget p c | none => pget p c
      rw [ents_find]
      cases hz2 : mfind T c with
      | none =>
        cases ho : mfindO s'.out c with
        | none => rfl
        | some v => obtain ⟨z, hz3⟩ := hp2.keys c v ho; rw [hz2] at hz3; cases hz3
      | some z =>
        rw [Option.map_some]
        have hv : z.Value = pget p c := (hkp c z hz2).1
        unfold entOf
        cases ho : mfindO s'.out c with
        | none => rfl
        | some v =>
          dsimp only
          by_cases e : v = z.Value
          · rw [e, bne_self_eq_false, if_neg (by simp), hv]; rfl
          · rw [if_pos (by simpa using e)]; rfl
end Go.Proofs
/-! A descriptor's step, told plainly. -/
set_option linter.unusedVariables false
namespace Go.Proofs
open Go.Sl
theorem atn {α : Type} {l : List α} {i : Nat} (h : i < l.length) : at_ l (i : Int) = some l[i] := by
  unfold at_; rw [decide_eq_true (by omega), cond_true]; exact List.getElem?_eq_getElem h
theorem at_none {α : Type} {l : List α} {i : Int} (h : ¬ (0 ≤ i ∧ i < (l.length : Int))) : at_ l i = none := by
  unfold at_
  by_cases h0 : 0 ≤ i
  · rw [decide_eq_true h0, cond_true]; exact List.getElem?_eq_none (by omega)
  · rw [decide_eq_false h0]; rfl
theorem at_val {α : Type} {l : List α} {i : Int} {x : α} (h : at_ l i = some x) : 0 ≤ i ∧ i < (l.length : Int) ∧ l[i.toNat]? = some x := at_spec h
theorem at_of {α : Type} {l : List α} {i : Int} {x : α} (h0 : 0 ≤ i) (h : l[i.toNat]? = some x) : at_ l i = some x := by
  unfold at_; rw [decide_eq_true h0, cond_true, h]
theorem at_set {α : Type} {l : List α} {i : Int} {x : α} (h : at_ l i = some x) (y : α) (j : Int) : at_ (l.set i.toNat y) j = if j = i then some y else at_ l j := by
  obtain ⟨h0, h1, h2⟩ := at_val h
  by_cases e : j = i
  · subst e
    rw [if_pos rfl]; exact at_of h0 (List.getElem?_set_self (by omega))
  · rw [if_neg e]
    by_cases hj : 0 ≤ j
    · unfold at_; rw [decide_eq_true hj, cond_true, cond_true, List.getElem?_set_ne (by omega)]
    · unfold at_; rw [decide_eq_false hj]; rfl
/-- What a release leaves of a cell. -/
def relC (d : desc_Desc) (e : tx_Entry) (c : api_Cell) : api_Cell := if d.status = 1 ∧ e.Write = true then ⟨e.New, wu32 (c.Version + 1), 0⟩ else { c with Mark := 0 }
def dstep (lim : Int) (d : desc_Desc) (L : List api_Cell) : Int × desc_Desc × List api_Cell :=
  if d.status ≠ 0 then
    match at_ d.l d.at_ with
    | none => (0, d, L)
    | some e =>
      match at_ L e.Cell with
      | none => (0, { d with at_ := d.at_ + 1 }, L)
      | some c => if c.Mark = d.mark then (0, { d with at_ := d.at_ + 1 }, L.set e.Cell.toNat (relC d e c)) else (0, { d with at_ := d.at_ + 1 }, L)
  else
    match at_ d.l d.at_ with
    | none => (0, { d with status := 1, at_ := 0 }, L)
    | some e =>
      match at_ L e.Cell with
      | none => (0, { d with status := 2, at_ := 0 }, L)
      | some c =>
        if c.Mark ≠ 0 ∧ c.Mark ≠ d.mark then (c.Mark, d, L)
        else if c.Version ≠ e.Version then (0, { d with status := 2, at_ := 0 }, L)
        else if e.Write = true ∧ c.Version = lim then (0, { d with status := 3, at_ := 0 }, L)
        else (0, { d with at_ := d.at_ + 1 }, L.set e.Cell.toNat { c with Mark := d.mark })
/-- What holds of a descriptor, beside the cells. -/
structure DI (lim : Int) (d : desc_Desc) (L : List api_Cell) : Prop where
  mark : 1 ≤ d.mark
  at0 : 0 ≤ d.at_
  at1 : d.at_ ≤ (d.l.length : Int)
  len : d.l.length ≤ 100000
  st : d.status = 0 ∨ d.status = 1 ∨ d.status = 2 ∨ d.status = 3
  opn : d.status = 0 → ∀ (j : Nat) e, (j : Int) < d.at_ → d.l[j]? = some e → ∃ c, at_ L e.Cell = some c ∧ c.Mark = d.mark ∧ c.Version = e.Version ∧ (e.Write = true → c.Version ≠ lim)
  don : d.status = 1 → ∀ (j : Nat) e c, d.at_ ≤ (j : Int) → d.l[j]? = some e → at_ L e.Cell = some c → c.Mark = d.mark → c.Version = e.Version ∧ (e.Write = true → c.Version ≠ lim)
theorem DI.atE {lim : Int} {d : desc_Desc} {L : List api_Cell} (h : DI lim d L) : (at_ d.l d.at_ = none ∧ d.at_ = d.l.length) ∨ ∃ e, at_ d.l d.at_ = some e ∧ d.at_ < (d.l.length : Int) ∧ d.l[d.at_.toNat]? = some e := by
  have h0 := h.at0
  have h1 := h.at1
  by_cases c : d.at_ = d.l.length
  · exact .inl ⟨at_none (by omega), c⟩
  · have hl : d.at_.toNat < d.l.length := by omega
    exact .inr ⟨d.l[d.at_.toNat], at_of h0 (List.getElem?_eq_getElem hl), by omega, List.getElem?_eq_getElem hl⟩
theorem dhas_ok (L : List api_Cell) (lim i : Int) : word_Store_has.f ⟨L, lim⟩ i = some (decide (0 ≤ i ∧ i < (L.length : Int))) := by
  unfold word_Store_has.f
  by_cases h : 0 ≤ i
  · simp [h]
  · simp [h]
theorem read_in {L : List api_Cell} (lim : Int) {i : Int} {c : api_Cell} (hc : at_ L i = some c) : word_Store_Read.f ⟨L, lim⟩ i = some (c, none) := by
  obtain ⟨h0, h1, _⟩ := at_val hc
  unfold word_Store_Read.f
  rw [dhas_ok, decide_eq_true ⟨h0, h1⟩, Option.bind_some, Bool.not_true, cond_false, hc]; rfl
theorem read_out {L : List api_Cell} (lim : Int) {i : Int} (hc : at_ L i = none) : word_Store_Read.f ⟨L, lim⟩ i = some (⟨0, 0, 0⟩, some 2) := by
  unfold word_Store_Read.f
  have : ¬ (0 ≤ i ∧ i < (L.length : Int)) := fun h => by
    have : i.toNat < L.length := by omega
    rw [at_of h.1 (List.getElem?_eq_getElem this)] at hc; cases hc
  rw [dhas_ok, decide_eq_false this]; rfl
theorem step_ok {lim : Int} {d : desc_Desc} {L : List api_Cell} (h : DI lim d L) : desc_Desc_Step.f d ⟨L, lim⟩ = some ((dstep lim d L).1, (dstep lim d L).2.1, ⟨(dstep lim d L).2.2, lim⟩) := by
  have hm := h.mark
  have h0 := h.at0
  have hl := h.len
  have hover : desc_Desc_Over.f d = some (decide (d.status ≠ 0 ∧ d.at_ = d.l.length)) := by
    unfold desc_Desc_Over.f
    by_cases hs : d.status = 0
    · rw [hs]; simp
    · have : (d.status != 0) = true := by simpa using hs
      rw [this, cond_true, Option.bind_some]
      by_cases ha : d.at_ = d.l.length
      · rw [decide_eq_true ⟨hs, ha⟩, ha]; simp
      · rw [decide_eq_false (fun z => ha z.2), beq_false_of_ne ha]
  unfold desc_Desc_Step.f
  rw [hover, Option.bind_some]
  unfold dstep
  by_cases hs : d.status = 0
  · have hsb : (d.status != 0) = false := by rw [hs]; rfl
    rw [decide_eq_false (fun z => z.1 hs), cond_false, hsb, cond_false, if_neg (fun z => z hs)]
    rcases h.atE with ⟨e1, e2⟩ | ⟨e, e1, e2, e3⟩
    · rw [e2, beq_self_eq_true, cond_true]
      rw [e2] at e1
      rw [e1]; rfl
    · rw [beq_false_of_ne (by omega), cond_false, e1]
      dsimp only
      unfold desc_Desc_reserve.f
      rw [e1, Option.bind_some]
      cases hc : at_ L e.Cell with
      | none =>
        rw [read_out lim hc]; rfl
      | some c =>
        have hc' := hc
        obtain ⟨i0, i1, i2⟩ := at_val hc
        rw [read_in lim hc]
        dsimp only
        simp only [Option.bind_some, Option.isNone_none, cond_true, Option.isSome_none, cond_false]
        by_cases k1 : c.Mark ≠ 0 ∧ c.Mark ≠ d.mark
        · have b1 : (c.Mark != 0) = true := by simpa using k1.1
          have b2 : (c.Mark != d.mark) = true := by simpa using k1.2
          rw [b1, b2, if_pos k1]; rfl
        · have hb : (bif c.Mark != 0 then (some (c.Mark != d.mark)) else (some false)) = some false := by
            by_cases q : c.Mark = 0
            · rw [q]; rfl
            · have : c.Mark = d.mark := by
                by_cases q2 : c.Mark = d.mark
                · exact q2
                · exact absurd ⟨q, q2⟩ k1
              rw [this]; simp
          rw [hb, if_neg k1, Option.bind_some, cond_false]
          by_cases k2 : c.Version = e.Version
          · have b2 : (c.Version != e.Version) = false := by rw [k2]; exact bne_self_eq_false _
            rw [b2, cond_false, if_neg (fun z => z k2)]
            by_cases k3 : e.Write = true ∧ c.Version = lim
            · rw [k3.1, if_pos ⟨rfl, k3.2⟩]
              simp only [cond_true, word_Store_Limit.f, Option.bind_some, k3.2, beq_self_eq_true, desc_Desc_turn.f]
            · have hb3 : (bif e.Write then ((word_Store_Limit.f ⟨L, lim⟩).bind fun t22 => some (c.Version == t22)) else (some false)) = some false := by
                cases hw : e.Write with
                | false => rfl
                | true =>
                  have : c.Version ≠ lim := fun z => k3 ⟨hw, z⟩
                  simp only [cond_true, word_Store_Limit.f, Option.bind_some, beq_false_of_ne this]
              rw [hb3, if_neg k3, Option.bind_some, cond_false]
              have hres : word_Store_Reserve.f ⟨L, lim⟩ e.Cell e.Version d.mark = some (none, ⟨L.set e.Cell.toNat { c with Mark := d.mark }, lim⟩) := by
                unfold word_Store_Reserve.f
                rw [dhas_ok, decide_eq_true ⟨i0, i1⟩, Option.bind_some, Bool.not_true, cond_false, decide_eq_false (by omega), cond_false]
                simp only [hc', Option.bind_some, hb, cond_false, b2]
              have ew : w64 (d.at_ + 1) = d.at_ + 1 := w64_id (by omega) (by omega)
              rw [hres, Option.bind_some]
              simp only [Option.isSome_none, cond_false, ew, Option.bind_some]
          · have b2 : (c.Version != e.Version) = true := by simpa using k2
            rw [b2, cond_true, if_pos k2]; rfl
  · have hsb : (d.status != 0) = true := by simpa using hs
    rw [if_pos hs]
    rcases h.atE with ⟨e1, e2⟩ | ⟨e, e1, e2, e3⟩
    · rw [decide_eq_true ⟨hs, e2⟩, cond_true, e1]
    · rw [decide_eq_false (fun z => by have := z.2; omega), cond_false, hsb, cond_true, e1]
      dsimp only
      unfold desc_Desc_release.f
      have ew : w64 (d.at_ + 1) = d.at_ + 1 := w64_id (by omega) (by omega)
      rw [e1, Option.bind_some, ew]
      cases hc : at_ L e.Cell with
      | none => rw [read_out lim hc]; rfl
      | some c =>
        obtain ⟨i0, i1, i2⟩ := at_val hc
        rw [read_in lim hc]
        dsimp only
        simp only [Option.bind_some, Option.isSome_none, cond_false, decide_eq_false (show ¬ d.mark < 1 by omega)]
        by_cases k1 : c.Mark = d.mark
        · have b1 : (c.Mark != d.mark) = false := by rw [k1]; exact bne_self_eq_false _
          have hown : word_Store_own.f ⟨L, lim⟩ e.Cell d.mark = some none := by
            unfold word_Store_own.f
            rw [dhas_ok, decide_eq_true ⟨i0, i1⟩, Option.bind_some, Bool.not_true, cond_false, decide_eq_false (by omega), cond_false]
            simp only [hc, Option.bind_some, b1, cond_false]
          rw [b1, if_pos k1, cond_false]
          by_cases k2 : d.status = 1 ∧ e.Write = true
          · have hb : (bif d.status == 1 then (some e.Write) else (some false)) = some true := by rw [k2.1, k2.2]; rfl
            rw [hb, Option.bind_some, cond_true]
            have hv := (h.don k2.1 d.at_.toNat e c (by omega) e3 hc k1).2 k2.2
            have hput : desc_Desc_release_2.f ⟨L, lim⟩ e { d with at_ := d.at_ + 1 } = some (none, ⟨L.set e.Cell.toNat (relC d e c), lim⟩) := by
              unfold desc_Desc_release_2.f word_Store_Put.f
              simp only [hown, Option.bind_some, Option.isSome_none, cond_false, hc, beq_false_of_ne hv]
              rw [show relC d e c = ⟨e.New, wu32 (c.Version + 1), 0⟩ from if_pos k2]
            rw [hput]; rfl
          · have hb : (bif d.status == 1 then (some e.Write) else (some false)) = some false := by
              by_cases q : d.status = 1
              · have : e.Write = false := by
                  cases hw : e.Write with
                  | false => rfl
                  | true => exact absurd ⟨q, hw⟩ k2
                rw [q, this]; rfl
              · rw [beq_false_of_ne q]; rfl
            rw [hb, Option.bind_some, cond_false]
            have hrel : desc_Desc_release_1.f ⟨L, lim⟩ e { d with at_ := d.at_ + 1 } = some (none, ⟨L.set e.Cell.toNat (relC d e c), lim⟩) := by
              unfold desc_Desc_release_1.f word_Store_Release.f
              simp only [hown, Option.bind_some, Option.isSome_none, cond_false, hc]
              rw [show relC d e c = { c with Mark := 0 } from if_neg k2]
            rw [hrel]; rfl
        · have b1 : (c.Mark != d.mark) = true := by simpa using k1
          rw [b1, if_neg k1]; rfl
/-- Only cells without a mark, or with the mark m, have turned; they have it, or none. -/
def Fr (m : Int) (L L' : List api_Cell) : Prop := L'.length = L.length ∧ ∀ i, at_ L' i = at_ L i ∨ ∃ c c', at_ L i = some c ∧ at_ L' i = some c' ∧ (c.Mark = 0 ∨ c.Mark = m) ∧ (c'.Mark = 0 ∨ c'.Mark = m)
theorem Fr.refl (m : Int) (L : List api_Cell) : Fr m L L := ⟨rfl, fun _ => .inl rfl⟩
theorem Fr.set {m : Int} {L : List api_Cell} {i : Int} {c c' : api_Cell} (h : at_ L i = some c) (h1 : c.Mark = 0 ∨ c.Mark = m) (h2 : c'.Mark = 0 ∨ c'.Mark = m) : Fr m L (L.set i.toNat c') := by
  refine ⟨List.length_set, fun j => ?_⟩
  rw [at_set h]
  by_cases e : j = i
  · rw [if_pos e]; exact .inr ⟨c, c', by rw [e]; exact h, rfl, h1, h2⟩
  · rw [if_neg e]; exact .inl rfl
theorem relC_mark (d : desc_Desc) (e : tx_Entry) (c : api_Cell) : (relC d e c).Mark = 0 := by unfold relC; split <;> rfl
theorem dstep_fr (lim : Int) (d : desc_Desc) (L : List api_Cell) : Fr d.mark L (dstep lim d L).2.2 := by
  unfold dstep
  by_cases hs : d.status ≠ 0
  · rw [if_pos hs]
    cases at_ d.l d.at_ with
    | none => exact .refl _ _
    | some e =>
      dsimp only
      cases hc : at_ L e.Cell with
      | none => exact .refl _ _
      | some c =>
        dsimp only
        by_cases k : c.Mark = d.mark
        · rw [if_pos k]; exact .set hc (.inr k) (.inl (relC_mark _ _ _))
        · rw [if_neg k]; exact .refl _ _
  · rw [if_neg hs]
    cases at_ d.l d.at_ with
    | none => exact .refl _ _
    | some e =>
      dsimp only
      cases hc : at_ L e.Cell with
      | none => exact .refl _ _
      | some c =>
        dsimp only
        by_cases k1 : c.Mark ≠ 0 ∧ c.Mark ≠ d.mark
        · rw [if_pos k1]; exact .refl _ _
        · rw [if_neg k1]
          split
          · exact .refl _ _
          · split
            · exact .refl _ _
            · refine .set hc ?_ (.inr rfl)
              by_cases q : c.Mark = 0
              · exact .inl q
              · by_cases q2 : c.Mark = d.mark
                · exact .inr q2
                · exact absurd ⟨q, q2⟩ k1
theorem DI.frame {lim m : Int} {d : desc_Desc} {L L' : List api_Cell} (h : DI lim d L) (hm : d.mark ≠ m) (hf : Fr m L L') : DI lim d L' := by
  have h1 := h.mark
  refine ⟨h.mark, h.at0, h.at1, h.len, h.st, fun hs j e hj he => ?_, fun hs j e c hj he hc hcm => ?_⟩
  · obtain ⟨c, q1, q2, q3⟩ := h.opn hs j e hj he
    rcases hf.2 e.Cell with k | ⟨c1, c2, k1, _, k3, _⟩
    · exact ⟨c, by rw [k]; exact q1, q2, q3⟩
    · rw [q1] at k1; injection k1 with k1; subst k1; omega
  · rcases hf.2 e.Cell with k | ⟨c1, c2, _, k2, _, k4⟩
    · exact h.don hs j e c hj he (by rw [← k]; exact hc) hcm
    · rw [hc] at k2; injection k2 with k2; subst k2; omega
theorem dstep_keeps (lim : Int) (d : desc_Desc) (L : List api_Cell) : (dstep lim d L).2.1.mark = d.mark ∧ (dstep lim d L).2.1.l = d.l := by
  unfold dstep
  repeat' split
  all_goals exact ⟨rfl, rfl⟩
theorem DI.step {lim : Int} {d : desc_Desc} {L : List api_Cell} (h : DI lim d L) : DI lim (dstep lim d L).2.1 (dstep lim d L).2.2 := by
  have h0 := h.at0
  have h1 := h.at1
  have hm := h.mark
  unfold dstep
  by_cases hs : d.status ≠ 0
  · rw [if_pos hs]
    rcases h.atE with ⟨e1, e2⟩ | ⟨e, e1, e2, e3⟩
    · rw [e1]; exact h
    · rw [e1]
      dsimp only
      have adv : ∀ L', (∀ i c, at_ L' i = some c → c.Mark = d.mark → at_ L i = some c) → DI lim { d with at_ := d.at_ + 1 } L' := fun L' hL => by
        refine ⟨h.mark, by dsimp only; omega, by dsimp only; omega, h.len, h.st, fun z => absurd z hs, fun z j e' c hj he' hc hcm => ?_⟩
        dsimp only at hj
        exact h.don z j e' c (by omega) he' (hL _ _ hc hcm) hcm
      cases hc : at_ L e.Cell with
      | none => exact adv L fun i c q _ => q
      | some c =>
        dsimp only
        by_cases k : c.Mark = d.mark
        · rw [if_pos k]
          refine adv _ fun i c' q qm => ?_
          rw [at_set hc] at q
          by_cases ei : i = e.Cell
          · rw [if_pos ei] at q; injection q with q; subst q; rw [relC_mark] at qm; omega
          · rw [if_neg ei] at q; exact q
        · rw [if_neg k]; exact adv L fun i c q _ => q
  · have hs0 : d.status = 0 := Decidable.byContradiction hs
    rw [if_neg hs]
    have turn : ∀ s, s = 2 ∨ s = 3 → DI lim { d with status := s, at_ := 0 } L := fun s hs' => by
      refine ⟨h.mark, Int.le_refl _, by dsimp only; omega, h.len, by dsimp only; omega, fun z => by dsimp only at z; omega, fun z => by dsimp only at z; omega⟩
    rcases h.atE with ⟨e1, e2⟩ | ⟨e, e1, e2, e3⟩
    · rw [e1]
      refine ⟨h.mark, Int.le_refl _, by dsimp only; omega, h.len, .inr (.inl rfl), fun z => (by cases z), fun _ j e' c _ he' hc hcm => ?_⟩
      have hj : j < d.l.length := (List.getElem?_eq_some_iff.1 he').1
      obtain ⟨c', q1, q2, q3⟩ := h.opn hs0 j e' (by omega) he'
      rw [hc] at q1; injection q1 with q1; subst q1
      exact q3
    · rw [e1]
      dsimp only
      cases hc : at_ L e.Cell with
      | none => exact turn 2 (.inl rfl)
      | some c =>
        dsimp only
        by_cases k1 : c.Mark ≠ 0 ∧ c.Mark ≠ d.mark
        · rw [if_pos k1]; exact h
        · rw [if_neg k1]
          by_cases k2 : c.Version = e.Version
          · rw [if_neg (fun z => z k2)]
            by_cases k3 : e.Write = true ∧ c.Version = lim
            · rw [if_pos k3]; exact turn 3 (.inr rfl)
            · rw [if_neg k3]
              refine ⟨h.mark, by dsimp only; omega, by dsimp only; omega, h.len, h.st, fun _ j e' hj he' => ?_, fun z => by dsimp only at z; omega⟩
              dsimp only at hj he' ⊢
              rw [at_set hc]
              by_cases hjl : (j : Int) < d.at_
              · obtain ⟨c', q1, q2, q3⟩ := h.opn hs0 j e' hjl he'
                by_cases ei : e'.Cell = e.Cell
                · rw [if_pos ei]
                  rw [ei, hc] at q1; injection q1 with q1; subst q1
                  exact ⟨_, rfl, rfl, q3⟩
                · rw [if_neg ei]; exact ⟨c', q1, q2, q3⟩
              · have : j = d.at_.toNat := by omega
                subst this
                rw [e3] at he'; injection he' with he'; subst he'
                rw [if_pos rfl]
                exact ⟨_, rfl, rfl, k2, fun hw z => k3 ⟨hw, z⟩⟩
          · rw [if_pos k2]; exact turn 2 (.inl rfl)
end Go.Proofs
/-! Descriptors that help each other: what always holds. -/
set_option linter.unusedVariables false
namespace Go.Proofs
open Go.Sl
/-- What a cell comes to, once a descriptor that is Done has put it. -/
def virtD (d : desc_Desc) (i : Int) (c : api_Cell) : api_Cell :=
  if d.status = 1 then
    match d.l.find? (fun e => e.Cell == i) with
    | some e => if e.Write = true then ⟨e.New, wu32 (c.Version + 1), 0⟩ else { c with Mark := 0 }
    | none => { c with Mark := 0 }
  else { c with Mark := 0 }
def virtC (ds : List desc_Desc) (i : Int) (c : api_Cell) : api_Cell :=
  if c.Mark ≤ 0 then { c with Mark := 0 } else
    match ds[(c.Mark - 1).toNat]? with
    | some d => virtD d i c
    | none => { c with Mark := 0 }
structure G (lim : Int) (n : Nat) (ds : List desc_Desc) (L want : List api_Cell) : Prop where
  nr : ∀ (k : Nat) d, ds[k]? = some d → d.mark = k + 1
  di : ∀ (k : Nat) d, ds[k]? = some d → DI lim d L
  rise : ∀ (k : Nat) d, ds[k]? = some d → ∀ (i j : Nat) e f, i < j → d.l[i]? = some e → d.l[j]? = some f → e.Cell < f.Cell
  cell : ∀ (k : Nat) d, ds[k]? = some d → ∀ (j : Nat) e, d.l[j]? = some e → 0 ≤ e.Cell ∧ e.Cell < n
  lenL : L.length = n
  lenW : want.length = n
  own : ∀ i c, at_ L i = some c → c.Mark ≠ 0 → ∃ (k : Nat) (d : desc_Desc), ds[k]? = some d ∧ c.Mark = k + 1 ∧ ∃ (j : Nat) (e : tx_Entry), d.l[j]? = some e ∧ e.Cell = i ∧ (d.status = 0 → (j : Int) < d.at_) ∧ (d.status ≠ 0 → d.at_ ≤ j)
  virt : ∀ i c, at_ L i = some c → at_ want i = some (virtC ds i c)
section
variable {lim : Int} {n : Nat} {ds : List desc_Desc} {L want : List api_Cell}
theorem virtC_other {k : Nat} {d' : desc_Desc} {i : Int} {c : api_Cell} (h : c.Mark ≠ k + 1) : virtC (ds.set k d') i c = virtC ds i c := by
  unfold virtC
  split
  · rfl
  · rw [List.getElem?_set_ne (by omega)]
theorem virtC_own {k : Nat} {d : desc_Desc} {i : Int} {c : api_Cell} (hd : ds[k]? = some d) (h : c.Mark = k + 1) : virtC ds i c = virtD d i c := by
  unfold virtC
  rw [if_neg (by omega), show (c.Mark - 1).toNat = k by omega, hd]
theorem get_set {k : Nat} {d d' : desc_Desc} (hd : ds[k]? = some d) (j : Nat) : (ds.set k d')[j]? = if k = j then some d' else ds[j]? := by
  have hk : k < ds.length := (List.getElem?_eq_some_iff.1 hd).1
  by_cases c : k = j
  · subst c; rw [if_pos rfl, List.getElem?_set_self hk]
  · rw [if_neg c, List.getElem?_set_ne c]
theorem virtC_same {k : Nat} {d d' : desc_Desc} (hd : ds[k]? = some d) (h : ∀ i c, virtD d' i c = virtD d i c) (i : Int) (c : api_Cell) : virtC (ds.set k d') i c = virtC ds i c := by
  by_cases hm : c.Mark = k + 1
  · rw [virtC_own hd hm, virtC_own (ds := ds.set k d') (by rw [get_set hd, if_pos rfl]) hm, h]
  · exact virtC_other hm
theorem G.in_ (g : G lim n ds L want) {k : Nat} {d : desc_Desc} (hd : ds[k]? = some d) {j : Nat} {e : tx_Entry} (he : d.l[j]? = some e) : ∃ c, at_ L e.Cell = some c := by
  obtain ⟨h0, h1⟩ := g.cell k d hd j e he
  have : e.Cell.toNat < L.length := by rw [g.lenL]; omega
  exact ⟨L[e.Cell.toNat], at_of h0 (List.getElem?_eq_getElem this)⟩
theorem G.uniq (g : G lim n ds L want) {k : Nat} {d : desc_Desc} (hd : ds[k]? = some d) {i j : Nat} {e f : tx_Entry} (he : d.l[i]? = some e) (hf : d.l[j]? = some f) (h : e.Cell = f.Cell) : i = j := by
  rcases Nat.lt_trichotomy i j with c | c | c
  · have := g.rise k d hd i j e f c he hf; omega
  · exact c
  · have := g.rise k d hd j i f e c hf he; omega
theorem G.find (g : G lim n ds L want) {k : Nat} {d : desc_Desc} (hd : ds[k]? = some d) {j : Nat} {e : tx_Entry} (he : d.l[j]? = some e) : d.l.find? (fun f => f.Cell == e.Cell) = some e := by
  cases hf : d.l.find? (fun f => f.Cell == e.Cell) with
  | none =>
    have := List.find?_eq_none.1 hf e (List.mem_of_getElem? he)
    simp at this
  | some f =>
    have h1 : (fun f : tx_Entry => f.Cell == e.Cell) f = true := List.find?_some (p := fun f : tx_Entry => f.Cell == e.Cell) hf
    have h2 := List.mem_of_find?_eq_some hf
    obtain ⟨i, hi, hif⟩ := List.mem_iff_getElem.1 h2
    have hi' : d.l[i]? = some f := by rw [List.getElem?_eq_getElem hi, hif]
    have := g.uniq hd hi' he (by simpa using h1)
    subst this
    rw [he] at hi'; exact hi'.symm
/-- The descriptors' own facts, of what is put in one's place. -/
theorem G.base (g : G lim n ds L want) {k : Nat} {d d' : desc_Desc} {L' want' : List api_Cell} (hd : ds[k]? = some d) (hm : d'.mark = d.mark) (hl : d'.l = d.l) (hdi : DI lim d' L') (hfr : Fr d.mark L L') (hW : want'.length = n)
    (hown : ∀ i c, at_ L' i = some c → c.Mark ≠ 0 → ∃ (q : Nat) (dq : desc_Desc), (ds.set k d')[q]? = some dq ∧ c.Mark = q + 1 ∧ ∃ (j : Nat) (e : tx_Entry), dq.l[j]? = some e ∧ e.Cell = i ∧ (dq.status = 0 → (j : Int) < dq.at_) ∧ (dq.status ≠ 0 → dq.at_ ≤ j))
    (hv : ∀ i c, at_ L' i = some c → at_ want' i = some (virtC (ds.set k d') i c)) : G lim n (ds.set k d') L' want' := by
  have hnr := g.nr k d hd
  refine ⟨fun j x hx => ?_, fun j x hx => ?_, fun j x hx => ?_, fun j x hx => ?_, hfr.1.trans g.lenL, hW, hown, hv⟩
  all_goals
    rw [get_set hd] at hx
    by_cases c : k = j
    · subst c
      rw [if_pos rfl] at hx; injection hx with hx; subst hx
      first
      | exact hdi
      | (rw [hm]; exact hnr)
      | (rw [hl]; exact g.rise k d hd)
      | (rw [hl]; exact g.cell k d hd)
    · rw [if_neg c] at hx
      first
      | exact g.nr j x hx
      | exact g.rise j x hx
      | exact g.cell j x hx
      | exact (g.di j x hx).frame (by have := g.nr j x hx; omega) hfr
/-- Marks that stay have who they had. -/
theorem G.ownStay (g : G lim n ds L want) {k : Nat} {d d' : desc_Desc} (hd : ds[k]? = some d) {i : Int} {c : api_Cell} (hc : at_ L i = some c) (hm : c.Mark ≠ 0)
    (hk : c.Mark = k + 1 → ∃ (j : Nat) (e : tx_Entry), d'.l[j]? = some e ∧ e.Cell = i ∧ (d'.status = 0 → (j : Int) < d'.at_) ∧ (d'.status ≠ 0 → d'.at_ ≤ j)) :
    ∃ (q : Nat) (dq : desc_Desc), (ds.set k d')[q]? = some dq ∧ c.Mark = q + 1 ∧ ∃ (j : Nat) (e : tx_Entry), dq.l[j]? = some e ∧ e.Cell = i ∧ (dq.status = 0 → (j : Int) < dq.at_) ∧ (dq.status ≠ 0 → dq.at_ ≤ j) := by
  obtain ⟨q, dq, h1, h2, h3⟩ := g.own i c hc hm
  by_cases e : k = q
  · subst e
    exact ⟨k, d', by rw [get_set hd, if_pos rfl], h2, hk h2⟩
  · exact ⟨q, dq, by rw [get_set hd, if_neg e]; exact h1, h2, h3⟩
theorem G.ownK (g : G lim n ds L want) {k : Nat} {d : desc_Desc} (hd : ds[k]? = some d) {i : Int} {c : api_Cell} (hc : at_ L i = some c) (hm : c.Mark = k + 1) :
    ∃ (j : Nat) (e : tx_Entry), d.l[j]? = some e ∧ e.Cell = i ∧ (d.status = 0 → (j : Int) < d.at_) ∧ (d.status ≠ 0 → d.at_ ≤ j) := by
  obtain ⟨q, dq, h1, h2, h3⟩ := g.own i c hc (by omega)
  have : q = k := by omega
  subst this
  rw [hd] at h1; injection h1 with h1; subst h1; exact h3
/-- Any step but the one by which it is Done. -/
theorem G.step (g : G lim n ds L want) {k : Nat} {d : desc_Desc} (hd : ds[k]? = some d) (hno : ¬ (d.status = 0 ∧ (dstep lim d L).2.1.status = 1)) : G lim n (ds.set k (dstep lim d L).2.1) (dstep lim d L).2.2 want := by
  have hdi := g.di k d hd
  have hnr := g.nr k d hd
  have h0 := hdi.at0
  obtain ⟨km, kl⟩ := dstep_keeps lim d L
  have hst := hdi.step
  have hfr := dstep_fr lim d L
  have base := fun hown hv => g.base (want' := want) hd km kl hst hfr g.lenW hown hv
  have self : G lim n (ds.set k d) L want := by
    have : ds.set k d = ds := by
      apply List.ext_getElem?; intro j; rw [get_set hd]; split
      · rename_i e; subst e; exact hd.symm
      · rfl
    rw [this]; exact g
  unfold dstep at hno base ⊢
  by_cases hs : d.status ≠ 0
  · rw [if_pos hs] at base ⊢
    clear hno
    rcases hdi.atE with ⟨e1, e2⟩ | ⟨e, e1, e2, e3⟩
    · rw [e1]; exact self
    · rw [e1] at base ⊢
      dsimp only at base ⊢
      obtain ⟨c0, hc0⟩ := g.in_ hd e3
      rw [hc0] at base ⊢
      dsimp only at base ⊢
      have advV : ∀ i c, virtD { d with at_ := d.at_ + 1 } i c = virtD d i c := fun i c => rfl
      by_cases hk : c0.Mark = d.mark
      · rw [if_pos hk] at base ⊢
        dsimp only at base ⊢
        refine base (fun i c hc hm => ?_) (fun i c hc => ?_)
        · rw [at_set hc0] at hc
          by_cases ei : i = e.Cell
          · rw [if_pos ei] at hc; injection hc with hc; subst hc; exact absurd (relC_mark d e c0) hm
          · rw [if_neg ei] at hc
            refine g.ownStay hd hc hm fun hmk => ?_
            obtain ⟨j, f, q1, q2, q3, q4⟩ := g.ownK hd hc hmk
            refine ⟨j, f, q1, q2, fun z => absurd z hs, fun _ => ?_⟩
            have : j ≠ d.at_.toNat := fun z => by
              subst z; rw [e3] at q1; injection q1 with q1; subst q1; exact ei q2.symm
            have := q4 hs
            show d.at_ + 1 ≤ (j : Int)
            omega
        · rw [virtC_same hd advV]
          rw [at_set hc0] at hc
          by_cases ei : i = e.Cell
          · rw [if_pos ei] at hc; injection hc with hc
            rw [ei, g.virt _ _ hc0, virtC_own hd (by omega : c0.Mark = k + 1)]
            have hz : virtC ds e.Cell c = { c with Mark := 0 } := by
              unfold virtC; rw [if_pos (by rw [← hc, relC_mark]; omega)]
            rw [hz, ← hc]
            unfold virtD relC
            by_cases h1 : d.status = 1
            · rw [if_pos h1, g.find hd e3]
              dsimp only
              by_cases hw : e.Write = true
              · rw [if_pos hw, if_pos ⟨h1, hw⟩]
              · rw [if_neg hw, if_neg (fun z => hw z.2)]
            · rw [if_neg h1, if_neg (fun z => h1 z.1)]
          · rw [if_neg ei] at hc
            exact g.virt i c hc
      · rw [if_neg hk] at base ⊢
        dsimp only at base ⊢
        refine base (fun i c hc hm => ?_) (fun i c hc => ?_)
        · refine g.ownStay hd hc hm fun hmk => ?_
          obtain ⟨j, f, q1, q2, q3, q4⟩ := g.ownK hd hc hmk
          refine ⟨j, f, q1, q2, fun z => absurd z hs, fun _ => ?_⟩
          have : j ≠ d.at_.toNat := fun z => by
            subst z; rw [e3] at q1; injection q1 with q1; subst q1
            rw [q2] at hc0; rw [hc] at hc0; injection hc0 with hc0; subst hc0; omega
          have := q4 hs
          show d.at_ + 1 ≤ (j : Int)
          omega
        · rw [virtC_same hd advV]; exact g.virt i c hc
  · have hs0 : d.status = 0 := Decidable.byContradiction hs
    rw [if_neg hs] at hno base ⊢
    rcases hdi.atE with ⟨e1, e2⟩ | ⟨e, e1, e2, e3⟩
    · rw [e1] at hno; exact absurd ⟨hs0, rfl⟩ hno
    · rw [e1] at base ⊢
      dsimp only at base ⊢
      obtain ⟨c0, hc0⟩ := g.in_ hd e3
      rw [hc0] at base ⊢
      dsimp only at base ⊢
      have v0 : ∀ (d' : desc_Desc), d'.status ≠ 1 → ∀ i c, virtD d' i c = virtD d i c := fun d' h' i c => by
        unfold virtD; rw [if_neg h', if_neg (by omega)]
      by_cases k1 : c0.Mark ≠ 0 ∧ c0.Mark ≠ d.mark
      · rw [if_pos k1]; exact self
      · rw [if_neg k1] at base ⊢
        by_cases k2 : c0.Version ≠ e.Version
        · rw [if_pos k2] at base ⊢
          dsimp only at base ⊢
          refine base (fun i c hc hm => ?_) (fun i c hc => ?_)
          · refine g.ownStay hd hc hm fun hmk => ?_
            obtain ⟨j, f, q1, q2, q3, q4⟩ := g.ownK hd hc hmk
            exact ⟨j, f, q1, q2, fun z => (by cases z), fun _ => (by show (0 : Int) ≤ j; omega)⟩
          · rw [virtC_same hd (v0 { d with status := 2, at_ := 0 } (by show (2 : Int) ≠ 1; decide))]; exact g.virt i c hc
        · rw [if_neg k2] at base ⊢
          by_cases k3 : e.Write = true ∧ c0.Version = lim
          · rw [if_pos k3] at base ⊢
            dsimp only at base ⊢
            refine base (fun i c hc hm => ?_) (fun i c hc => ?_)
            · refine g.ownStay hd hc hm fun hmk => ?_
              obtain ⟨j, f, q1, q2, q3, q4⟩ := g.ownK hd hc hmk
              exact ⟨j, f, q1, q2, fun z => (by cases z), fun _ => (by show (0 : Int) ≤ j; omega)⟩
            · rw [virtC_same hd (v0 { d with status := 3, at_ := 0 } (by show (3 : Int) ≠ 1; decide))]; exact g.virt i c hc
          · rw [if_neg k3] at base ⊢
            dsimp only at base ⊢
            refine base (fun i c hc hm => ?_) (fun i c hc => ?_)
            · rw [at_set hc0] at hc
              by_cases ei : i = e.Cell
              · rw [if_pos ei] at hc; injection hc with hc; subst hc
                refine ⟨k, { d with at_ := d.at_ + 1 }, by rw [get_set hd, if_pos rfl], hnr, d.at_.toNat, e, e3, ei.symm, fun _ => by show ((d.at_.toNat : Nat) : Int) < d.at_ + 1; omega, fun z => absurd hs0 z⟩
              · rw [if_neg ei] at hc
                refine g.ownStay hd hc hm fun hmk => ?_
                obtain ⟨j, f, q1, q2, q3, q4⟩ := g.ownK hd hc hmk
                exact ⟨j, f, q1, q2, fun z => by have := q3 hs0; show (j : Int) < d.at_ + 1; omega, fun z => absurd hs0 z⟩
            · rw [virtC_same hd (d' := { d with at_ := d.at_ + 1 }) (fun i c => rfl)]
              rw [at_set hc0] at hc
              by_cases ei : i = e.Cell
              · rw [if_pos ei] at hc; injection hc with hc
                rw [ei, g.virt _ _ hc0, ← hc, virtC_own (c := { c0 with Mark := d.mark }) hd hnr]
                have hvd : ∀ c, virtD d e.Cell c = { c with Mark := 0 } := fun c => by unfold virtD; rw [if_neg (by omega)]
                rw [hvd]
                by_cases q : c0.Mark = 0
                · unfold virtC; rw [if_pos (by omega)]
                · have q2 : c0.Mark = d.mark := by
                    by_cases q2 : c0.Mark = d.mark
                    · exact q2
                    · exact absurd ⟨q, q2⟩ k1
                  rw [virtC_own hd (by omega : c0.Mark = k + 1), hvd]
              · rw [if_neg ei] at hc; exact g.virt i c hc
end
end Go.Proofs
/-! Descriptors that help each other: being Done, waiting, going on. -/
set_option linter.unusedVariables false
namespace Go.Proofs
open Go.Sl
section
variable {lim : Int} {n : Nat} {ds : List desc_Desc} {L want : List api_Cell}
theorem G.done (g : G lim n ds L want) {k : Nat} {d : desc_Desc} (hd : ds[k]? = some d) (hs : d.status = 0) (hat : d.at_ = d.l.length) {want' : List api_Cell} (hW : want'.length = n)
    (hv : ∀ i c, at_ L i = some c → at_ want' i = some (virtC (ds.set k { d with status := 1, at_ := 0 }) i c)) : dstep lim d L = (0, { d with status := 1, at_ := 0 }, L) ∧ G lim n (ds.set k { d with status := 1, at_ := 0 }) L want' := by
  have hdi := g.di k d hd
  have hnone : at_ d.l d.at_ = none := by rw [hat]; exact at_none (by omega)
  have hds : dstep lim d L = (0, { d with status := 1, at_ := 0 }, L) := by
    unfold dstep; rw [if_neg (fun z => z hs), hnone]
  refine ⟨hds, ?_⟩
  have hst := hdi.step
  rw [hds] at hst
  refine g.base hd rfl rfl hst (.refl _ _) hW (fun i c hc hm => ?_) hv
  refine g.ownStay hd hc hm fun hmk => ?_
  obtain ⟨j, f, q1, q2, q3, q4⟩ := g.ownK hd hc hmk
  exact ⟨j, f, q1, q2, fun z => (by cases z), fun _ => (by show (0 : Int) ≤ j; omega)⟩
/-- All its cells bear its mark, and are as it wants them. -/
theorem G.all (g : G lim n ds L want) {k : Nat} {d : desc_Desc} (hd : ds[k]? = some d) (hs : d.status = 0) (hat : d.at_ = d.l.length) {j : Nat} {e : tx_Entry} (he : d.l[j]? = some e) : ∃ c, at_ L e.Cell = some c ∧ c.Mark = k + 1 ∧ c.Version = e.Version ∧ at_ want e.Cell = some { c with Mark := 0 } := by
  have hj : j < d.l.length := (List.getElem?_eq_some_iff.1 he).1
  obtain ⟨c, q1, q2, q3, _⟩ := (g.di k d hd).opn hs j e (by omega) he
  have hm : c.Mark = k + 1 := by rw [q2]; exact g.nr k d hd
  refine ⟨c, q1, hm, q3, ?_⟩
  rw [g.virt _ _ q1, virtC_own hd hm]
  unfold virtD; rw [if_neg (by omega)]
/-- What is wanted, of the first entries. -/
def wantOf (want : List api_Cell) (l : List tx_Entry) (i : Int) : Option api_Cell :=
  match l.find? (fun e => e.Cell == i) with
  | some e => if e.Write = true then some ⟨e.New, wu32 (e.Version + 1), 0⟩ else at_ want i
  | none => at_ want i
theorem G.wantDone (g : G lim n ds L want) {k : Nat} {d : desc_Desc} (hd : ds[k]? = some d) (hs : d.status = 0) (hat : d.at_ = d.l.length) (i : Int) (c : api_Cell) (hc : at_ L i = some c) : wantOf want d.l i = some (virtC (ds.set k { d with status := 1, at_ := 0 }) i c) := by
  unfold wantOf
  by_cases hm : c.Mark = k + 1
  · rw [virtC_own (ds := ds.set k { d with status := 1, at_ := 0 }) (by rw [get_set hd, if_pos rfl]) hm]
    unfold virtD
    rw [if_pos rfl]
    dsimp only
    cases hf : d.l.find? (fun e => e.Cell == i) with
    | none =>
      dsimp only
      rw [g.virt _ _ hc, virtC_own hd hm]
      unfold virtD; rw [if_neg (by omega)]
    | some e =>
      dsimp only
      have h1 : (fun f : tx_Entry => f.Cell == i) e = true := List.find?_some (p := fun f : tx_Entry => f.Cell == i) hf
      have h1' : e.Cell = i := by simpa using h1
      obtain ⟨j, hj, hje⟩ := List.mem_iff_getElem.1 (List.mem_of_find?_eq_some hf)
      obtain ⟨c', q1, q2, q3, q4⟩ := g.all hd hs hat (by rw [List.getElem?_eq_getElem hj, hje] : d.l[j]? = some e)
      rw [h1', hc] at q1; injection q1 with q1; subst q1
      rw [h1'] at q4
      by_cases hw : e.Write = true
      · rw [if_pos hw, if_pos hw, q3]
      · rw [if_neg hw, if_neg hw, q4]
  · rw [virtC_other hm]
    have : d.l.find? (fun e => e.Cell == i) = none := by
      refine List.find?_eq_none.2 fun e he => ?_
      obtain ⟨j, hj, hje⟩ := List.mem_iff_getElem.1 he
      obtain ⟨c', q1, q2, _⟩ := g.all hd hs hat (by rw [List.getElem?_eq_getElem hj, hje] : d.l[j]? = some e)
      intro z
      have z' : e.Cell = i := by simpa using z
      rw [z', hc] at q1; injection q1 with q1; subst q1; exact hm q2
    rw [this]; exact g.virt _ _ hc
def over (d : desc_Desc) : Prop := d.status ≠ 0 ∧ d.at_ = d.l.length
instance (d : desc_Desc) : Decidable (over d) := inferInstanceAs (Decidable (_ ∧ _))
/-- How many steps it has yet to go, at most. -/
def phi (d : desc_Desc) : Nat := if d.status = 0 then (d.l.length - d.at_.toNat) + 1 + d.l.length else d.l.length - d.at_.toNat
theorem phi_over {d : desc_Desc} {lim : Int} {L : List api_Cell} (h : DI lim d L) : over d ↔ phi d = 0 := by
  have := h.at0
  have := h.at1
  unfold over phi
  by_cases hs : d.status = 0
  · rw [if_pos hs]; omega
  · rw [if_neg hs]; omega
theorem dstep_over {d : desc_Desc} {lim : Int} {L : List api_Cell} (h : over d) : dstep lim d L = (0, d, L) := by
  unfold dstep
  rw [if_pos h.1, at_none (by rw [h.2]; omega)]
/-- It waits, or goes on. -/
theorem dstep_goes {d : desc_Desc} {lim : Int} {L : List api_Cell} (h : DI lim d L) (ho : ¬ over d) : ((dstep lim d L).1 = 0 ∧ phi (dstep lim d L).2.1 < phi d) ∨
    (dstep lim d L = ((dstep lim d L).1, d, L) ∧ (dstep lim d L).1 ≠ 0 ∧ (dstep lim d L).1 ≠ d.mark ∧ d.status = 0 ∧ ∃ e c, at_ d.l d.at_ = some e ∧ at_ L e.Cell = some c ∧ c.Mark = (dstep lim d L).1) := by
  have h0 := h.at0
  have h1 := h.at1
  have hm := h.mark
  unfold dstep
  by_cases hs : d.status ≠ 0
  · rw [if_pos hs]
    rcases h.atE with ⟨e1, e2⟩ | ⟨e, e1, e2, e3⟩
    · exact absurd ⟨hs, e2⟩ ho
    · rw [e1]
      dsimp only
      have hp : phi { d with at_ := d.at_ + 1 } < phi d := by unfold phi; rw [if_neg hs, if_neg hs]; dsimp only; omega
      cases at_ L e.Cell with
      | none => exact .inl ⟨rfl, hp⟩
      | some c =>
        dsimp only
        split
        · exact .inl ⟨rfl, hp⟩
        · exact .inl ⟨rfl, hp⟩
  · have hs0 : d.status = 0 := Decidable.byContradiction hs
    rw [if_neg hs]
    have hp1 : ∀ s, s ≠ 0 → phi { d with status := s, at_ := 0 } < phi d := fun s h' => by unfold phi; rw [if_neg h', if_pos hs0]; dsimp only; omega
    rcases h.atE with ⟨e1, e2⟩ | ⟨e, e1, e2, e3⟩
    · rw [e1]; exact .inl ⟨rfl, hp1 1 (by decide)⟩
    · rw [e1]
      dsimp only
      cases hc : at_ L e.Cell with
      | none => exact .inl ⟨rfl, hp1 2 (by decide)⟩
      | some c =>
        dsimp only
        by_cases k1 : c.Mark ≠ 0 ∧ c.Mark ≠ d.mark
        · rw [if_pos k1]
          exact .inr ⟨rfl, k1.1, k1.2, hs0, e, c, rfl, hc, rfl⟩
        · rw [if_neg k1]
          split
          · exact .inl ⟨rfl, hp1 2 (by decide)⟩
          · split
            · exact .inl ⟨rfl, hp1 3 (by decide)⟩
            · refine .inl ⟨rfl, ?_⟩
              unfold phi; rw [if_pos hs0, if_pos hs0]; dsimp only; omega
def Phi (ds : List desc_Desc) : Nat := (ds.map phi).sum
theorem Phi_set : ∀ {ds : List desc_Desc} {k : Nat} {d : desc_Desc} (d' : desc_Desc), ds[k]? = some d → Phi (ds.set k d') + phi d = Phi ds + phi d'
  | [], k, d, d', h => by simp at h
  | x :: ds, 0, d, d', h => by simp at h; subst h; unfold Phi; simp; omega
  | x :: ds, k + 1, d, d', h => by
    have := Phi_set (ds := ds) d' (by simpa using h)
    unfold Phi at *; simp at *; omega
/-- A cell that is marked tells who holds it: who isn't over. -/
theorem G.holder (g : G lim n ds L want) {i : Int} {c : api_Cell} (hc : at_ L i = some c) (hm : c.Mark ≠ 0) : ∃ (k : Nat) (d : desc_Desc), ds[k]? = some d ∧ c.Mark = k + 1 ∧ ¬ over d := by
  obtain ⟨k, d, h1, h2, j, e, h3, h4, h5, h6⟩ := g.own i c hc hm
  have hj : j < d.l.length := (List.getElem?_eq_some_iff.1 h3).1
  refine ⟨k, d, h1, h2, fun z => ?_⟩
  have := h6 z.1
  have := z.2
  omega
/-- Who waits while it holds a cell waits for a higher one. -/
theorem G.higher (g : G lim n ds L want) {k : Nat} {d : desc_Desc} (hd : ds[k]? = some d) (hs : d.status = 0) {i : Int} {c : api_Cell} (hc : at_ L i = some c) (hm : c.Mark = k + 1) {e : tx_Entry} (he : at_ d.l d.at_ = some e) : i < e.Cell := by
  obtain ⟨j, f, h3, h4, h5, h6⟩ := g.ownK hd hc hm
  have h0 := (g.di k d hd).at0
  obtain ⟨_, _, e3⟩ := at_val he
  have := h5 hs
  have := g.rise k d hd j d.at_.toNat f e (by omega) h3 e3
  omega
/-- For which cell it waits, if it does. -/
def wcell (ds : List desc_Desc) (v : Nat) : Option Int := (ds[v]?).bind fun d => if d.status = 0 then (at_ d.l d.at_).map (·.Cell) else none
/-- At the end nothing is marked, and all is as wanted. -/
theorem G.final (g : G lim n ds L want) (h : ∀ (k : Nat) d, ds[k]? = some d → over d) {i : Int} {c : api_Cell} (hc : at_ L i = some c) : at_ want i = some c := by
  have hm : c.Mark = 0 := Decidable.byContradiction fun z => by
    obtain ⟨k, d, h1, _, h2⟩ := g.holder hc z
    exact h2 (h k d h1)
  rw [g.virt _ _ hc]
  unfold virtC
  rw [if_pos (by omega)]
  cases c; simp at hm; subst hm; rfl
end
theorem nodup_nat : ∀ (n : Nat) (l : List Nat), l.Nodup → (∀ x ∈ l, x < n) → l.length ≤ n
  | 0, l, _, h => by
    cases l with
    | nil => simp
    | cons a l => have := h a List.mem_cons_self; omega
  | n + 1, l, hn, h => by
    have h1 := nodup_nat n (l.erase n) (hn.erase _) (fun x hx => by
      have hm := (List.Nodup.mem_erase_iff hn).1 hx
      have := h x hm.2
      have := hm.1
      omega)
    have h2 : l.length ≤ (l.erase n).length + 1 := by
      rw [List.length_erase]; split <;> omega
    omega
end Go.Proofs
/-! advance: one descriptor that isn't over, and waits for none, goes a step. -/
set_option linter.unusedVariables false
namespace Go.Proofs
open Go.Sl
def logOf (d d' : desc_Desc) (e : stm_Entry) : List stm_Entry := if d.status = 0 ∧ d'.status = 1 then [e] else if d.status = 0 ∧ d'.status = 3 then [{ e with Told := -1, Spent := true }] else []
theorem app_ok {α : Type} (xs ys : List α) (h : xs.length + ys.length ≤ 1000000) : app xs ys = some (xs ++ ys) := by
  unfold app; rw [decide_eq_true (by omega)]; rfl
theorem dstep_st {lim : Int} {d : desc_Desc} {L : List api_Cell} (h : DI lim d L) : (dstep lim d L).2.1.status = d.status ∨
    (d.status = 0 ∧ (dstep lim d L).2.1.status = 2 ∧ ∃ e ∈ d.l, ∀ c, at_ L e.Cell = some c → (c.Mark = 0 ∨ c.Mark = d.mark) ∧ c.Version ≠ e.Version) ∨
    (d.status = 0 ∧ (dstep lim d L).2.1.status = 3) ∨ (d.status = 0 ∧ (dstep lim d L).2.1.status = 1 ∧ d.at_ = d.l.length) := by
  unfold dstep
  by_cases hs : d.status ≠ 0
  · rw [if_pos hs]
    left
    split
    · rfl
    · split
      · rfl
      · split <;> rfl
  · have hs0 : d.status = 0 := Decidable.byContradiction hs
    rw [if_neg hs]
    rcases h.atE with ⟨e1, e2⟩ | ⟨e, e1, e2, e3⟩
    · rw [e1]; exact .inr (.inr (.inr ⟨hs0, rfl, e2⟩))
    · rw [e1]
      dsimp only
      have hmem := List.mem_of_getElem? e3
      cases hc : at_ L e.Cell with
      | none => exact .inr (.inl ⟨hs0, rfl, e, hmem, fun c q => by rw [hc] at q; cases q⟩)
      | some c =>
        dsimp only
        by_cases k1 : c.Mark ≠ 0 ∧ c.Mark ≠ d.mark
        · rw [if_pos k1]; exact .inl rfl
        · rw [if_neg k1]
          by_cases k2 : c.Version ≠ e.Version
          · rw [if_pos k2]
            refine .inr (.inl ⟨hs0, rfl, e, hmem, fun c' q => ?_⟩)
            rw [hc] at q; injection q with q; subst q
            exact ⟨by omega, k2⟩
          · rw [if_neg k2]
            split
            · exact .inr (.inr (.inl ⟨hs0, rfl⟩))
            · exact .inl rfl
theorem set_same {ds : List desc_Desc} {k : Nat} {d : desc_Desc} (hd : ds[k]? = some d) : ds.set k d = ds := by
  apply List.ext_getElem?; intro j; rw [get_set hd]; split
  · rename_i e; subst e; exact hd.symm
  · rfl
section
variable {lim : Int} {n : Nat} {ds : List desc_Desc} {L want : List api_Cell} {el gl : List stm_Entry}
/-- A turn of the loop. -/
theorem adv_turn (g : G lim n ds L want) (hel : el.length = ds.length) (hlen : ds.length ≤ 100000) (hgl : gl.length ≤ 100000) (K m : Nat) {d : desc_Desc} (hd : ds[m]? = some d) :
    ∃ e, el[m]? = some e ∧ stm_Machine_advance.l1 el (K + 1) ((m : Int) + 1, L, lim, gl, ds) = stm_Machine_advance.l1 el K ((dstep lim d L).1, (dstep lim d L).2.2, lim, gl ++ logOf d (dstep lim d L).2.1 e, ds.set m (dstep lim d L).2.1) := by
  have hm : m < ds.length := (List.getElem?_eq_some_iff.1 hd).1
  have he : el[m]? = some (el[m]'(by omega)) := List.getElem?_eq_getElem (by omega)
  refine ⟨el[m]'(by omega), he, ?_⟩
  have ew : w64 ((m : Int) + 1 - 1) = m := by rw [w64_id (by omega) (by omega)]; omega
  rw [stm_Machine_advance.l1, decide_eq_true (by omega : (0 : Int) < (m : Int) + 1), cond_true, decide_eq_true (by omega : (m : Int) + 1 ≤ (el.length : Int)), Option.bind_some, cond_true, ew, at_of (i := (m : Int)) (by omega) he, Option.bind_some,
    at_of (i := (m : Int)) (by omega) hd, Option.bind_some]
  simp only [desc_Desc_Status.f, Option.bind_some]
  rw [step_ok (g.di m d hd), Option.bind_some]
  dsimp only [Option.bind_some]
  have hnat : ((m : Nat) : Int).toNat = m := by omega
  rw [hnat]
  unfold logOf
  by_cases h0 : d.status = 0
  · by_cases h1 : (dstep lim d L).2.1.status = 1
    · have b : ((d.status != 0) || (((dstep lim d L).2.1.status != 1) && ((dstep lim d L).2.1.status != 3))) = false := by rw [h0, h1]; rfl
      have b3 : ((dstep lim d L).2.1.status == 3) = false := by rw [h1]; rfl
      rw [b, b3, cond_false, cond_false, if_pos ⟨h0, h1⟩, app_ok _ _ (by simp; omega), Option.bind_some]
    · by_cases h3 : (dstep lim d L).2.1.status = 3
      · have b : ((d.status != 0) || (((dstep lim d L).2.1.status != 1) && ((dstep lim d L).2.1.status != 3))) = false := by rw [h0, h3]; rfl
        have b3 : ((dstep lim d L).2.1.status == 3) = true := by rw [h3]; rfl
        rw [b, b3, cond_false, cond_true, if_neg (fun z => h1 z.2), if_pos ⟨h0, h3⟩, app_ok _ _ (by simp; omega), Option.bind_some]
      · have b : ((d.status != 0) || (((dstep lim d L).2.1.status != 1) && ((dstep lim d L).2.1.status != 3))) = true := by
          have q1 : ((dstep lim d L).2.1.status != 1) = true := by simpa using h1
          have q3 : ((dstep lim d L).2.1.status != 3) = true := by simpa using h3
          rw [q1, q3]; simp
        rw [b, cond_true, if_neg (fun z => h1 z.2), if_neg (fun z => h3 z.2), List.append_nil]
  · have b : ((d.status != 0) || (((dstep lim d L).2.1.status != 1) && ((dstep lim d L).2.1.status != 3))) = true := by
      have : (d.status != 0) = true := by simpa using h0
      rw [this]; rfl
    rw [b, cond_true, if_neg (fun z => h0 z.1), if_neg (fun z => h0 z.1), List.append_nil]
theorem adv_l1 (g : G lim n ds L want) (hel : el.length = ds.length) (hlen : ds.length ≤ 100000) (hgl : gl.length ≤ 100000) : ∀ (r m K : Nat) (d : desc_Desc), ds[m]? = some d → ¬ over d → (∀ e, d.status = 0 → at_ d.l d.at_ = some e → (n : Int) ≤ e.Cell + r) → r + 2 ≤ K →
    ∃ (j : Nat) (dj : desc_Desc) (e : stm_Entry), ds[j]? = some dj ∧ el[j]? = some e ∧ ¬ over dj ∧ (dstep lim dj L).1 = 0 ∧ phi (dstep lim dj L).2.1 < phi dj ∧
      stm_Machine_advance.l1 el K ((m : Int) + 1, L, lim, gl, ds) = some (gl ++ logOf dj (dstep lim dj L).2.1 e, (dstep lim dj L).2.2, lim, ds.set j (dstep lim dj L).2.1) := by
  intro r
  induction r with
  | zero =>
    intro m K d hd hno hw hK
    obtain ⟨K, rfl⟩ : ∃ q, K = q + 2 := ⟨K - 2, by omega⟩
    obtain ⟨e, h1, h2⟩ := adv_turn g hel hlen hgl (K + 1) m hd
    rcases dstep_goes (g.di m d hd) hno with ⟨a, b⟩ | ⟨a, b, c, s0, e', c', q1, q2, q3⟩
    · refine ⟨m, d, e, hd, h1, hno, a, b, ?_⟩
      rw [h2, a, stm_Machine_advance.l1]; rfl
    · have := hw e' s0 q1
      obtain ⟨i0, i1, _⟩ := at_val q2
      rw [g.lenL] at i1; omega
  | succ r ih =>
    intro m K d hd hno hw hK
    obtain ⟨K, rfl⟩ : ∃ q, K = q + 2 := ⟨K - 2, by omega⟩
    obtain ⟨e, h1, h2⟩ := adv_turn g hel hlen hgl (K + 1) m hd
    rcases dstep_goes (g.di m d hd) hno with ⟨a, b⟩ | ⟨a, b, c, s0, e', c', q1, q2, q3⟩
    · refine ⟨m, d, e, hd, h1, hno, a, b, ?_⟩
      rw [h2, a, stm_Machine_advance.l1]; rfl
    · obtain ⟨k, dk, u1, u2, u3⟩ := g.holder q2 (by rw [q3]; exact b)
      have hlog : logOf d d e = [] := by unfold logOf; rw [if_neg (by omega), if_neg (by omega)]
      rw [h2, a]
      dsimp only
      rw [hlog, List.append_nil, set_same hd, ← q3, u2]
      refine ih k (K + 1) dk u1 u3 (fun e2 s2 w2 => ?_) (by omega)
      have := g.higher u1 s2 q2 u2 w2
      have := hw e' s0 q1
      omega
theorem adv_ok (g : G lim n ds L want) (hel : el.length = ds.length) (hlen : ds.length ≤ 100000) (hgl : gl.length ≤ 100000) (m K : Nat) (d : desc_Desc) (hd : ds[m]? = some d) (hno : ¬ over d) (hK : n + 2 ≤ K) :
    ∃ (j : Nat) (dj : desc_Desc) (e : stm_Entry), ds[j]? = some dj ∧ el[j]? = some e ∧ ¬ over dj ∧ (dstep lim dj L).1 = 0 ∧ phi (dstep lim dj L).2.1 < phi dj ∧
      stm_Machine_advance.f K ⟨L, lim⟩ ds el gl ((m : Int) + 1) = some (⟨(dstep lim dj L).2.2, lim⟩, ds.set j (dstep lim dj L).2.1, gl ++ logOf dj (dstep lim dj L).2.1 e) := by
  obtain ⟨j, dj, e, a, b, c, h, i, q⟩ := adv_l1 g hel hlen hgl n m K d hd hno (fun e _ w => by
    obtain ⟨_, _, e3⟩ := at_val w
    have := (g.cell m d hd _ e e3).1
    omega) hK
  refine ⟨j, dj, e, a, b, c, h, i, ?_⟩
  unfold stm_Machine_advance.f
  rw [q]; rfl
end
end Go.Proofs
/-! What always holds of a machine. -/
set_option linter.unusedVariables false
namespace Go.Proofs
open Go.Sl
abbrev W8 := Wk (List law06_Op)
abbrev M8c := Mc (List law06_Op)
abbrev Lists := List (List (List law06_Op))
/-- A cell had this value at this version. -/
def VK (want : List api_Cell) (i v x : Int) : Prop := ∃ c, at_ want i = some c ∧ v ≤ c.Version ∧ (v = c.Version → x = c.Value)
def VKm (want want' : List api_Cell) : Prop := ∀ i v x, VK want i v x → VK want' i v x
def RecOk (n : Nat) (want : List api_Cell) (t : tx_Tx) (T : List (Int × api_Cell)) : Prop := RecT n t T ∧ ∀ c z, mfind T c = some z → VK want c z.Version z.Value
/-- Is the job's descriptor in the log? -/
def lg (ds : List desc_Desc) (d : Option Int) : Nat := match d with
  | none => 0
  | some i => match at_ ds i with
    | none => 0
    | some d => if d.status = 1 ∨ d.status = 3 then 1 else 0
structure WOk (n : Nat) (l : Lists) (ds : List desc_Desc) (el : List stm_Entry) (want : List api_Cell) (dn : List Nat) (w : Nat) (x : W8) : Prop where
  fi : x.fi = w
  os : ∃ os, l[w]? = some os ∧ x.told.length ≤ os.length ∧ ∀ ops, x.job = some ops → os[x.told.length]? = some ops
  nd : x.job = none → x.d = none
  rc : x.job ≠ none → x.d = none → ∃ t T, x.t = some t ∧ RecOk n want t T
  dsc : ∀ i, x.d = some i → ∃ (k : Nat) (d : desc_Desc) (e : stm_Entry) (ops : List law06_Op), i = k ∧ ds[k]? = some d ∧ el[k]? = some e ∧ e.Worker = w ∧ e.Job = x.told.length ∧ e.Spent = false ∧ x.job = some ops ∧ EntOk n ops d.l e.Told
  dnw : dn[w]? = some (x.told.length + lg ds x.d)
def EntryOk (l : Lists) (x : stm_Entry) (p p' : List Int) (dn dn' : List Nat) : Prop := ∃ (w j : Nat) (os : List (List law06_Op)) (ops : List law06_Op), x.Worker = w ∧ dn[w]? = some j ∧ x.Job = j ∧ l[w]? = some os ∧ os[j]? = some ops ∧ dn' = dn.set w (j + 1) ∧
  ((x.Spent = true ∧ x.Told = -1 ∧ p' = p) ∨ (x.Spent = false ∧ ∃ r, (∀ k2, 50 < k2 → VM.run plainI (law06_Do.f k2 ops) p = some (r, p')) ∧ x.Told = w64 (r.tmod 1000000)))
def Rp (l : Lists) : List stm_Entry → List Int → List Nat → List Int → List Nat → Prop
  | [], p, dn, p', dn' => p' = p ∧ dn' = dn
  | x :: xs, p, dn, p', dn' => ∃ p1 dn1, EntryOk l x p p1 dn dn1 ∧ Rp l xs p1 dn1 p' dn'
theorem Rp.snoc {l : Lists} {x : stm_Entry} : ∀ {xs : List stm_Entry} {p p1 p2 : List Int} {dn dn1 dn2 : List Nat}, Rp l xs p dn p1 dn1 → EntryOk l x p1 p2 dn1 dn2 → Rp l (xs ++ [x]) p dn p2 dn2
  | [], _, _, _, _, _, _, ⟨rfl, rfl⟩, h => ⟨_, _, h, rfl, rfl⟩
  | _ :: _, _, _, _, _, _, _, ⟨_, _, a, b⟩, h => ⟨_, _, a, b.snoc h⟩
def ToldOk (l : List W8) (ds : List desc_Desc) (el : List stm_Entry) (x : stm_Entry) : Prop := ∃ (w j : Nat) (y : W8), x.Worker = w ∧ x.Job = j ∧ l[w]? = some y ∧ ((j < y.told.length ∧ y.told[j]? = some x.Told) ∨
  (j = y.told.length ∧ ∃ (k : Nat) (d : desc_Desc) (e : stm_Entry), y.d = some (k : Int) ∧ ds[k]? = some d ∧ el[k]? = some e ∧ ((d.status = 1 ∧ x.Told = e.Told) ∨ (d.status = 3 ∧ x.Told = -1))))
structure Inv (n : Nat) (lim : Int) (l : Lists) (c : Nat) (M : M8c) (L want : List api_Cell) (dn : List Nat) : Prop where
  g : G lim n M.dl L want
  el : M.el.length = M.dl.length
  ll : M.l.length = l.length
  rp : Rp l M.log (List.replicate n 0) (List.replicate l.length 0) (want.map (·.Value)) dn
  wk : ∀ (w : Nat) (x : W8), M.l[w]? = some x → WOk n l M.dl M.el want dn w x
  own : ∀ (k : Nat) (d : desc_Desc), M.dl[k]? = some d → ¬ over d → ∃ (w : Nat) (x : W8), M.l[w]? = some x ∧ x.d = some (k : Int)
  kn : ∀ (k : Nat) (d : desc_Desc), M.dl[k]? = some d → d.status = 0 → ∀ e ∈ d.l, VK want e.Cell e.Version e.Old
  wv : ∀ i c, at_ want i = some c → 0 ≤ c.Version ∧ c.Version ≤ lim
  td : ∀ x ∈ M.log, ToldOk M.l M.dl M.el x
  c1 : M.dl.length ≤ c
  c2 : M.log.length ≤ c
structure Hyp (n : Nat) (lim : Int) (l : Lists) : Prop where
  n0 : n ≤ 1000
  lim : 1 ≤ lim ∧ lim ≤ 4294967295
  os : ∀ os ∈ l, os.length ≤ 100
  ops : ∀ os ∈ l, ∀ ops ∈ os, ops.length ≤ 40 ∧ ∀ x ∈ ops, 0 ≤ x.N
/-! Sums over workers. -/
def Sm (f : W8 → Nat) (l : List W8) : Nat := (l.map f).sum
theorem Sm_set : ∀ {l : List W8} {k : Nat} {x : W8} (f : W8 → Nat) (x' : W8), l[k]? = some x → Sm f (l.set k x') + f x = Sm f l + f x'
  | [], k, x, f, x', h => by simp at h
  | y :: l, 0, x, f, x', h => by simp at h; subst h; unfold Sm; simp; omega
  | y :: l, k + 1, x, f, x', h => by
    have := Sm_set (l := l) f x' (by simpa using h)
    unfold Sm at *; simp at *; omega
theorem Sm_le {f g : W8 → Nat} : ∀ {l : List W8}, (∀ (w : Nat) x, l[w]? = some x → f x ≤ g x) → Sm f l ≤ Sm g l
  | [], _ => Nat.le_refl _
  | y :: l, h => by
    have h1 := Sm_le (l := l) (fun w x hx => h (w + 1) x (by simpa using hx))
    have h2 := h 0 y rfl
    unfold Sm at *; simp at *; omega
theorem Sm_lt {f g : W8 → Nat} : ∀ {l : List W8} {k : Nat} {z : W8}, (∀ (w : Nat) x, l[w]? = some x → f x ≤ g x) → l[k]? = some z → f z < g z → Sm f l < Sm g l
  | [], k, z, _, h, _ => by simp at h
  | y :: l, 0, z, h, hz, hlt => by
    have h1 := Sm_le (l := l) (fun w x hx => h (w + 1) x (by simpa using hx))
    simp at hz; subst hz
    unfold Sm at *; simp at *; omega
  | y :: l, k + 1, z, h, hz, hlt => by
    have h1 := Sm_lt (l := l) (k := k) (z := z) (fun w x hx => h (w + 1) x (by simpa using hx)) (by simpa using hz) hlt
    have h2 := h 0 y rfl
    unfold Sm at *; simp at *; omega
theorem Sm_eq {f g : W8 → Nat} {l : List W8} (h : ∀ (w : Nat) x, l[w]? = some x → f x = g x) : Sm f l = Sm g l :=
  Nat.le_antisymm (Sm_le fun w x e => by rw [h w x e]; exact Nat.le_refl _) (Sm_le fun w x e => by rw [h w x e]; exact Nat.le_refl _)
/-- One alone has one less. -/
theorem Sm_one {f g : W8 → Nat} : ∀ {l : List W8} {k : Nat} {z : W8}, (∀ (w : Nat) x, l[w]? = some x → w ≠ k → f x = g x) → l[k]? = some z → f z + 1 = g z → Sm f l + 1 = Sm g l
  | [], k, z, _, h, _ => by simp at h
  | y :: l, 0, z, h, hz, hlt => by
    have h1 := Sm_eq (l := l) (fun w x hx => h (w + 1) x (by simpa using hx) (by omega))
    simp at hz; subst hz
    unfold Sm at *; simp at *; omega
  | y :: l, k + 1, z, h, hz, hlt => by
    have h1 := Sm_one (l := l) (k := k) (z := z) (fun w x hx hne => h (w + 1) x (by simpa using hx) (by omega)) (by simpa using hz) hlt
    have h2 := h 0 y rfl (by omega)
    unfold Sm at *; simp at *; omega
theorem Sm_bound {f : W8 → Nat} {B : Nat} : ∀ {l : List W8}, (∀ (w : Nat) x, l[w]? = some x → f x ≤ B) → Sm f l ≤ l.length * B
  | [], _ => by unfold Sm; simp
  | y :: l, h => by
    have h1 := Sm_bound (l := l) (fun w x hx => h (w + 1) x (by simpa using hx))
    have h2 := h 0 y rfl
    unfold Sm at *; simp only [List.map_cons, List.sum_cons, List.length_cons, Nat.succ_mul]; omega
def verOf (want : List api_Cell) (i : Int) : Int := match at_ want i with
  | none => 0
  | some c => c.Version
def staleR (want : List api_Cell) (T : List (Int × api_Cell)) : Bool := T.any fun p => decide (verOf want p.1 ≠ p.2.Version)
def staleD (want : List api_Cell) (l : List tx_Entry) : Bool := l.any fun e => decide (verOf want e.Cell ≠ e.Version)
def Fc (n : Nat) : Nat := 3 * n + 3
def learnt (x : W8) : List (Int × api_Cell) := match x.t with
  | none => []
  | some t => t.l.getD []
/-- What a worker has yet to do, at most; z: what one without a job has. -/
def potW (z n : Nat) (ds : List desc_Desc) (want : List api_Cell) (x : W8) : Nat := match x.job with
  | none => z
  | some _ => match x.d with
    | none => (n - (learnt x).length) + (2 * n + 3) + (bif staleR want (learnt x) then Fc n else 0)
    | some i => match at_ ds i with
      | none => 0
      | some d => phi d + 1 + (if d.status = 0 then (bif staleD want d.l then Fc n else 0) else if d.status = 2 then Fc n else 0)
def ei (ds : List desc_Desc) (x : W8) : Nat := if x.job.isSome = true ∧ lg ds x.d = 0 then 1 else 0
theorem WOk.mono {n : Nat} {l : Lists} {ds ds' : List desc_Desc} {el el' : List stm_Entry} {want want' : List api_Cell} {dn dn' : List Nat} {w : Nat} {y : W8} (h : WOk n l ds el want dn w y)
    (hds : ∀ (k : Nat) d, ds[k]? = some d → ∃ d', ds'[k]? = some d' ∧ d'.l = d.l) (hel : ∀ (k : Nat) (e : stm_Entry), el[k]? = some e → el'[k]? = some e) (hv : VKm want want') (hdn : dn'[w]? = some (y.told.length + lg ds' y.d)) : WOk n l ds' el' want' dn' w y := by
  refine ⟨h.fi, h.os, h.nd, fun a b => ?_, fun i hi => ?_, hdn⟩
  · obtain ⟨t, T, h1, h2, h3⟩ := h.rc a b
    exact ⟨t, T, h1, h2, fun c z hz => hv _ _ _ (h3 c z hz)⟩
  · obtain ⟨k, d, e, ops, h1, h2, h3, h4, h5, h6, h7, h8⟩ := h.dsc i hi
    obtain ⟨d', k1, k2⟩ := hds k d h2
    exact ⟨k, d', e, ops, h1, k1, hel k e h3, h4, h5, h6, h7, by rw [k2]; exact h8⟩
theorem VKm.refl (want : List api_Cell) : VKm want want := fun _ _ _ h => h
theorem lg_at {ds : List desc_Desc} {k : Nat} {d : desc_Desc} (h : ds[k]? = some d) : lg ds (some (k : Int)) = if d.status = 1 ∨ d.status = 3 then 1 else 0 := by
  unfold lg
  dsimp only
  rw [at_of (i := (k : Int)) (by omega) h]
theorem at_setN {ds : List desc_Desc} {j : Nat} {d d' : desc_Desc} (h : ds[j]? = some d) (k : Nat) : at_ (ds.set j d') (k : Int) = if j = k then some d' else at_ ds (k : Int) := by
  by_cases e : j = k
  · rw [if_pos e]; exact at_of (i := (k : Int)) (by omega) (by show (ds.set j d')[k]? = _; rw [get_set h, if_pos e])
  · rw [if_neg e]
    have : (ds.set j d')[k]? = ds[k]? := by rw [get_set h, if_neg e]
    unfold at_; rw [decide_eq_true (by omega), cond_true, cond_true]; exact this
theorem virt0 {ds : List desc_Desc} {k : Nat} {d : desc_Desc} {i : Int} {c : api_Cell} (hd : ds[k]? = some d) (h0 : d.status = 0) (hm : c.Mark = 0 ∨ c.Mark = k + 1) : virtC ds i c = { c with Mark := 0 } := by
  rcases hm with q | q
  · unfold virtC; rw [if_pos (by omega)]
  · rw [virtC_own hd q]; unfold virtD; rw [if_neg (by omega)]
section
variable {n : Nat} {lim : Int} {l : Lists} {c : Nat} {M : M8c} {L want : List api_Cell} {dn : List Nat}
/-- Who has a descriptor is its worker, and no other one. -/
theorem Inv.uniq (I : Inv n lim l c M L want dn) {w v : Nat} {x y : W8} {j : Nat} (hx : M.l[w]? = some x) (hy : M.l[v]? = some y) (ex : x.d = some (j : Int)) (ey : y.d = some (j : Int)) : w = v := by
  obtain ⟨k, d, e, ops, h1, h2, h3, h4, _⟩ := (I.wk w x hx).dsc _ ex
  obtain ⟨k', d', e', ops', h1', h2', h3', h4', _⟩ := (I.wk v y hy).dsc _ ey
  have q1 : k = j := by omega
  have q2 : k' = j := by omega
  subst q1; subst q2
  rw [h3] at h3'; injection h3' with h3'; subst h3'
  rw [h4] at h4'; omega
theorem Inv.dk (I : Inv n lim l c M L want dn) {w : Nat} {x : W8} (hx : M.l[w]? = some x) {i : Int} (ex : x.d = some i) : ∃ k : Nat, i = k := by
  obtain ⟨k, _, _, _, h1, _⟩ := (I.wk w x hx).dsc _ ex
  exact ⟨k, h1⟩
/-- A descriptor goes on, and isn't logged by it. -/
theorem Inv.quiet (I : Inv n lim l c M L want dn) {j : Nat} {d : desc_Desc} (hd : M.dl[j]? = some d) (hno : ¬ over d) (hphi : phi (dstep lim d L).2.1 < phi d) (hs : (dstep lim d L).2.1.status = d.status ∨ (d.status = 0 ∧ (dstep lim d L).2.1.status = 2 ∧ ∃ e ∈ d.l, ∀ c, at_ L e.Cell = some c → (c.Mark = 0 ∨ c.Mark = d.mark) ∧ c.Version ≠ e.Version)) :
    Inv n lim l c ⟨M.l, M.dl.set j (dstep lim d L).2.1, M.el, M.log⟩ (dstep lim d L).2.2 want dn ∧ Sm (ei (M.dl.set j (dstep lim d L).2.1)) M.l = Sm (ei M.dl) M.l ∧ ∀ z, Sm (potW z n (M.dl.set j (dstep lim d L).2.1) want) M.l < Sm (potW z n M.dl want) M.l := by
  obtain ⟨km, kl⟩ := dstep_keeps lim d L
  have hno1 : ¬ (d.status = 0 ∧ (dstep lim d L).2.1.status = 1) := fun z => by rcases hs with q | q <;> omega
  have hnr := I.g.nr j d hd
  obtain ⟨w, x, hx, hxd⟩ := I.own j d hd hno
  have hst := I.g.step hd hno1
  generalize (dstep lim d L).2.1 = d' at *
  generalize (dstep lim d L).2.2 = L' at *
  have hlg : ∀ (k : Nat), lg (M.dl.set j d') (some (k : Int)) = lg M.dl (some (k : Int)) := fun k => by
    unfold lg
    dsimp only
    rw [at_setN hd]
    by_cases e : j = k
    · subst e
      rw [if_pos rfl, at_of (i := (j : Int)) (by omega) hd]
      dsimp only
      rcases hs with q | ⟨q1, q2, _⟩
      · rw [q]
      · rw [if_neg (by omega), if_neg (by omega)]
    · rw [if_neg e]
  have hlg2 : ∀ (v : Nat) (y : W8), M.l[v]? = some y → lg (M.dl.set j d') y.d = lg M.dl y.d := fun v y hy => by
    cases e : y.d with
    | none => rfl
    | some i =>
      obtain ⟨k, rfl⟩ := I.dk hy e
      exact hlg k
  refine ⟨⟨hst, by rw [List.length_set]; exact I.el, I.ll, I.rp, fun v y hy => ?_, fun k e he ho => ?_, fun k e he h0 => ?_, I.wv, fun x hx => ?_, by rw [List.length_set]; exact I.c1, I.c2⟩, Sm_eq fun v y hy => ?_, fun z => ?_⟩
  · refine (I.wk v y hy).mono (fun k e he => ?_) (fun _ _ h => h) (.refl _) (by rw [hlg2 v y hy]; exact (I.wk v y hy).dnw)
    rw [get_set hd]
    by_cases q : j = k
    · subst q; rw [if_pos rfl]; rw [hd] at he; injection he with he; subst he; exact ⟨_, rfl, kl⟩
    · rw [if_neg q]; exact ⟨e, he, rfl⟩
  · rw [get_set hd] at he
    by_cases q : j = k
    · subst q; exact ⟨w, x, hx, hxd⟩
    · rw [if_neg q] at he; exact I.own k e he ho
  · rw [get_set hd] at he
    by_cases q : j = k
    · subst q; rw [if_pos rfl] at he; injection he with he; subst he
      rw [kl]
      exact I.kn j d hd (by rcases hs with q | q <;> omega)
    · rw [if_neg q] at he; exact I.kn k e he h0
  · obtain ⟨v, q, y, h1, h2, h3, h4⟩ := I.td x hx
    refine ⟨v, q, y, h1, h2, h3, h4.imp_right ?_⟩
    rintro ⟨h5, k, dk, e, h6, h7, h8, h9⟩
    refine ⟨h5, k, ?_⟩
    by_cases q : j = k
    · subst q
      rw [hd] at h7; injection h7 with h7; subst h7
      refine ⟨d', e, h6, by rw [get_set hd, if_pos rfl], h8, ?_⟩
      have : d'.status = d.status := by rcases hs with q | q <;> omega
      rw [this]; exact h9
    · exact ⟨dk, e, h6, by rw [get_set hd, if_neg q]; exact h7, h8, h9⟩
  · unfold ei; rw [hlg2 v y hy]
  · have hP : ∀ (y : W8), (y.d ≠ some (j : Int) → ∀ (v : Nat), M.l[v]? = some y → potW z n (M.dl.set j d') want y = potW z n M.dl want y) := fun y hne v hy => by
      unfold potW
      cases y.job with
      | none => rfl
      | some o =>
        cases e : y.d with
        | none => rfl
        | some i =>
          obtain ⟨k, rfl⟩ := I.dk hy e
          dsimp only
          rw [at_setN hd, if_neg (fun z => hne (by rw [e, z]))]
    have hQ : ∀ (v : Nat) (y : W8), M.l[v]? = some y → y.d = some (j : Int) → potW z n (M.dl.set j d') want y < potW z n M.dl want y := fun v y hy e => by
      obtain ⟨_, _, _, ops, _, _, _, _, _, _, hj, _⟩ := (I.wk v y hy).dsc _ e
      unfold potW
      rw [hj, e]
      dsimp only
      rw [at_setN hd, if_pos rfl, at_of (i := (j : Int)) (by omega) hd]
      dsimp only
      rw [kl]
      rcases hs with q | ⟨q1, q2, e', he', hstale⟩
      · rw [q]; omega
      · have hst : staleD want d.l = true := by
          unfold staleD
          rw [List.any_eq_true]
          refine ⟨e', he', ?_⟩
          obtain ⟨i, hi⟩ := List.getElem?_of_mem he'
          obtain ⟨c0, hc0⟩ := I.g.in_ hd hi
          obtain ⟨a, b⟩ := hstale c0 hc0
          have hw := I.g.virt _ _ hc0
          rw [virt0 hd q1 (by omega)] at hw
          unfold verOf
          rw [hw]
          simpa using b
        rw [q2, q1, hst, if_pos rfl, if_neg (by omega), if_pos rfl, cond_true]; omega
    refine Sm_lt (fun v y hy => ?_) hx (hQ w x hx hxd)
    by_cases e : y.d = some (j : Int)
    · exact Nat.le_of_lt (hQ v y hy e)
    · exact Nat.le_of_eq (hP y e v hy)
/-- A descriptor is logged. -/
theorem Inv.logged (I : Inv n lim l c M L want dn) {j : Nat} {d d' : desc_Desc} {e : stm_Entry} (hd : M.dl[j]? = some d) (he : M.el[j]? = some e) (h0 : d.status = 0) (kl : d'.l = d.l) (hs : d'.status = 1 ∨ d'.status = 3) {L' want' : List api_Cell} (hG : G lim n (M.dl.set j d') L' want') (hv : VKm want want')
    (hwv : ∀ i c, at_ want' i = some c → 0 ≤ c.Version ∧ c.Version ≤ lim) (x0 : stm_Entry) (hw : x0.Worker = e.Worker) (hj : x0.Job = e.Job) (hT : (d'.status = 1 ∧ x0.Told = e.Told) ∨ (d'.status = 3 ∧ x0.Told = -1))
    (hE : ∀ (ops : List law06_Op), EntOk n ops d.l e.Told → (x0.Spent = true ∧ x0.Told = -1 ∧ want'.map (·.Value) = want.map (·.Value)) ∨ (x0.Spent = false ∧ ∃ r, (∀ k2, 50 < k2 → VM.run plainI (law06_Do.f k2 ops) (want.map (·.Value)) = some (r, want'.map (·.Value))) ∧ x0.Told = w64 (r.tmod 1000000))) :
    ∃ dn', Inv n lim l (c + 1) ⟨M.l, M.dl.set j d', M.el, M.log ++ [x0]⟩ L' want' dn' ∧ Sm (ei (M.dl.set j d')) M.l + 1 = Sm (ei M.dl) M.l := by
  obtain ⟨w, x, hx, hxd⟩ := I.own j d hd (fun z => z.1 h0)
  have hwx := I.wk w x hx
  obtain ⟨k, d2, e2, ops, a1, a2, a3, a4, a5, a6, a7, a8⟩ := hwx.dsc _ hxd
  have a1 : k = j := by omega
  subst a1
  rw [hd] at a2; injection a2 with a2; subst a2
  rw [he] at a3; injection a3 with a3; subst a3
  obtain ⟨os, o1, o2, o3⟩ := hwx.os
  have hdn := hwx.dnw
  rw [hxd, lg_at hd, if_neg (by omega), Nat.add_zero] at hdn
  have hwl : w < dn.length := (List.getElem?_eq_some_iff.1 hdn).1
  have hother : ∀ (v : Nat) (y : W8), M.l[v]? = some y → v ≠ w → lg (M.dl.set k d') y.d = lg M.dl y.d := fun v y hy hne => by
    cases q : y.d with
    | none => rfl
    | some i =>
      obtain ⟨m, rfl⟩ := I.dk hy q
      unfold lg
      dsimp only
      rw [at_setN hd, if_neg (fun z => hne (by subst z; exact I.uniq hy hx q hxd))]
  have hset : (M.dl.set k d')[k]? = some d' := by rw [get_set hd, if_pos rfl]
  refine ⟨dn.set w (x.told.length + 1), ⟨hG, by rw [List.length_set]; exact I.el, I.ll, I.rp.snoc ?_, fun v y hy => ?_, fun m y hy ho => ?_, fun m y hy hm => ?_, hwv, fun z hz => ?_, by rw [List.length_set]; have := I.c1; show _ ≤ c + 1; omega, by have := I.c2; simp; omega⟩, ?_⟩
  · exact ⟨w, x.told.length, os, ops, by rw [hw, a4], hdn, by rw [hj, a5], o1, o3 ops a7, rfl, hE ops a8⟩
  · refine (I.wk v y hy).mono (fun m y' hy' => ?_) (fun _ _ h => h) hv ?_
    · rw [get_set hd]
      by_cases q : k = m
      · subst q; rw [if_pos rfl]; rw [hd] at hy'; injection hy' with hy'; subst hy'; exact ⟨_, rfl, kl⟩
      · rw [if_neg q]; exact ⟨y', hy', rfl⟩
    · by_cases q : v = w
      · subst q
        have hy : M.l[v]? = some y := hy
        rw [hx] at hy; injection hy with hy; subst hy
        rw [List.getElem?_set_self hwl, hxd, lg_at hset, if_pos hs]
      · rw [List.getElem?_set_ne (fun z => q z.symm), hother v y hy q]; exact (I.wk v y hy).dnw
  · rw [get_set hd] at hy
    by_cases q : k = m
    · subst q; exact ⟨w, x, hx, hxd⟩
    · rw [if_neg q] at hy; exact I.own m y hy ho
  · rw [get_set hd] at hy
    by_cases q : k = m
    · subst q; rw [if_pos rfl] at hy; injection hy with hy; subst hy; omega
    · rw [if_neg q] at hy; exact fun e' he' => hv _ _ _ (I.kn m y hy hm e' he')
  · rcases List.mem_append.1 hz with hz | hz
    · obtain ⟨v, q, y, h1, h2, h3, h4⟩ := I.td z hz
      refine ⟨v, q, y, h1, h2, h3, h4.imp_right ?_⟩
      rintro ⟨h5, m, dm, em, h6, h7, h8, h9⟩
      refine ⟨h5, m, dm, em, h6, ?_, h8, h9⟩
      rw [get_set hd, if_neg (fun z => ?_)]
      · exact h7
      · subst z; rw [hd] at h7; injection h7 with h7; subst h7; omega
    · obtain rfl : z = x0 := by simpa using hz
      exact ⟨w, x.told.length, x, by rw [hw, a4], by rw [hj, a5], hx, .inr ⟨rfl, k, d', e, hxd, hset, he, hT⟩⟩
  · refine Sm_one (k := w) (z := x) (fun v y hy hne => ?_) hx ?_
    · unfold ei; rw [hother v y hy hne]
    · unfold ei
      rw [hxd, lg_at hset, lg_at hd, if_pos hs, if_neg (show ¬ (d.status = 1 ∨ d.status = 3) by omega), a7]
      simp
end
end Go.Proofs
/-! A descriptor becomes Done, or Spent; a step of some descriptor. -/
set_option linter.unusedVariables false
namespace Go.Proofs
open Go.Sl
def wantD (n : Nat) (want : List api_Cell) (l : List tx_Entry) : List api_Cell := (List.range n).map fun (i : Nat) => (wantOf want l (i : Int)).getD ⟨0, 0, 0⟩
theorem wantD_at {n : Nat} {want : List api_Cell} {l : List tx_Entry} {i : Int} (h0 : 0 ≤ i) (h1 : i < (n : Int)) : at_ (wantD n want l) i = some ((wantOf want l i).getD ⟨0, 0, 0⟩) := by
  refine at_of h0 ?_
  unfold wantD
  rw [List.getElem?_map, List.getElem?_range (by omega), Option.map_some, show ((i.toNat : Nat) : Int) = i by omega]
theorem wantD_len (n : Nat) (want : List api_Cell) (l : List tx_Entry) : (wantD n want l).length = n := by unfold wantD; simp
theorem pget_at {want : List api_Cell} {i : Int} {c : api_Cell} (h : at_ want i = some c) : pget (want.map (·.Value)) i = c.Value := by
  obtain ⟨h0, h1, h2⟩ := at_val h
  unfold pget
  rw [if_pos ⟨h0, by simpa using h1⟩, List.getD, List.getElem?_map, h2]; rfl
theorem Inv.up {n : Nat} {lim : Int} {l : Lists} {c c' : Nat} {M : M8c} {L want : List api_Cell} {dn : List Nat} (I : Inv n lim l c M L want dn) (h : c ≤ c') : Inv n lim l c' M L want dn :=
  ⟨I.g, I.el, I.ll, I.rp, I.wk, I.own, I.kn, I.wv, I.td, Nat.le_trans I.c1 h, Nat.le_trans I.c2 h⟩
section
variable {n : Nat} {lim : Int} {l : Lists} {c : Nat} {M : M8c} {L want : List api_Cell} {dn : List Nat}
/-- What was wanted of a cell that an entry of a full descriptor has. -/
theorem Inv.full (I : Inv n lim l c M L want dn) {j : Nat} {d : desc_Desc} (hd : M.dl[j]? = some d) (h0 : d.status = 0) (hat : d.at_ = d.l.length) {e : tx_Entry} (he : e ∈ d.l) : ∃ cc, at_ want e.Cell = some cc ∧ cc.Version = e.Version ∧ cc.Value = e.Old ∧ (e.Write = true → cc.Version < lim) := by
  obtain ⟨i, hi⟩ := List.getElem?_of_mem he
  have hil : i < d.l.length := (List.getElem?_eq_some_iff.1 hi).1
  obtain ⟨c0, q1, q2, q3, q4⟩ := I.g.all hd h0 hat hi
  obtain ⟨c1, u1, u2, u3, u4⟩ := (I.g.di j d hd).opn h0 i e (by omega) hi
  rw [q1] at u1; injection u1 with u1; subst u1
  refine ⟨_, q4, q3, ?_, fun hw => ?_⟩
  · obtain ⟨c2, v1, v2, v3⟩ := I.kn j d hd h0 e he
    rw [q4] at v1; injection v1 with v1; subst v1
    exact (v3 q3.symm).symm
  · have := (I.wv _ _ q4).2
    have := u4 hw
    dsimp only at *
    omega
theorem Inv.wantOf (I : Inv n lim l c M L want dn) (H : Hyp n lim l) {j : Nat} {d : desc_Desc} (hd : M.dl[j]? = some d) (h0 : d.status = 0) (hat : d.at_ = d.l.length) {i : Int} {c0 : api_Cell} (hc : at_ want i = some c0) :
    ∃ c1, wantOf want d.l i = some c1 ∧ (c1 = c0 ∨ (c1.Version = c0.Version + 1 ∧ c1.Version ≤ lim)) ∧ c1.Value = (match d.l.find? (fun e => e.Cell == i) with | some e => if e.Write = true then e.New else c0.Value | none => c0.Value) := by
  unfold Go.Proofs.wantOf
  cases hf : d.l.find? (fun e => e.Cell == i) with
  | none => exact ⟨c0, hc, .inl rfl, rfl⟩
  | some e =>
    dsimp only
    have h1 : e.Cell = i := by
      have := List.find?_some (p := fun e : tx_Entry => e.Cell == i) hf
      simpa using this
    obtain ⟨cc, q1, q2, q3, q4⟩ := I.full hd h0 hat (List.mem_of_find?_eq_some hf)
    rw [h1, hc] at q1; injection q1 with q1; subst q1
    by_cases hw : e.Write = true
    · rw [if_pos hw, if_pos hw]
      have h5 := (I.wv _ _ hc).1
      have h6 := q4 hw
      have h7 := H.lim
      refine ⟨_, rfl, .inr ?_, rfl⟩
      have ew : wu32 (e.Version + 1) = c0.Version + 1 := by rw [← q2]; exact wu32_id (by omega) (by omega)
      exact ⟨ew, by show wu32 _ ≤ lim; rw [ew]; omega⟩
    · rw [if_neg hw, if_neg hw]; exact ⟨c0, hc, .inl rfl, rfl⟩
theorem Inv.adv (I : Inv n lim l c M L want dn) (H : Hyp n lim l) (hc : c ≤ 90000) {m : Nat} {d0 : desc_Desc} (hd0 : M.dl[m]? = some d0) (hno0 : ¬ over d0) (K : Nat) (hK : n + 2 ≤ K) :
    ∃ dl' log' L' want' dn', stm_Machine_advance.f K ⟨L, lim⟩ M.dl M.el M.log ((m : Int) + 1) = some (⟨L', lim⟩, dl', log') ∧ dl'.length = M.dl.length ∧ Inv n lim l (c + 1) ⟨M.l, dl', M.el, log'⟩ L' want' dn' ∧ VKm want want' ∧
      ((log' = M.log ∧ want' = want ∧ Sm (ei dl') M.l = Sm (ei M.dl) M.l ∧ ∀ z, Sm (potW z n dl' want) M.l < Sm (potW z n M.dl want) M.l) ∨ (log'.length = M.log.length + 1 ∧ Sm (ei dl') M.l + 1 = Sm (ei M.dl) M.l)) := by
  obtain ⟨j, d, e, hd, he, hno, hz, hphi, hadv⟩ := adv_ok (gl := M.log) I.g I.el (by have := I.c1; omega) (by have := I.c2; omega) m K d0 hd0 hno0 hK
  obtain ⟨km, kl⟩ := dstep_keeps lim d L
  have hdi := I.g.di j d hd
  obtain ⟨w, x, hx, hxd⟩ := I.own j d hd hno
  obtain ⟨k, d2, e2, ops, a1, a2, a3, a4, a5, a6, a7, a8⟩ := (I.wk w x hx).dsc _ hxd
  have a1 : k = j := by omega
  subst a1
  rw [he] at a3; injection a3 with a3; subst a3
  rw [hd] at a2; injection a2 with a2; subst a2
  rcases dstep_st hdi with hs | ⟨h0, h2, h3⟩ | ⟨h0, h3⟩ | ⟨h0, h1, hat⟩
  · obtain ⟨q1, q2, q3⟩ := I.quiet hd hno hphi (.inl hs)
    have hlog : logOf d (dstep lim d L).2.1 e = [] := by unfold logOf; rw [hs, if_neg (by omega), if_neg (by omega)]
    rw [hlog, List.append_nil] at hadv
    exact ⟨_, _, _, want, dn, hadv, List.length_set, q1.up (by omega), .refl _, .inl ⟨rfl, rfl, q2, q3⟩⟩
  · obtain ⟨q1, q2, q3⟩ := I.quiet hd hno hphi (.inr ⟨h0, h2, h3⟩)
    have hlog : logOf d (dstep lim d L).2.1 e = [] := by unfold logOf; rw [h2, if_neg (by omega), if_neg (by omega)]
    rw [hlog, List.append_nil] at hadv
    exact ⟨_, _, _, want, dn, hadv, List.length_set, q1.up (by omega), .refl _, .inl ⟨rfl, rfl, q2, q3⟩⟩
  · have hlog : logOf d (dstep lim d L).2.1 e = [{ e with Told := -1, Spent := true }] := by unfold logOf; rw [if_neg (by omega), if_pos ⟨h0, h3⟩]
    rw [hlog] at hadv
    obtain ⟨dn', q1, q2⟩ := I.logged hd he h0 kl (.inr h3) (I.g.step hd (by omega)) (.refl _) I.wv { e with Told := -1, Spent := true } rfl rfl (.inr ⟨h3, rfl⟩) (fun _ _ => .inl ⟨rfl, rfl, rfl⟩)
    exact ⟨_, _, _, want, dn', hadv, List.length_set, q1, .refl _, .inr ⟨by simp, q2⟩⟩
  · have hlog : logOf d (dstep lim d L).2.1 e = [e] := by unfold logOf; rw [if_pos ⟨h0, h1⟩]
    rw [hlog] at hadv
    have hrng : ∀ i c0, at_ want i = some c0 → 0 ≤ i ∧ i < (n : Int) := fun i c0 q => by
      obtain ⟨u1, u2, _⟩ := at_val q
      rw [I.g.lenW] at u2; exact ⟨u1, u2⟩
    obtain ⟨r1, r2⟩ := I.g.done hd h0 hat (want' := wantD n want d.l) (wantD_len _ _ _) (fun i c0 q => by
      obtain ⟨u1, u2, _⟩ := at_val q
      rw [I.g.lenL] at u2
      rw [wantD_at u1 u2, I.g.wantDone hd h0 hat i c0 q]; rfl)
    rw [r1] at hadv
    have hv : VKm want (wantD n want d.l) := fun i v y ⟨c0, q1, q2, q3⟩ => by
      obtain ⟨c1, u1, u2, _⟩ := I.wantOf H hd h0 hat q1
      obtain ⟨i0, i1⟩ := hrng i c0 q1
      refine ⟨c1, by rw [wantD_at i0 i1, u1]; rfl, ?_⟩
      rcases u2 with rfl | ⟨u2, _⟩
      · exact ⟨q2, q3⟩
      · exact ⟨by omega, fun z => by omega⟩
    obtain ⟨r, p', p1, p2, p3, p4⟩ := a8 (want.map (·.Value)) (by rw [List.length_map]; exact I.g.lenW) (fun e' he' => by
      obtain ⟨cc, q1, _, q3, _⟩ := I.full hd h0 hat he'
      rw [pget_at q1, q3])
    have hp : p' = (wantD n want d.l).map (·.Value) := by
      refine List.ext_getElem (by rw [p3, List.length_map, wantD_len]) fun i h1 h2 => ?_
      have hin : i < n := by omega
      have hw : i < want.length := by rw [I.g.lenW]; exact hin
      have hat2 : at_ want (i : Int) = some want[i] := at_of (i := (i : Int)) (by omega) (List.getElem?_eq_getElem hw)
      obtain ⟨c1, u1, _, u3⟩ := I.wantOf H hd h0 hat hat2
      have e1 := p4 (i : Int) (by omega) (by omega)
      rw [pget_at hat2] at e1
      have e2 : pget p' (i : Int) = p'[i] := by
        unfold pget
        rw [if_pos ⟨by omega, by omega⟩, List.getD]
        show (p'[i]?).getD 0 = _
        rw [List.getElem?_eq_getElem h1]; rfl
      have e3 := wantD_at (want := want) (l := d.l) (by omega : (0 : Int) ≤ (i : Int)) (by omega : (i : Int) < (n : Int))
      rw [u1] at e3
      obtain ⟨_, _, e4⟩ := at_val e3
      have e4 : (wantD n want d.l)[i]? = some c1 := e4
      obtain ⟨_, e5⟩ := List.getElem?_eq_some_iff.1 e4
      rw [List.getElem_map, e5, u3, ← e2, e1]
      all_goals (cases d.l.find? (fun e => e.Cell == (i : Int)) <;> rfl)
    obtain ⟨dn', q1, q2⟩ := I.logged (d' := { d with status := 1, at_ := 0 }) hd he h0 rfl (.inl rfl) r2 hv (fun i c0 q => by
      obtain ⟨i0, i1, _⟩ := at_val q
      rw [wantD_len] at i1
      have hw : i.toNat < want.length := by rw [I.g.lenW]; omega
      have hat2 : at_ want i = some want[i.toNat] := at_of i0 (List.getElem?_eq_getElem hw)
      obtain ⟨c1, u1, u2, _⟩ := I.wantOf H hd h0 hat hat2
      rw [wantD_at i0 i1, u1] at q
      injection q with q
      have q : c1 = c0 := q
      subst q
      have := I.wv _ _ hat2
      rcases u2 with rfl | ⟨u2, u3⟩
      · exact this
      · exact ⟨by omega, u3⟩) e rfl rfl (.inl ⟨rfl, rfl⟩) (fun ops' ho => by
      obtain ⟨r', p'', v1, v2, v3, v4⟩ := ho (want.map (·.Value)) (by rw [List.length_map]; exact I.g.lenW) (fun e' he' => by
        obtain ⟨cc, q1, _, q3, _⟩ := I.full hd h0 hat he'
        rw [pget_at q1, q3])
      have hpp : p'' = p' := by
        refine List.ext_getElem (by rw [v3, p3]) fun i h1 h2 => ?_
        have e1 := v4 (i : Int) (by omega) (by omega)
        have e1' := p4 (i : Int) (by omega) (by omega)
        rw [← e1'] at e1
        unfold pget at e1
        rw [if_pos ⟨by omega, by omega⟩, if_pos ⟨by omega, by omega⟩, List.getD, List.getD] at e1
        have e1 : (p''[i]?).getD 0 = (p'[i]?).getD 0 := e1
        rw [List.getElem?_eq_getElem h1, List.getElem?_eq_getElem h2] at e1
        exact e1
      rw [hpp, hp] at v1
      exact .inr ⟨a6, r', v1, v2⟩)
    exact ⟨_, _, _, _, dn', hadv, List.length_set, q1, hv, .inr ⟨by simp, q2⟩⟩
end
end Go.Proofs
/-! A step of a machine. -/
set_option linter.unusedVariables false
namespace Go.Proofs
open Go.Sl
theorem dover_ok {lim : Int} {d : desc_Desc} {L : List api_Cell} (h : DI lim d L) : desc_Desc_Over.f d = some (decide (over d)) := by
  unfold desc_Desc_Over.f
  by_cases o : over d
  · have : (d.status != 0) = true := by simpa using o.1
    rw [decide_eq_true o, this, cond_true, Option.bind_some, o.2]; simp
  · rw [decide_eq_false o]
    by_cases hs : d.status = 0
    · rw [hs]; rfl
    · have : (d.status != 0) = true := by simpa using hs
      rw [this, cond_true, Option.bind_some, beq_false_of_ne (fun z => o ⟨hs, z⟩)]
theorem w_set {l : List W8} {w : Nat} {x x' : W8} (h : l[w]? = some x) (v : Nat) : (l.set w x')[v]? = if w = v then some x' else l[v]? := by
  have hk : w < l.length := (List.getElem?_eq_some_iff.1 h).1
  by_cases c : w = v
  · subst c; rw [if_pos rfl, List.getElem?_set_self hk]
  · rw [if_neg c, List.getElem?_set_ne c]
theorem Sm_same {f : W8 → Nat} {l : List W8} {w : Nat} {x x' : W8} (h : l[w]? = some x) (e : f x' = f x) : Sm f (l.set w x') = Sm f l := by
  have := Sm_set f x' h; omega
theorem Sm_less {f : W8 → Nat} {l : List W8} {w : Nat} {x x' : W8} (h : l[w]? = some x) (e : f x' < f x) : Sm f (l.set w x') < Sm f l := by
  have := Sm_set f x' h; omega
section
variable {n : Nat} {lim : Int} {l : Lists} {c : Nat} {M : M8c} {L want : List api_Cell} {dn : List Nat}
theorem Inv.setW (I : Inv n lim l c M L want dn) {w : Nat} {x : W8} (hx : M.l[w]? = some x) (x' : W8) (hfi : x'.fi = x.fi) (ht : x'.told = x.told) (hd : x'.d = x.d)
    (hj : x'.job = x.job ∨ (x.job = none ∧ ∃ ops os, x'.job = some ops ∧ l[w]? = some os ∧ os[x.told.length]? = some ops)) (hrc : x'.job ≠ none → x'.d = none → ∃ t T, x'.t = some t ∧ RecOk n want t T) : Inv n lim l c ⟨M.l.set w x', M.dl, M.el, M.log⟩ L want dn := by
  have hwx := I.wk w x hx
  refine ⟨I.g, I.el, by rw [List.length_set]; exact I.ll, I.rp, fun v y hy => ?_, fun k d hk ho => ?_, I.kn, I.wv, fun z hz => ?_, I.c1, I.c2⟩
  · have hy : (M.l.set w x')[v]? = some y := hy
    rw [w_set hx] at hy
    by_cases q : w = v
    · subst q
      rw [if_pos rfl] at hy; injection hy with hy; subst hy
      obtain ⟨os, o1, o2, o3⟩ := hwx.os
      refine ⟨by rw [hfi]; exact hwx.fi, ⟨os, o1, by rw [ht]; exact o2, fun ops e => ?_⟩, fun e => ?_, hrc, fun i e => ?_, by rw [ht, hd]; exact hwx.dnw⟩
      · rcases hj with hj | ⟨_, ops', os', e1, e2, e3⟩
        · rw [ht]; exact o3 ops (by rw [← hj]; exact e)
        · rw [e1] at e; injection e with e; subst e
          rw [o1] at e2; injection e2 with e2; subst e2
          rw [ht]; exact e3
      · rcases hj with hj | ⟨_, ops', os', e1, e2, e3⟩
        · rw [hd]; exact hwx.nd (by rw [← hj]; exact e)
        · rw [e1] at e; cases e
      · rw [hd] at e
        obtain ⟨k, d, e', ops, a1, a2, a3, a4, a5, a6, a7, a8⟩ := hwx.dsc i e
        refine ⟨k, d, e', ops, a1, a2, a3, a4, by rw [ht]; exact a5, a6, ?_, a8⟩
        rcases hj with hj | ⟨j0, _⟩
        · rw [hj]; exact a7
        · rw [j0] at a7; cases a7
    · rw [if_neg q] at hy; exact I.wk v y hy
  · obtain ⟨v, y, h1, h2⟩ := I.own k d hk ho
    by_cases q : w = v
    · subst q
      rw [hx] at h1; injection h1 with h1; subst h1
      exact ⟨w, x', by show (M.l.set w x')[w]? = _; rw [w_set hx, if_pos rfl], by rw [hd]; exact h2⟩
    · exact ⟨v, y, by show (M.l.set w x')[v]? = _; rw [w_set hx, if_neg q]; exact h1, h2⟩
  · obtain ⟨v, j, y, h1, h2, h3, h4⟩ := I.td z hz
    by_cases q : w = v
    · subst q
      rw [hx] at h3; injection h3 with h3; subst h3
      exact ⟨w, j, x', h1, h2, by show (M.l.set w x')[w]? = _; rw [w_set hx, if_pos rfl], by rw [ht, hd]; exact h4⟩
    · exact ⟨v, j, y, h1, h2, by show (M.l.set w x')[v]? = _; rw [w_set hx, if_neg q]; exact h3, h4⟩
theorem G.snoc {ds : List desc_Desc} (g : G lim n ds L want) (hn : n ≤ 1000) (es : List tx_Entry) (hlen : es.length ≤ 100000) (hr : ∀ (i j : Nat) e f, i < j → es[i]? = some e → es[j]? = some f → e.Cell < f.Cell) (hc : ∀ (j : Nat) e, es[j]? = some e → 0 ≤ e.Cell ∧ e.Cell < n) :
    G lim n (ds ++ [⟨(ds.length : Int) + 1, es, 0, 0⟩]) L want := by
  have hget : ∀ (k : Nat) (d : desc_Desc), (ds ++ [(⟨(ds.length : Int) + 1, es, 0, 0⟩ : desc_Desc)])[k]? = some d → ds[k]? = some d ∨ (k = ds.length ∧ d = ⟨(ds.length : Int) + 1, es, 0, 0⟩) := fun k d h => by
    by_cases q : k < ds.length
    · rw [List.getElem?_append_left q] at h; exact .inl h
    · have : k = ds.length := by
        have := (List.getElem?_eq_some_iff.1 h).1
        simp at this; omega
      subst this
      simp at h; exact .inr ⟨rfl, h.symm⟩
  have hold : ∀ (k : Nat) (d : desc_Desc), ds[k]? = some d → (ds ++ [(⟨(ds.length : Int) + 1, es, 0, 0⟩ : desc_Desc)])[k]? = some d := fun k d h => by
    rw [List.getElem?_append_left (List.getElem?_eq_some_iff.1 h).1]; exact h
  refine ⟨fun k d h => ?_, fun k d h => ?_, fun k d h => ?_, fun k d h => ?_, g.lenL, g.lenW, fun i c h hm => ?_, fun i c h => ?_⟩
  · rcases hget k d h with q | ⟨rfl, rfl⟩
    · exact g.nr k d q
    · rfl
  · rcases hget k d h with q | ⟨rfl, rfl⟩
    · exact g.di k d q
    · exact ⟨by dsimp only; omega, by dsimp only; omega, by dsimp only; omega, hlen, .inl rfl, fun _ j e hj => by dsimp only at hj; omega, fun z => by cases z⟩
  · rcases hget k d h with q | ⟨rfl, rfl⟩
    · exact g.rise k d q
    · exact hr
  · rcases hget k d h with q | ⟨rfl, rfl⟩
    · exact g.cell k d q
    · exact hc
  · obtain ⟨k, d, h1, h2⟩ := g.own i c h hm
    exact ⟨k, d, hold k d h1, h2⟩
  · rw [g.virt i c h]
    unfold virtC
    by_cases q : c.Mark ≤ 0
    · rw [if_pos q, if_pos q]
    · rw [if_neg q, if_neg q]
      obtain ⟨k, d, h1, h2, _⟩ := g.own i c h (by omega)
      rw [show (c.Mark - 1).toNat = k by omega, h1, hold k d h1]
theorem lg_snoc {ds : List desc_Desc} {d : desc_Desc} {k : Nat} (h : k < ds.length) : lg (ds ++ [d]) (some (k : Int)) = lg ds (some (k : Int)) := by
  have h1 : ds[k]? = some ds[k] := List.getElem?_eq_getElem h
  rw [lg_at h1, lg_at (d := ds[k]) (by rw [List.getElem?_append_left h]; exact h1)]
theorem at_snocN {ds : List desc_Desc} {d : desc_Desc} {k : Nat} (h : k < ds.length) : at_ (ds ++ [d]) (k : Int) = at_ ds (k : Int) := by
  have h1 : ds[k]? = some ds[k] := List.getElem?_eq_getElem h
  rw [at_of (i := (k : Int)) (by omega) h1, at_of (i := (k : Int)) (x := ds[k]) (by omega) (by show (ds ++ [d])[k]? = _; rw [List.getElem?_append_left h]; exact h1)]
theorem staleDR {want : List api_Cell} {T : List (Int × api_Cell)} {out : Option (List (Int × Int))} (h : staleD want (entsOf T out) = true) : staleR want T = true := by
  unfold staleD at h
  unfold staleR
  rw [List.any_eq_true] at h ⊢
  obtain ⟨e, he, hne⟩ := h
  obtain ⟨z, h1, h2, _⟩ := ents_mem he
  have hmem : ∀ (l : List (Int × api_Cell)) (k : Int) (z : api_Cell), mfind l k = some z → (k, z) ∈ l := fun l => by
    induction l with
    | nil => intro k z h; cases h
    | cons p l ih =>
      intro k z h
      unfold mfind at h
      by_cases q : p.1 = k
      · rw [if_pos q] at h; injection h with h; subst h; subst q; exact List.mem_cons_self
      · rw [if_neg q] at h; exact List.mem_cons_of_mem _ (ih k z h)
  exact ⟨(e.Cell, z), hmem T _ z h1, by rw [h2] at hne; exact hne⟩
theorem Inv.newd (I : Inv n lim l c M L want dn) (H : Hyp n lim l) {w : Nat} {x : W8} (hx : M.l[w]? = some x) {ops : List law06_Op} (hjob : x.job = some ops) (hdn : x.d = none) {t0 : tx_Tx} {T : List (Int × api_Cell)} (ht0 : x.t = some t0) (hl0 : t0.l = some T) {t' : tx_Tx} (hR : RecOk n want t' T) (told : Int) (hE : EntOk n ops (entsOf T t'.out) told) :
    Inv n lim l (c + 1) ⟨M.l.set w { x with t := some t', d := some (M.el.length : Int) }, M.dl ++ [⟨(M.el.length : Int) + 1, entsOf T t'.out, 0, 0⟩], M.el ++ [⟨w, x.told.length, told, false⟩], M.log⟩ L want dn ∧
      Sm (fun x => x.told.length) (M.l.set w { x with t := some t', d := some (M.el.length : Int) }) = Sm (fun x => x.told.length) M.l ∧
      Sm (ei (M.dl ++ [⟨(M.el.length : Int) + 1, entsOf T t'.out, 0, 0⟩])) (M.l.set w { x with t := some t', d := some (M.el.length : Int) }) = Sm (ei M.dl) M.l ∧
      ∀ z, Sm (potW z n (M.dl ++ [⟨(M.el.length : Int) + 1, entsOf T t'.out, 0, 0⟩]) want) (M.l.set w { x with t := some t', d := some (M.el.length : Int) }) < Sm (potW z n M.dl want) M.l := by
  have hwx := I.wk w x hx
  have hel := I.el
  rw [hel]
  have hfew := hR.1.few
  have hn0 := H.n0
  generalize hnd : (⟨(M.dl.length : Int) + 1, entsOf T t'.out, 0, 0⟩ : desc_Desc) = nd
  generalize hx' : ({ x with t := some t', d := some (M.dl.length : Int) } : W8) = x'
  have hG := I.g.snoc hn0 (entsOf T t'.out) (by rw [ents_len]; omega) (fun i j e f hij he hf => ents_rise hR.1.ok hij he hf) (fun j e he => by
    obtain ⟨z, h1, _⟩ := ents_mem (List.mem_of_getElem? he)
    exact hR.1.rng _ _ h1)
  rw [hnd] at hG
  have hold : ∀ (k : Nat) (d : desc_Desc), M.dl[k]? = some d → (M.dl ++ [nd])[k]? = some d := fun k d h => by
    rw [List.getElem?_append_left (List.getElem?_eq_some_iff.1 h).1]; exact h
  have hnew : (M.dl ++ [nd])[M.dl.length]? = some nd := by simp
  have hoe : ∀ (e0 : stm_Entry) (k : Nat) (e : stm_Entry), M.el[k]? = some e → (M.el ++ [e0])[k]? = some e := fun e0 k e h => by
    rw [List.getElem?_append_left (List.getElem?_eq_some_iff.1 h).1]; exact h
  have hnd0 : nd.status = 0 := by rw [← hnd]
  have hndl : nd.l = entsOf T t'.out := by rw [← hnd]
  have hd' : x'.d = some (M.dl.length : Int) := by rw [← hx']
  have hj' : x'.job = some ops := by rw [← hx']; exact hjob
  have ht' : x'.told = x.told := by rw [← hx']
  have hk : ∀ (v : Nat) (y : W8), M.l[v]? = some y → ∀ k : Nat, y.d = some (k : Int) → k < M.dl.length := fun v y hy k e => by
    obtain ⟨k2, d, _, _, a1, a2, _⟩ := (I.wk v y hy).dsc _ e
    have : k = k2 := by omega
    subst this
    exact (List.getElem?_eq_some_iff.1 a2).1
  have hlg : ∀ (v : Nat) (y : W8), M.l[v]? = some y → lg (M.dl ++ [nd]) y.d = lg M.dl y.d := fun v y hy => by
    cases e : y.d with
    | none => rfl
    | some i =>
      obtain ⟨k, rfl⟩ := I.dk hy e
      exact lg_snoc (hk v y hy k e)
  have hl' : lg (M.dl ++ [nd]) x'.d = 0 := by rw [hd', lg_at hnew, if_neg (by omega)]
  have hl0' : lg M.dl x.d = 0 := by rw [hdn]; rfl
  refine ⟨⟨hG, by simp [hel], by rw [List.length_set]; exact I.ll, I.rp, fun v y hy => ?_, fun k d hkd ho => ?_, fun k d hkd h0 e he => ?_, I.wv, fun z hz => ?_, by have := I.c1; simp; omega, Nat.le_succ_of_le I.c2⟩, Sm_same hx (by rw [ht']), ?_, fun z => ?_⟩
  · have hy : (M.l.set w x')[v]? = some y := hy
    rw [w_set hx] at hy
    by_cases q : w = v
    · subst q
      rw [if_pos rfl] at hy; injection hy with hy; subst hy
      obtain ⟨os, o1, o2, o3⟩ := hwx.os
      refine ⟨by rw [← hx']; exact hwx.fi, ⟨os, o1, (by rw [ht']; exact o2), fun ops' e => (by rw [ht']; rw [hj'] at e; exact o3 ops' (by rw [hjob]; exact e))⟩, fun e => (by rw [hj'] at e; cases e), fun _ e => (by rw [hd'] at e; cases e), fun i e => ?_, (by rw [hl', ht']; have := hwx.dnw; rw [hl0'] at this; exact this)⟩
      rw [hd'] at e; injection e with e
      exact ⟨M.dl.length, nd, (⟨w, x.told.length, told, false⟩ : stm_Entry), ops, e.symm, hnew, (by rw [← hel]; simp), rfl, (by rw [ht']), rfl, hj', (by rw [hndl]; exact hE)⟩
    · rw [if_neg q] at hy
      exact (I.wk v y hy).mono (fun k d h => ⟨d, hold k d h, rfl⟩) (hoe _) (.refl _) (by rw [hlg v y hy]; exact (I.wk v y hy).dnw)
  · have hkd : (M.dl ++ [nd])[k]? = some d := hkd
    by_cases q : k < M.dl.length
    · rw [List.getElem?_append_left q] at hkd
      obtain ⟨v, y, h1, h2⟩ := I.own k d hkd ho
      refine ⟨v, y, ?_, h2⟩
      show (M.l.set w x')[v]? = _
      rw [w_set hx, if_neg (fun z => by subst z; rw [hx] at h1; injection h1 with h1; subst h1; rw [hdn] at h2; cases h2)]
      exact h1
    · have := (List.getElem?_eq_some_iff.1 hkd).1
      have : k = M.dl.length := by simp at this; omega
      exact ⟨w, x', by show (M.l.set w x')[w]? = _; rw [w_set hx, if_pos rfl], by rw [hd', this]⟩
  · have hkd : (M.dl ++ [nd])[k]? = some d := hkd
    by_cases q : k < M.dl.length
    · rw [List.getElem?_append_left q] at hkd
      exact I.kn k d hkd h0 e he
    · have := (List.getElem?_eq_some_iff.1 hkd).1
      have hk2 : k = M.dl.length := by simp at this; omega
      subst hk2
      rw [hnew] at hkd; injection hkd with hkd; subst hkd
      rw [hndl] at he
      obtain ⟨z, h1, h2, h3, _⟩ := ents_mem he
      rw [h2, h3]; exact hR.2 _ _ h1
  · obtain ⟨v, j, y, h1, h2, h3, h4⟩ := I.td z hz
    by_cases q : w = v
    · subst q
      rw [hx] at h3; injection h3 with h3; subst h3
      refine ⟨w, j, x', h1, h2, by show (M.l.set w x')[w]? = _; rw [w_set hx, if_pos rfl], ?_⟩
      rw [ht']
      exact h4.imp_right (fun ⟨_, k, d, e, u, _⟩ => by rw [hdn] at u; cases u)
    · refine ⟨v, j, y, h1, h2, by show (M.l.set w x')[v]? = _; rw [w_set hx, if_neg q]; exact h3, h4.imp_right ?_⟩
      rintro ⟨h5, k, d, e, u1, u2, u3, u4⟩
      exact ⟨h5, k, d, e, u1, hold k d u2, hoe _ k e u3, u4⟩
  · have e1 : Sm (ei (M.dl ++ [nd])) (M.l.set w x') = Sm (ei (M.dl ++ [nd])) M.l := Sm_same hx (by unfold ei; rw [hl', hlg w x hx, hl0', hj', hjob])
    rw [e1]
    exact Sm_eq fun v y hy => by unfold ei; rw [hlg v y hy]
  · have e0 : ∀ (v : Nat) (y : W8), M.l[v]? = some y → potW z n (M.dl ++ [nd]) want y = potW z n M.dl want y := fun v y hy => by
      unfold potW
      cases y.job with
      | none => rfl
      | some o =>
        cases e : y.d with
        | none => rfl
        | some i =>
          obtain ⟨k, rfl⟩ := I.dk hy e
          dsimp only
          rw [at_snocN (hk v y hy k e)]
    have e1 : potW z n (M.dl ++ [nd]) want x' < potW z n (M.dl ++ [nd]) want x := by
      have hle : learnt x = T := by unfold learnt; rw [ht0]; dsimp only; rw [hl0]; rfl
      unfold potW
      rw [hj', hd', hjob, hdn, hle]
      dsimp only
      rw [at_of (i := (M.dl.length : Int)) (x := nd) (by omega) hnew]
      dsimp only
      rw [if_pos hnd0, hndl]
      have hphi : phi nd = 2 * T.length + 1 := by
        unfold phi; rw [if_pos hnd0, hndl, ents_len]; rw [← hnd]; dsimp only; omega
      rw [hphi]
      have hs : (bif staleD want (entsOf T t'.out) then Fc n else 0) ≤ (bif staleR want T then Fc n else 0) := by
        cases q : staleD want (entsOf T t'.out) with
        | false => simp
        | true => rw [staleDR q]; exact Nat.le_refl _
      omega
    have e2 := Sm_less hx e1
    rw [Sm_eq e0] at e2
    exact e2
/-- A job's descriptor is over. -/
theorem Inv.ended (I : Inv n lim l c M L want dn) {w : Nat} {x : W8} (hx : M.l[w]? = some x) {k : Nat} {d : desc_Desc} (hdx : x.d = some (k : Int)) (hd : M.dl[k]? = some d) (hov : over d) (x' : W8) (hfi : x'.fi = x.fi) (hd' : x'.d = none)
    (hc : (d.status = 2 ∧ x'.told = x.told ∧ x'.job = x.job ∧ ∃ t T, x'.t = some t ∧ RecOk n want t T) ∨ (d.status ≠ 2 ∧ x'.job = none ∧ ∃ v, x'.told = x.told ++ [v] ∧ ∀ e, M.el[k]? = some e → (d.status = 1 ∧ v = e.Told) ∨ (d.status = 3 ∧ v = -1))) :
    Inv n lim l c ⟨M.l.set w x', M.dl, M.el, M.log⟩ L want dn := by
  have hwx := I.wk w x hx
  obtain ⟨k2, d2, e, ops, a1, a2, a3, a4, a5, a6, a7, a8⟩ := hwx.dsc _ hdx
  have a1 : k2 = k := by omega
  subst a1
  rw [hd] at a2; injection a2 with a2; subst a2
  obtain ⟨os, o1, o2, o3⟩ := hwx.os
  have ho := o3 ops a7
  have hol : x.told.length < os.length := (List.getElem?_eq_some_iff.1 ho).1
  have hself : (M.l.set w x')[w]? = some x' := by rw [w_set hx, if_pos rfl]
  refine ⟨I.g, I.el, by rw [List.length_set]; exact I.ll, I.rp, fun v y hy => ?_, fun m y hy ho' => ?_, I.kn, I.wv, fun z hz => ?_, I.c1, I.c2⟩
  · have hy : (M.l.set w x')[v]? = some y := hy
    rw [w_set hx] at hy
    by_cases q : w = v
    · subst q
      rw [if_pos rfl] at hy; injection hy with hy; subst hy
      have hdnw := hwx.dnw
      rw [hdx, lg_at hd] at hdnw
      rcases hc with ⟨s2, t1, t2, t, T, t3, t4⟩ | ⟨s2, t1, v0, t2, t3⟩
      · refine ⟨by rw [hfi]; exact hwx.fi, ⟨os, o1, by rw [t1]; exact o2, fun ops' e' => by rw [t1]; exact o3 ops' (by rw [← t2]; exact e')⟩, fun _ => hd', fun _ _ => ⟨t, T, t3, t4⟩, fun i e' => (by rw [hd'] at e'; cases e'), ?_⟩
        rw [hd', t1]
        rw [if_neg (by omega)] at hdnw
        exact hdnw
      · refine ⟨by rw [hfi]; exact hwx.fi, ⟨os, o1, by rw [t2]; simp; omega, fun ops' e' => (by rw [t1] at e'; cases e')⟩, fun _ => hd', fun e' => absurd t1 e', fun i e' => (by rw [hd'] at e'; cases e'), ?_⟩
        have : d.status = 1 ∨ d.status = 3 := by rcases t3 e a3 with q | q <;> omega
        rw [if_pos this] at hdnw
        rw [hd', t2, List.length_append]
        exact hdnw
    · rw [if_neg q] at hy; exact I.wk v y hy
  · obtain ⟨v, y2, h1, h2⟩ := I.own m y hy ho'
    refine ⟨v, y2, ?_, h2⟩
    show (M.l.set w x')[v]? = _
    rw [w_set hx, if_neg (fun z => ?_)]
    · exact h1
    · subst z
      rw [hx] at h1; injection h1 with h1; subst h1
      rw [hdx] at h2; injection h2 with h2
      have h2 : k2 = m := by omega
      subst h2
      have hy : M.dl[k2]? = some y := hy
      rw [hd] at hy; injection hy with hy; subst hy
      exact ho' hov
  · obtain ⟨v, j, y, h1, h2, h3, h4⟩ := I.td z hz
    by_cases q : w = v
    · subst q
      rw [hx] at h3; injection h3 with h3; subst h3
      refine ⟨w, j, x', h1, h2, hself, ?_⟩
      rcases h4 with ⟨u1, u2⟩ | ⟨u1, m, dm, em, u2, u3, u4, u5⟩
      · left
        rcases hc with ⟨_, t1, _⟩ | ⟨_, _, v0, t2, _⟩
        · rw [t1]; exact ⟨u1, u2⟩
        · rw [t2]; exact ⟨by simp; omega, by rw [List.getElem?_append_left u1]; exact u2⟩
      · rw [hdx] at u2; injection u2 with u2
        have u2 : m = k2 := by omega
        subst u2
        have u3 : M.dl[m]? = some dm := u3
        rw [hd] at u3; injection u3 with u3; subst u3
        have u4 : M.el[m]? = some em := u4
        rw [a3] at u4; injection u4 with u4; subst u4
        rcases hc with ⟨s2, _⟩ | ⟨_, _, v0, t2, t3⟩
        · omega
        · left
          rw [t2]
          refine ⟨by simp; omega, ?_⟩
          rw [u1]
          have : v0 = z.Told := by rcases t3 e a3 with q | q <;> rcases u5 with r | r <;> omega
          simp [this]
    · exact ⟨v, j, y, h1, h2, by show (M.l.set w x')[v]? = _; rw [w_set hx, if_neg q]; exact h3, h4⟩
end
end Go.Proofs
/-! stepM, told: what a step comes to. -/
set_option linter.unusedVariables false
namespace Go.Proofs
open Go.Sl
def tl (M : M8c) : Nat := Sm (fun x => x.told.length) M.l
def se (M : M8c) : Nat := Sm (ei M.dl) M.l
def pot (z n : Nat) (M : M8c) (want : List api_Cell) : Nat := Sm (potW z n M.dl want) M.l
/-- What a step that is one comes to: a job is begun; or nothing is told; or the log is longer; or a job ends. -/
def Out (n : Nat) (M : M8c) (want : List api_Cell) (x : W8) (M' : M8c) (want' : List api_Cell) : Prop :=
  (x.job = none ∧ M'.log.length = M.log.length ∧ tl M' = tl M ∧ ∀ z, Fc n < z → pot z n M' want' < pot z n M want) ∨
  (x.job ≠ none ∧ M'.log.length = M.log.length ∧ tl M' = tl M ∧ se M' = se M ∧ ∀ z, pot z n M' want' < pot z n M want) ∨
  (x.job ≠ none ∧ M'.log.length = M.log.length + 1 ∧ tl M' = tl M ∧ se M' + 1 = se M) ∨
  (x.job ≠ none ∧ M'.log.length = M.log.length ∧ tl M' = tl M + 1 ∧ se M' = se M ∧ pot 0 n M' want' < pot 0 n M want)
theorem Sm_more {f : W8 → Nat} {l : List W8} {w : Nat} {x x' : W8} (h : l[w]? = some x) (e : f x' = f x + 1) : Sm f (l.set w x') = Sm f l + 1 := by
  have := Sm_set f x' h; omega
theorem clone_ok {xs : List Int} (h : xs.length ≤ 1000) : slices_Clone_int_int.f xs = some xs := by
  unfold slices_Clone_int_int.f
  first
  | (rw [app_ok _ _ (by simp; omega)]; rfl)
  | (simp only [app_ok ([] : List Int) xs (by simp; omega), Option.bind_some, List.nil_append])
theorem cloneE_ok {xs : List tx_Entry} (h : xs.length ≤ 10000) : slices_Clone_tx_Entry_tx_Entry.f xs = some xs := by
  unfold slices_Clone_tx_Entry_tx_Entry.f
  first
  | (rw [app_ok _ _ (by simp; omega)]; rfl)
  | (simp only [app_ok ([] : List tx_Entry) xs (by simp; omega), Option.bind_some, List.nil_append])
theorem take_ok (L : List api_Cell) (lim : Int) : stm_Step_take.f ⟨L, lim⟩ = some ⟨L.length, some [], none, 0, false⟩ := rfl
section
variable {n : Nat} {lim : Int} {l : Lists} {c : Nat} {M : M8c} {L want : List api_Cell} {dn : List Nat}
theorem fresh_ok (n : Nat) (want : List api_Cell) (L : List api_Cell) (hL : L.length = n) : RecOk n want ⟨L.length, some [], none, 0, false⟩ [] :=
  ⟨⟨by rw [hL], rfl, MOk.nil, fun c z h => by cases h⟩, fun c z h => by cases h⟩
theorem Inv.osl (I : Inv n lim l c M L want dn) (H : Hyp n lim l) {w : Nat} {x : W8} (hx : M.l[w]? = some x) : x.told.length ≤ 100 := by
  obtain ⟨os, o1, o2, _⟩ := (I.wk w x hx).os
  have := H.os os (List.mem_of_getElem? o1)
  omega
/-- A job on its record. -/
theorem step_run (I : Inv n lim l c M L want dn) (H : Hyp n lim l) (hc : c ≤ 80000) (k kj : Nat) (hk : 2100 < k) (hkj : 50 < kj) {w : Nat} {x : W8} (hx : M.l[w]? = some x) {ops : List law06_Op} (hjob : x.job = some ops) (hdn : x.d = none) :
    ∃ M' L' want' dn' t, x.t = some t ∧ (∃ rs rd re rg rx rn, stm_Step_run.f k ⟨L, lim⟩ M.dl M.el M.log (w : Int) (law08_jobs_1.f kj ops) x.told t = some (rs, rd, re, rg, rx, rn) ∧ re.length = M.el.length + cond rn 1 0 ∧ rd.length = M.dl.length + cond rn 1 0 ∧
      M' = ⟨M.l.set w { x with t := some rx, d := cond rn (some (M.el.length : Int)) none }, rd, re, rg⟩ ∧ rs = ⟨L', lim⟩) ∧ Inv n lim l (c + 1) M' L' want' dn' ∧ Out n M want x M' want' := by
  have hwx := I.wk w x hx
  have hn0 := H.n0
  obtain ⟨os, o1, o2, o3⟩ := hwx.os
  have hin := o3 ops hjob
  obtain ⟨hops, hN⟩ := H.ops os (List.mem_of_getElem? o1) ops (List.mem_of_getElem? hin)
  obtain ⟨t, T, ht, hR⟩ := hwx.rc (by rw [hjob]; exact fun z => by cases z) hdn
  obtain ⟨lack, told, t', hrun, hR', hfine, hlack, hE⟩ := job_run hn0 hR.1 ops hops hN hkj
  have hfew := hR.1.few
  have hel := I.el
  have hc1 := I.c1
  have hR2 : RecOk n want t' T := ⟨hR', hR.2⟩
  have hjn : x.job ≠ none := by rw [hjob]; exact fun z => by cases z
  by_cases hz : lack = -1
  · have hb : (lack == -1) = true := by rw [hz]; rfl
    have hent := entries_ok hR'.l (by omega) k (by omega)
    rw [hfine, hb, if_pos rfl] at hent
    obtain ⟨j1, j2, j3, j4⟩ := I.newd H hx hjob hdn ht hR.1.l hR2 told (hE hz)
    refine ⟨⟨M.l.set w { x with t := some t', d := some (M.el.length : Int) }, M.dl ++ [(⟨(M.el.length : Int) + 1, entsOf T t'.out, 0, 0⟩ : desc_Desc)], M.el ++ [(⟨w, x.told.length, told, false⟩ : stm_Entry)], M.log⟩, L, want, dn, t, ht, ⟨⟨L, lim⟩, M.dl ++ [(⟨(M.el.length : Int) + 1, entsOf T t'.out, 0, 0⟩ : desc_Desc)], M.el ++ [(⟨w, x.told.length, told, false⟩ : stm_Entry)], M.log, t', true, ?_, by simp, by simp, rfl, rfl⟩, j1, .inr (.inl ⟨hjn, rfl, j2, j3, j4⟩)⟩
    unfold stm_Step_run.f stm_Machine_run.f
    rw [hrun, Option.bind_some]
    dsimp only
    rw [hb, cond_true, hent, Option.bind_some]
    dsimp only
    have hnew : desc_New.f (w64 ((M.el.length : Int) + 1)) ((cellsOf T).map (entOf t'.out)) = some ⟨(M.el.length : Int) + 1, entsOf T t'.out, 0, 0⟩ := by
      unfold desc_New.f
      rw [cloneE_ok (by have := ents_len T t'.out; unfold entsOf at this; omega), Option.bind_some, w64_id (by omega) (by omega)]; rfl
    rw [hnew, Option.bind_some, app_ok _ _ (by simp; omega)]; rfl
  · obtain ⟨l0, l1, l2⟩ := hlack hz
    have hb : (lack == -1) = false := beq_false_of_ne hz
    have hLl : lack.toNat < L.length := by rw [I.g.lenL]; omega
    have hc0 : at_ L lack = some L[lack.toNat] := at_of l0 (List.getElem?_eq_getElem hLl)
    generalize L[lack.toNat] = c0 at hc0
    have hread := read_in lim hc0
    have hhead : ∀ R, stm_Step_run.f k ⟨L, lim⟩ M.dl M.el M.log (w : Int) (law08_jobs_1.f kj ops) x.told t = R ↔ ((bif (c0.Mark != 0) then ((stm_Machine_advance.f k ⟨L, lim⟩ M.dl M.el M.log c0.Mark).bind fun (t46, t47, t48) => some (t46, t47, M.el, t48, t', false)) else ((tx_Tx_Learn.f t' lack c0).bind fun p56 => some ((⟨L, lim⟩ : word_Store), M.dl, M.el, M.log, p56, false))).bind fun (t13, t14, t15, t16, t17, t18) => some (t13, t14, t15, t16, t17, t18)) = R := fun R => by
      unfold stm_Step_run.f stm_Machine_run.f
      rw [hrun, Option.bind_some]
      dsimp only
      rw [hb, cond_false, if_neg hz, hread, Option.bind_some]
      dsimp only
      rw [show ((none : Option Int).isNone && (c0.Mark != 0)) = (c0.Mark != 0) from rfl]
    by_cases hm : c0.Mark = 0
    · have hb0 : (c0.Mark != 0) = false := by rw [hm]; rfl
      have hlearn := learn_ok hR'.l (by omega) (by rw [hR'.cells]; omega) lack c0
      rw [if_pos ⟨l0, by rw [hR'.cells]; exact l1⟩] at hlearn
      have hw : at_ want lack = some { c0 with Mark := 0 } := by
        rw [I.g.virt _ _ hc0]; unfold virtC; rw [if_pos (by omega)]
      have hset : (mset T lack c0).length = T.length + 1 := by
        have h9 := congrArg List.length (msetKeys T lack c0)
        rw [if_neg (fun hm => by obtain ⟨z, hz'⟩ := (mfind_keys T _).1 hm; rw [l2] at hz'; cases hz')] at h9
        simpa using h9
      have hR3 : RecOk n want { t' with l := some (mset T lack c0) } (mset T lack c0) := by
        refine ⟨⟨hR'.cells, rfl, hR'.ok.set _ _, fun c z hcz => ?_⟩, fun c z hcz => ?_⟩ <;> rw [mfind_set] at hcz <;> by_cases q : c = lack
        · rw [q]; exact ⟨l0, l1⟩
        · rw [if_neg q] at hcz; exact hR'.rng c z hcz
        · rw [if_pos q] at hcz; injection hcz with hcz; subst hcz; rw [q]
          exact ⟨_, hw, Int.le_refl _, fun _ => rfl⟩
        · rw [if_neg q] at hcz; exact hR.2 c z hcz
      have hfew3 := hR3.1.few
      have hJ := I.setW hx { x with t := some { t' with l := some (mset T lack c0) }, d := cond false (some (M.el.length : Int)) none } rfl rfl hdn.symm (.inl rfl) (fun _ _ => ⟨_, _, rfl, hR3⟩)
      refine ⟨_, L, want, dn, t, ht, ⟨⟨L, lim⟩, M.dl, M.el, M.log, _, false, (hhead _).2 (by rw [hb0, cond_false, hlearn]; rfl), by simp, by simp, rfl, rfl⟩, hJ.up (by omega), .inr (.inl ⟨hjn, rfl, Sm_same hx rfl, Sm_same hx ?_, fun z => Sm_less hx ?_⟩)⟩
      · unfold ei; rw [hdn]; rfl
      · have e1 : learnt x = T := by unfold learnt; rw [ht]; dsimp only; rw [hR.1.l]; rfl
        have e2 : learnt { x with t := some { t' with l := some (mset T lack c0) }, d := cond false (some (M.el.length : Int)) none } = mset T lack c0 := rfl
        unfold potW
        rw [e1, e2, hjob, hdn]
        dsimp only [cond_false]
        have hs : (bif staleR want (mset T lack c0) then Fc n else 0) ≤ (bif staleR want T then Fc n else 0) := by
          cases q : staleR want (mset T lack c0) with
          | false => simp
          | true =>
            have : staleR want T = true := by
              unfold staleR at q ⊢
              rw [List.any_eq_true] at q ⊢
              obtain ⟨p, hp, hne⟩ := q
              have hmm : ∀ (l : List (Int × api_Cell)), mfind l lack = none → ∀ p ∈ mset l lack c0, p ∈ l ∨ p = (lack, c0) := fun l => by
                induction l with
                | nil => intro _ p hp; simp [mset] at hp; exact .inr hp
                | cons a l ih =>
                  intro hf p hp
                  unfold mfind at hf
                  by_cases q : a.1 = lack
                  · rw [if_pos q] at hf; cases hf
                  · rw [if_neg q] at hf
                    unfold mset at hp
                    rw [if_neg q] at hp
                    rcases List.mem_cons.1 hp with rfl | hp
                    · exact .inl List.mem_cons_self
                    · exact (ih hf p hp).imp_left (List.mem_cons_of_mem _)
              rcases hmm T l2 p hp with h | rfl
              · exact ⟨p, h, hne⟩
              · exfalso
                unfold verOf at hne
                dsimp only at hne
                rw [hw] at hne
                simp at hne
            rw [this]; exact Nat.le_refl _
        omega
    · have hb0 : (c0.Mark != 0) = true := by simpa using hm
      obtain ⟨j, d, h1, h2, h3⟩ := I.g.holder hc0 hm
      obtain ⟨dl', log', L', want', dn', a1, a2, a3, a4, a5⟩ := I.adv H (by omega) h1 h3 k (by omega)
      rw [← h2] at a1
      have hR3 : RecOk n want' t' T := ⟨hR', fun c z hz => a4 _ _ _ (hR.2 c z hz)⟩
      have hJ := a3.setW (M := ⟨M.l, dl', M.el, log'⟩) hx { x with t := some t', d := cond false (some (M.el.length : Int)) none } rfl rfl hdn.symm (.inl rfl) (fun _ _ => ⟨_, _, rfl, hR3⟩)
      refine ⟨_, L', want', dn', t, ht, ⟨⟨L', lim⟩, dl', M.el, log', t', false, (hhead _).2 (by rw [hb0, cond_true, a1]; rfl), by simp, by simpa using a2, rfl, rfl⟩, hJ, ?_⟩
      have e0 : ∀ (z : Nat) (ds : List desc_Desc) (wa : List api_Cell), potW z n ds wa { x with t := some t', d := cond false (some (M.el.length : Int)) none } = potW z n ds wa x := fun z ds wa => by
        have e1 : learnt x = T := by unfold learnt; rw [ht]; dsimp only; rw [hR.1.l]; rfl
        have e2 : learnt { x with t := some t', d := cond false (some (M.el.length : Int)) none } = T := by unfold learnt; dsimp only; rw [hR'.l]; rfl
        unfold potW
        rw [e1, e2, hjob, hdn]; rfl
      have e3 : Sm (ei dl') (M.l.set w { x with t := some t', d := cond false (some (M.el.length : Int)) none }) = Sm (ei dl') M.l := Sm_same hx (by unfold ei; rw [hdn]; rfl)
      rcases a5 with ⟨b1, b2, b3, b4⟩ | ⟨b1, b2⟩
      · subst b2
        refine .inr (.inl ⟨hjn, by rw [b1], Sm_same hx rfl, e3.trans b3, fun z => ?_⟩)
        have := b4 z
        have e4 : Sm (potW z n dl' want') (M.l.set w { x with t := some t', d := cond false (some (M.el.length : Int)) none }) = Sm (potW z n dl' want') M.l := Sm_same hx (e0 z _ _)
        show Sm _ _ < Sm _ _
        rw [e4]; exact this
      · refine .inr (.inr (.inl ⟨hjn, b1, Sm_same hx rfl, ?_⟩))
        show Sm _ _ + 1 = _
        rw [e3]; exact b2
/-- A job with a descriptor. -/
theorem step_d (I : Inv n lim l c M L want dn) (H : Hyp n lim l) (hc : c ≤ 80000) (k : Nat) (hk : 2100 < k) {w : Nat} {x : W8} (hx : M.l[w]? = some x) {ops : List law06_Op} (hjob : x.job = some ops) {i : Int} (hdi : x.d = some i) :
    ∃ M' L' want' dn', (∃ rs rd rg rt rx rk ro, stm_Step_d.f k ⟨L, lim⟩ M.dl M.el M.log i x.told x.t = some (rs, rd, rg, rt, rx, rk, ro) ∧ rd.length = M.dl.length ∧
      M' = ⟨M.l.set w { x with job := cond rk (some ops) none, t := rx, d := cond ro none (some i), told := rt }, rd, M.el, rg⟩ ∧ rs = ⟨L', lim⟩) ∧ Inv n lim l (c + 1) M' L' want' dn' ∧ Out n M want x M' want' := by
  have hwx := I.wk w x hx
  have hn0 := H.n0
  have hjn : x.job ≠ none := by rw [hjob]; exact fun z => by cases z
  obtain ⟨k2, d, e, ops', a1, a2, a3, a4, a5, a6, a7, a8⟩ := hwx.dsc _ hdi
  subst a1
  have hdk := I.g.di k2 d a2
  have hnr := I.g.nr k2 d a2
  have hatd : at_ M.dl (k2 : Int) = some d := at_of (i := (k2 : Int)) (by omega) a2
  have htl := I.osl H hx
  have hkl : k2 < M.dl.length := (List.getElem?_eq_some_iff.1 a2).1
  have hc1 := I.c1
  by_cases ho : over d
  · have hatel : at_ M.el (w64 (d.mark - 1)) = some e := by
      rw [hnr, show w64 ((k2 : Int) + 1 - 1) = (k2 : Int) by rw [w64_id (by omega) (by omega)]; omega]
      exact at_of (i := (k2 : Int)) (by omega) a3
    have hend : ∀ R, stm_Step_d.f k ⟨L, lim⟩ M.dl M.el M.log (k2 : Int) x.told x.t = R ↔ ((bif d.status == 2 then some (x.told, some (⟨L.length, some [], none, 0, false⟩ : tx_Tx), true) else (bif d.status == 3 then some (x.told ++ [-1], none, false) else some (x.told ++ [e.Told], none, false))).bind fun (t13, t14, t15) => some ((⟨L, lim⟩ : word_Store), M.dl, M.log, t13, t14, t15, true)) = R := fun R => by
      unfold stm_Step_d.f stm_Machine_end.f
      rw [hatd, Option.bind_some, dover_ok hdk, decide_eq_true ho, Option.bind_some, cond_true]
      simp only [desc_Desc_Mark.f, desc_Desc_Status.f, Option.bind_some]
      rw [hatel, Option.bind_some, app_ok _ _ (by simp; omega), app_ok _ _ (by simp; omega)]
      simp only [Option.bind_some]
      rfl
    have hst := hdk.st
    have hs0 := ho.1
    have hphi0 : phi d = 0 := (phi_over hdk).1 ho
    by_cases h2 : d.status = 2
    · have hfr := fresh_ok n want L I.g.lenL
      have hJ := I.ended hx hdi a2 ho { x with job := cond true (some ops) none, t := some ⟨L.length, some [], none, 0, false⟩, d := cond true none (some (k2 : Int)), told := x.told } rfl rfl (.inl ⟨h2, rfl, hjob.symm, _, _, rfl, hfr⟩)
      refine ⟨_, L, want, dn, ⟨⟨L, lim⟩, M.dl, M.log, x.told, some ⟨L.length, some [], none, 0, false⟩, true, true, (hend _).2 (by rw [h2]; rfl), rfl, rfl, rfl⟩, hJ.up (by omega), .inr (.inl ⟨hjn, rfl, Sm_same hx rfl, Sm_same hx ?_, fun z => Sm_less hx ?_⟩)⟩
      · unfold ei; rw [hdi, lg_at a2, if_neg (show ¬ (d.status = 1 ∨ d.status = 3) by omega), hjob]; rfl
      · unfold potW
        rw [hdi, hjob]
        dsimp only [cond_true]
        rw [hatd]
        dsimp only
        rw [hphi0, if_neg hs0, if_pos h2]
        show n - 0 + (2 * n + 3) + 0 < _
        unfold Fc; omega
    · have h13 : d.status = 1 ∨ d.status = 3 := by omega
      have key : ∀ v : Int, ((d.status = 1 ∧ v = e.Told) ∨ (d.status = 3 ∧ v = -1)) → stm_Step_d.f k ⟨L, lim⟩ M.dl M.el M.log (k2 : Int) x.told x.t = some ((⟨L, lim⟩ : word_Store), M.dl, M.log, x.told ++ [v], none, false, true) → 
          ∃ M' L' want' dn', (∃ rs rd rg rt rx rk ro, stm_Step_d.f k ⟨L, lim⟩ M.dl M.el M.log (k2 : Int) x.told x.t = some (rs, rd, rg, rt, rx, rk, ro) ∧ rd.length = M.dl.length ∧
            M' = ⟨M.l.set w { x with job := cond rk (some ops) none, t := rx, d := cond ro none (some (k2 : Int)), told := rt }, rd, M.el, rg⟩ ∧ rs = ⟨L', lim⟩) ∧ Inv n lim l (c + 1) M' L' want' dn' ∧ Out n M want x M' want' := fun v hv hq => by
        have hJ := I.ended hx hdi a2 ho { x with job := cond false (some ops) none, t := none, d := cond true none (some (k2 : Int)), told := x.told ++ [v] } rfl rfl (.inr ⟨h2, rfl, v, rfl, fun e' he' => by rw [a3] at he'; injection he' with he'; subst he'; exact hv⟩)
        refine ⟨_, L, want, dn, ⟨⟨L, lim⟩, M.dl, M.log, x.told ++ [v], none, false, true, hq, rfl, rfl, rfl⟩, hJ.up (by omega), .inr (.inr (.inr ⟨hjn, rfl, ?_, Sm_same hx ?_, Sm_less hx ?_⟩))⟩
        · exact Sm_more hx (by simp)
        · unfold ei; rw [hdi, lg_at a2, if_pos h13, hjob]; rfl
        · unfold potW
          rw [hdi, hjob]
          dsimp only [cond_true, cond_false]
          rw [hatd]
          dsimp only
          omega
      rcases h13 with h1 | h3
      · exact key e.Told (.inl ⟨h1, rfl⟩) ((hend _).2 (by rw [h1]; rfl))
      · exact key (-1) (.inr ⟨h3, rfl⟩) ((hend _).2 (by rw [h3]; rfl))
  · obtain ⟨dl', log', L', want', dn', b1, b2, b3, b4, b5⟩ := I.adv H (by omega) a2 ho k (by omega)
    have hx' : ({ x with job := cond true (some ops) none, t := x.t, d := cond false none (some (k2 : Int)), told := x.told } : W8) = x := by
      cases x; simp at hjob hdi; subst hjob; subst hdi; rfl
    have hself : M.l.set w x = M.l := by
      apply List.ext_getElem?; intro j; rw [w_set hx]; split
      · rename_i q; subst q; exact hx.symm
      · rfl
    refine ⟨⟨M.l, dl', M.el, log'⟩, L', want', dn', ⟨⟨L', lim⟩, dl', log', x.told, x.t, true, false, ?_, b2, by rw [hx', hself], rfl⟩, b3, ?_⟩
    · unfold stm_Step_d.f
      rw [hatd, Option.bind_some, dover_ok hdk, decide_eq_false ho, Option.bind_some, cond_false]
      simp only [desc_Desc_Mark.f, Option.bind_some]
      rw [hnr, b1]; rfl
    · rcases b5 with ⟨q1, q2, q3, q4⟩ | ⟨q1, q2⟩
      · subst q2
        exact .inr (.inl ⟨hjn, by rw [q1], rfl, q3, q4⟩)
      · exact .inr (.inr (.inl ⟨hjn, q1, rfl, q2⟩))
/-- A step. -/
theorem mstep_ok (I : Inv n lim l c M L want dn) (H : Hyp n lim l) (hc : c ≤ 80000) (k kj : Nat) (hk : 2100 < k) (hkj : 50 < kj) (id : Int) :
    (stepM (law08_jobs_1.f kj) (fd8 l) k M ⟨L, lim⟩ id = some (false, M, ⟨L, lim⟩) ∧ ∀ x, at_ M.l id = some x → x.job = none) ∨
    ∃ M' L' want' dn' x, stepM (law08_jobs_1.f kj) (fd8 l) k M ⟨L, lim⟩ id = some (true, M', ⟨L', lim⟩) ∧ at_ M.l id = some x ∧ Inv n lim l (c + 1) M' L' want' dn' ∧ Out n M want x M' want' := by
  unfold stepM
  by_cases hr : 0 ≤ id ∧ id < (M.l.length : Int)
  · obtain ⟨w, rfl⟩ : ∃ w : Nat, id = w := ⟨id.toNat, by omega⟩
    have hwl : w < M.l.length := by omega
    have hx : M.l[w]? = some M.l[w] := List.getElem?_eq_getElem hwl
    generalize M.l[w] = x at hx
    have hwx := I.wk w x hx
    have hatx : at_ M.l (w : Int) = some x := at_of (i := (w : Int)) (by omega) hx
    rw [decide_eq_true hr.1, decide_eq_true hr.2, Bool.and_self, cond_true, hatx, Option.bind_some]
    have htl := I.osl H hx
    cases hjob : x.job with
    | none =>
      dsimp only
      have hnext : stm_next_n.f x.told = some () := by unfold stm_next_n.f; rw [clone_ok (by omega)]; rfl
      rw [hnext, Option.bind_some]
      obtain ⟨os, o1, o2, o3⟩ := hwx.os
      have hfd : fd8 l x.fi x.told = os[x.told.length]? := by unfold fd8; rw [hwx.fi, o1]; rfl
      rw [hfd]
      cases hos : os[x.told.length]? with
      | none => exact .inl ⟨rfl, fun y hy => by injection hy with hy; subst hy; exact hjob⟩
      | some ops =>
        right
        dsimp only
        rw [take_ok, Option.bind_some]
        have hJ := I.setW hx { x with job := some ops, t := some ⟨L.length, some [], none, 0, false⟩ } rfl rfl rfl (.inr ⟨hjob, ops, os, rfl, o1, hos⟩) (fun _ _ => ⟨_, _, rfl, fresh_ok n want L I.g.lenL⟩)
        refine ⟨_, L, want, dn, x, rfl, rfl, hJ.up (by omega), .inl ⟨hjob, rfl, Sm_same hx rfl, fun z hz => Sm_less hx ?_⟩⟩
        have hd0 := hwx.nd hjob
        unfold potW
        rw [hjob, hd0]
        dsimp only
        show n - 0 + (2 * n + 3) + 0 < z
        unfold Fc at hz; omega
    | some ops =>
      dsimp only
      right
      cases hdx : x.d with
      | none =>
        obtain ⟨M', L', want', dn', t, h1, ⟨rs, rd, re, rg, rx, rn, h2, h3, h4, h5, h6⟩, h7, h8⟩ := step_run I H hc k kj hk hkj hx hjob hdx
        rw [h1]
        dsimp only
        rw [h2, Option.bind_some]
        dsimp only
        rw [decide_eq_true h3, decide_eq_true h4, Bool.and_self, cond_true, h6]
        subst h5
        exact ⟨_, L', want', dn', x, (by first | rfl | simp only [hjob, Int.toNat_natCast]), rfl, h7, h8⟩
      | some i =>
        obtain ⟨M', L', want', dn', ⟨rs, rd, rg, rt, rx, rk, ro, h2, h3, h5, h6⟩, h7, h8⟩ := step_d I H hc k hk hx hjob hdx
        dsimp only
        rw [h2, Option.bind_some]
        dsimp only
        rw [decide_eq_true h3, cond_true, h6]
        subst h5
        exact ⟨_, L', want', dn', x, (by first | rfl | simp only [hjob, Int.toNat_natCast]), rfl, h7, h8⟩
  · left
    have : (decide (0 ≤ id) && decide (id < (M.l.length : Int))) = false := by
      by_cases q : 0 ≤ id
      · rw [decide_eq_true q, decide_eq_false (fun z => hr ⟨q, z⟩)]; rfl
      · rw [decide_eq_false q]; rfl
    rw [this, cond_false]
    refine ⟨rfl, fun x hx => ?_⟩
    rw [at_none hr] at hx; cases hx
end
end Go.Proofs
