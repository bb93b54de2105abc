/- Plain laws of what is reached, parts P06VB, P06TxL, P06TxD. On no condition. -/
import Derived.Test.YtehemplabpjbgaaFnTxLearns0
import Derived.Test.YtehemplabpjbgaaFr2
import Derived.Test.YtehemplabpjbgaaFr1
import Derived.Test.YtehemplabpjbgaaFnTxLearns1
set_option linter.all false
/-! Lists of words: fields, views run on a list. -/
set_option linter.unusedVariables false
namespace Go.Proofs
open Go.Sl
def InObj (i f : Int) : Prop := 0 ≤ i ∧ i < 32 ∧ 0 ≤ f ∧ f < 8
instance (i f : Int) : Decidable (InObj i f) := inferInstanceAs (Decidable (_ ∧ _))
theorem prd {s : List Int} {i : Int} (h : 0 ≤ i ∧ i < (s.length : Int)) : plainI.rd s i = (s.getD i.toNat 0, s) := by
  show ((view_Plain_Read.f s i).getD 0, s) = _
  unfold view_Plain_Read.f view_Plain_has.f
  have h2 : s[i.toNat]? = some s[i.toNat] := List.getElem?_eq_getElem (by omega)
  have h1 : (decide (0 ≤ i) && decide (i < (s.length : Int))) = true := by simp; omega
  have h3 : at_ s i = some s[i.toNat] := by unfold at_; rw [decide_eq_true h.1, cond_true, h2]
  simp only [h1, Option.bind_some, Bool.not_true, cond_false, h3, Option.getD_some, List.getD, h2]
theorem pwr {s : List Int} {i x : Int} (h : 0 ≤ i ∧ i < (s.length : Int)) : plainI.wr s i x = s.set i.toNat x := by
  show (view_Plain_Write.f s i x).getD s = _
  unfold view_Plain_Write.f view_Plain_has.f
  have h2 : s[i.toNat]? = some s[i.toNat] := List.getElem?_eq_getElem (by omega)
  have h1 : (decide (0 ≤ i) && decide (i < (s.length : Int))) = true := by simp; omega
  have h3 : at_ s i = some s[i.toNat] := by unfold at_; rw [decide_eq_true h.1, cond_true, h2]
  simp only [h1, Option.bind_some, cond_true, h3, Option.getD_some]
theorem runB {α β : Type} (x : VM α) (g : α → VM β) (s : List Int) : VM.run plainI (x.bind g) s = (VM.run plainI x s).bind fun p => VM.run plainI (g p.1) p.2 := VM.run_bind plainI x g s
theorem runR {α : Type} (a : α) (s : List Int) : VM.run plainI (VM.ret a) s = some (a, s) := rfl
theorem runO {α : Type} (x : Option α) (s : List Int) : VM.run plainI (VM.opt x) s = x.map fun a => (a, s) := by cases x <;> rfl
theorem runC {α : Type} (c : Bool) (x y : VM α) (s : List Int) : VM.run plainI (bif c then x else y) s = bif c then VM.run plainI x s else VM.run plainI y s := by cases c <;> rfl
theorem runRd {α : Type} {i : Int} (g : Int → VM α) {s : List Int} (h : 0 ≤ i ∧ i < (s.length : Int)) : VM.run plainI (VM.rd i g) s = VM.run plainI (g (s.getD i.toNat 0)) s := by
  show VM.run plainI (g (plainI.rd s i).1) (plainI.rd s i).2 = _
  have e := prd h
  exact congrArg (fun p : Int × List Int => VM.run plainI (g p.1) p.2) e
theorem runWr {α : Type} {i x : Int} (g : VM α) {s : List Int} (h : 0 ≤ i ∧ i < (s.length : Int)) : VM.run plainI (VM.wr i x g) s = VM.run plainI g (s.set i.toNat x) := by
  show VM.run plainI g (plainI.wr s i x) = _
  exact congrArg (fun p : List Int => VM.run plainI g p) (pwr h)
/-- As many words as there are, none below 0. -/
def Good (s : List Int) : Prop := s.length = 738 ∧ ∀ j, 0 ≤ s.getD j 0
def goodB (s : List Int) : Bool := s.length == 738 && s.all fun x => decide (0 ≤ x)
theorem good_of {s : List Int} (h : goodB s = true) : Good s := by
  simp only [goodB, Bool.and_eq_true, beq_iff_eq, List.all_eq_true, decide_eq_true_eq] at h
  refine ⟨h.1, fun j => ?_⟩
  rw [List.getD]
  cases e : s[j]? with
  | none => simp
  | some x => simpa using h.2 x (List.mem_of_getElem? e)
def numb (w : Int) : Int := if 4611686018427387904 < w then 0 else w
theorem numb_nn {w : Int} (h : 0 ≤ w) : 0 ≤ numb w := by unfold numb; split <;> omega
theorem numb_le {w : Int} : numb w ≤ 4611686018427387904 := by unfold numb; split <;> omega
theorem numb_id {w : Int} (h : w ≤ 4611686018427387904) : numb w = w := by unfold numb; rw [if_neg (by omega)]
def fld (s : List Int) (i f : Int) : Int := if InObj i f then numb (s.getD (480 + 8 * i + f).toNat 0) else 0
def put (s : List Int) (i f n : Int) : List Int := if InObj i f ∧ 0 ≤ n then s.set (480 + 8 * i + f).toNat n else s
theorem fld_nn {s : List Int} (h : Good s) (i f : Int) : 0 ≤ fld s i f := by
  unfold fld; split
  · exact numb_nn (h.2 _)
  · omega
theorem fld_le (s : List Int) (i f : Int) : fld s i f ≤ 4611686018427387904 := by
  unfold fld; split
  · exact numb_le
  · omega
theorem getD_set (s : List Int) (a b : Nat) (v : Int) : (s.set a v).getD b 0 = if a = b ∧ b < s.length then v else s.getD b 0 := by
  simp only [List.getD]
  by_cases e : a = b
  · subst e
    by_cases h : a < s.length
    · rw [List.getElem?_set_self h]; simp [h]
    · rw [List.getElem?_eq_none (by simpa using h)]
      rw [List.getElem?_eq_none (by omega)]; simp [h]
  · rw [List.getElem?_set_ne e]; simp [e]
theorem put_len (s : List Int) (i f n : Int) : (put s i f n).length = s.length := by unfold put; split <;> simp
theorem good_put {s : List Int} (h : Good s) (i f n : Int) : Good (put s i f n) := by
  refine ⟨by rw [put_len]; exact h.1, fun j => ?_⟩
  unfold put
  split
  · rename_i hn
    rw [getD_set]; split
    · omega
    · exact h.2 j
  · exact h.2 j
theorem fld_put {s : List Int} (h : Good s) (i f n i' f' : Int) (hn : n ≤ 4611686018427387904) : fld (put s i f n) i' f' = if i = i' ∧ f = f' ∧ InObj i f ∧ 0 ≤ n then n else fld s i' f' := by
  unfold put fld
  by_cases h1 : InObj i f ∧ 0 ≤ n
  · rw [if_pos h1]
    by_cases h2 : InObj i' f'
    · rw [if_pos h2, if_pos h2, getD_set, h.1]
      have a := h1.1
      unfold InObj at a h2
      by_cases e : i = i' ∧ f = f'
      · obtain ⟨rfl, rfl⟩ := e
        rw [if_pos ⟨rfl, by omega⟩, if_pos ⟨rfl, rfl, h1.1, h1.2⟩, numb_id hn]
      · rw [if_neg (by omega), if_neg (fun e' => e ⟨e'.1, e'.2.1⟩)]
    · rw [if_neg h2, if_neg h2, if_neg]
      rintro ⟨rfl, rfl, q, _⟩; exact h2 q
  · rw [if_neg h1]
    have : ¬ (i = i' ∧ f = f' ∧ InObj i f ∧ 0 ≤ n) := fun e => h1 e.2.2
    rw [if_neg this]
theorem band_65535 {x : Int} (h : 0 ≤ x) (h2 : x < 9223372036854775808) : band .i64 x 65535 = x % 65536 := by
  have := band_mod_i64 (x := x) 16 (by decide) h (by omega)
  simpa using this
theorem at_some {α : Type} {l : List α} {i : Int} (h : 0 ≤ i) (h2 : i < (l.length : Int)) : ∃ x, at_ l i = some x ∧ x ∈ l := by
  have h3 : l[i.toNat]? = some (l[i.toNat]'(by omega)) := List.getElem?_eq_getElem (by omega)
  refine ⟨l[i.toNat]'(by omega), ?_, List.getElem_mem _⟩
  unfold at_; rw [decide_eq_true h, cond_true, h3]
def hd : List Int → Int
  | [] => 0
  | t :: _ => t + 1
def la (l : List Int) : Int := match l.getLast? with | none => 0 | some t => t + 1
end Go.Proofs
/-! A record, run. -/
set_option linter.unusedVariables false
namespace Go.Proofs
open Go.Sl
section
variable {α β : Type}
theorem srunB (x : VM α) (g : α → VM β) (s : tx_Tx) : VM.run seenI (x.bind g) s = (VM.run seenI x s).bind fun p => VM.run seenI (g p.1) p.2 := VM.run_bind seenI x g s
theorem srunR (a : α) (s : tx_Tx) : VM.run seenI (VM.ret a) s = some (a, s) := rfl
theorem srunO (x : Option α) (s : tx_Tx) : VM.run seenI (VM.opt x) s = x.map fun a => (a, s) := by cases x <;> rfl
theorem srunC (c : Bool) (x y : VM α) (s : tx_Tx) : VM.run seenI (bif c then x else y) s = bif c then VM.run seenI x s else VM.run seenI y s := by cases c <;> rfl
theorem srunRd (i : Int) (g : Int → VM α) (s : tx_Tx) : VM.run seenI (VM.rd i g) s = VM.run seenI (g (rdS s i).1) (rdS s i).2 := by
  show VM.run seenI (g ((tx_seen_Read.f s i).getD (0, s)).1) ((tx_seen_Read.f s i).getD (0, s)).2 = _
  rw [rdS_ok]; rfl
theorem srunWr (i x : Int) (g : VM α) {s : tx_Tx} (h : TxOk s) : VM.run seenI (VM.wr i x g) s = VM.run seenI g (wrS s i x) := by
  show VM.run seenI g ((tx_seen_Write.f s i x).getD s) = _
  rw [wrS_ok h]; rfl
end
/-- What a look at a cell makes of which one is lacked. -/
def upd (cells : Int) (L : List (Int × api_Cell)) (lack i : Int) : Int := if (0 ≤ i ∧ i < cells) ∧ mfind L i = none ∧ lack = -1 then i else lack
theorem upd_upd (cells : Int) (L : List (Int × api_Cell)) (lack i : Int) : upd cells L (upd cells L lack i) i = upd cells L lack i := by
  unfold upd
  by_cases h : (0 ≤ i ∧ i < cells) ∧ mfind L i = none ∧ lack = -1
  · rw [if_pos h, if_neg (by omega)]
  · rw [if_neg h, if_neg h]
theorem hasS_eq {s : tx_Tx} {L : List (Int × api_Cell)} (hl : s.l = some L) (i : Int) : hasS s i = (decide (0 ≤ i ∧ i < s.cells), { s with lack := upd s.cells L s.lack i }) := by
  unfold hasS upd
  by_cases h : i < 0 ∨ s.cells ≤ i
  · rw [if_pos h, if_neg (by omega), decide_eq_false (by omega)]
  · rw [if_neg h, decide_eq_true (by omega)]
    have e : mfindO s.l i = mfind L i := by rw [hl]; rfl
    rw [e]
    by_cases h2 : mfind L i = none ∧ s.lack = -1
    · rw [if_pos h2, if_pos ⟨by omega, h2⟩]
    · rw [if_neg h2, if_neg (fun z => h2 z.2)]
theorem rdS_snd {s : tx_Tx} {L : List (Int × api_Cell)} (hl : s.l = some L) (i : Int) : (rdS s i).2 = { s with lack := upd s.cells L s.lack i } := by rw [rdS_2, hasS_eq hl]
theorem rdS_out {s : tx_Tx} {L : List (Int × api_Cell)} (hl : s.l = some L) {i : Int} (h : ¬ (0 ≤ i ∧ i < s.cells)) : (rdS s i).1 = 0 := by
  unfold rdS
  rw [hasS_eq hl, decide_eq_false h]; rfl
theorem upd_cases (cells : Int) (L : List (Int × api_Cell)) (lack i : Int) : upd cells L lack i = lack ∨ (lack = -1 ∧ upd cells L lack i = i ∧ 0 ≤ i ∧ i < cells ∧ mfind L i = none) := by
  unfold upd; split
  · rename_i h; exact .inr ⟨h.2.2, rfl, h.1.1, h.1.2, h.2.1⟩
  · exact .inl rfl
/-- A record as a run has it: the cells, what it has learnt; which one it lacks. -/
structure Rn (cells : Int) (L : List (Int × api_Cell)) (s : tx_Tx) : Prop where
  ok : TxOk s
  cells : s.cells = cells
  l : s.l = some L
theorem Rn.rd {cells : Int} {L : List (Int × api_Cell)} {s : tx_Tx} (h : Rn cells L s) (i : Int) : Rn cells L (rdS s i).2 ∧ (rdS s i).2.lack = upd cells L s.lack i ∧ (rdS s i).2.out = s.out := by
  have e := rdS_snd h.l i
  refine ⟨⟨?_, by rw [e]; exact h.cells, by rw [e]; exact h.l⟩, by rw [e, h.cells], by rw [e]⟩
  rw [rdS_2]; exact h.ok.has i
theorem Rn.wr {cells : Int} {L : List (Int × api_Cell)} {s : tx_Tx} (h : Rn cells L s) (i x : Int) : Rn cells L (wrS s i x) ∧ (wrS s i x).lack = upd cells L s.lack i := by
  have e := hasS_eq h.l i
  refine ⟨⟨h.ok.wr i x, ?_, ?_⟩, ?_⟩ <;> (unfold wrS; rw [e]; dsimp only; split)
  · exact h.cells
  · exact h.cells
  · exact h.l
  · exact h.l
  · show upd s.cells L s.lack i = _; rw [h.cells]
  · show upd s.cells L s.lack i = _; rw [h.cells]
theorem run_eq {α : Type} (m : VM α) {t : tx_Tx} (h : 0 ≤ t.cells ∧ t.cells ≤ 1024) : tx_Tx_Run.f m t = (VM.run seenI m { t with out := some [], lack := -1 }).bind fun p => some (if p.2.lack = -1 then 0 else p.2.lack, p.2.lack == -1, p.1, { p.2 with fine := p.2.lack == -1 }) := by
  unfold tx_Tx_Run.f
  rw [decide_eq_true h.1, decide_eq_true h.2]; rfl
theorem Rn.start {t : tx_Tx} {L : List (Int × api_Cell)} (hl : t.l = some L) (h : 0 ≤ t.cells ∧ t.cells ≤ 1024) : Rn t.cells L { t with out := some [], lack := -1 } := ⟨⟨h, [], rfl, List.nodup_nil, fun p hp => by cases hp⟩, rfl, hl⟩
theorem at_nat {α : Type} {l : List α} {i : Nat} (h : i < l.length) : at_ l (i : Int) = some l[i] := by
  unfold at_; rw [decide_eq_true (by omega), cond_true]; exact List.getElem?_eq_getElem h
theorem w64_nat {i : Nat} (h : i < 1000000) : w64 ((i : Int) + 1) = ((i + 1 : Nat) : Int) := by rw [w64_id (by omega) (by omega)]; omega
theorem app_one {α : Type} (l : List α) (x : α) (h : l.length < 1000000) : app l [x] = some (l ++ [x]) := by
  have e9 : l.length + [x].length ≤ 4294967296 := by simp; omega
  unfold app; rw [decide_eq_true e9]; rfl
/-- All cells of a map, by rising numbers. -/
def cellsOf (l : List (Int × api_Cell)) : List view_Pair_api_Cell := (skeys l).map fun j => ⟨j, (mfind l j).getD ⟨0, 0, 0⟩⟩
theorem ofc_l1 (l : List (Int × api_Cell)) (ys : List Int) (hy : ys.length ≤ 2000) : ∀ (n k i : Nat) (acc : List view_Pair_api_Cell), i + n = ys.length → n < k → acc = (ys.take i).map (fun j => ⟨j, (mfind l j).getD ⟨0, 0, 0⟩⟩) → view_Of_api_Cell.l1 (some l) ys k (i, acc) = some (ys.map fun j => ⟨j, (mfind l j).getD ⟨0, 0, 0⟩⟩) := by
  intro n
  induction n with
  | zero =>
    intro k i acc e hk ha
    obtain ⟨k, rfl⟩ : ∃ q, k = q + 1 := ⟨k - 1, by omega⟩
    unfold view_Of_api_Cell.l1
    rw [decide_eq_false (by omega), cond_false, ha, List.take_of_length_le (by omega)]
  | succ n ih =>
    intro k i acc e hk ha
    obtain ⟨k, rfl⟩ : ∃ q, k = q + 1 := ⟨k - 1, by omega⟩
    unfold view_Of_api_Cell.l1
    have hi : i < ys.length := by omega
    have hl : acc.length ≤ 2000 := by rw [ha, List.length_map, List.length_take]; omega
    rw [decide_eq_true (by omega), cond_true, at_nat hi, Option.bind_some, w64_nat (by omega)]
    simp only [lk1, mfindO, Option.bind_some]
    rw [app_one _ _ (by omega), Option.bind_some]
    refine ih k (i + 1) _ (by omega) (by omega) ?_
    rw [List.take_succ_eq_append_getElem hi, List.map_append, ha]; rfl
theorem ofc_ok (l : List (Int × api_Cell)) (hl : l.length ≤ 1500) (k : Nat) (hk : 2000 < k) : view_Of_api_Cell.f k (some l) = some (cellsOf l, some l) := by
  unfold view_Of_api_Cell.f
  rw [show skeysO (some l) = some (skeys l) from rfl, Option.bind_some]
  rw [show ((0 : Int), ([] : List view_Pair_api_Cell)) = (((0 : Nat) : Int), []) from rfl, ofc_l1 l (skeys l) (by rw [skeys_len]; omega) (skeys l).length k 0 [] (Nat.zero_add _) (by rw [skeys_len]; omega) rfl]
  rfl
/-- An entry, of a cell that was learnt. -/
def entOf (out : Option (List (Int × Int))) (p : view_Pair_api_Cell) : tx_Entry :=
  match mfindO out p.At with
  | some v => ⟨p.At, p.Val.Version, p.Val.Value, v, v != p.Val.Value⟩
  | none => ⟨p.At, p.Val.Version, p.Val.Value, p.Val.Value, false⟩
theorem ent_l1 (t : tx_Tx) (ps : List view_Pair_api_Cell) (hp : ps.length ≤ 2000) : ∀ (n k i : Nat) (acc : List tx_Entry), i + n = ps.length → n < k → acc = (ps.take i).map (entOf t.out) → tx_Tx_Entries.l1 t ps k (acc, i) = some (ps.map (entOf t.out)) := by
  intro n
  induction n with
  | zero =>
    intro k i acc e hk ha
    obtain ⟨k, rfl⟩ : ∃ q, k = q + 1 := ⟨k - 1, by omega⟩
    unfold tx_Tx_Entries.l1
    rw [decide_eq_false (by omega), cond_false, ha, List.take_of_length_le (by omega)]
  | succ n ih =>
    intro k i acc e hk ha
    obtain ⟨k, rfl⟩ : ∃ q, k = q + 1 := ⟨k - 1, by omega⟩
    unfold tx_Tx_Entries.l1
    have hi : i < ps.length := by omega
    have hl : acc.length ≤ 2000 := by rw [ha, List.length_map, List.length_take]; omega
    rw [decide_eq_true (by omega), cond_true, at_nat hi, Option.bind_some, w64_nat (by omega)]
    have hnext := ih k (i + 1) (acc ++ [entOf t.out ps[i]]) (by omega) (by omega) (by rw [List.take_succ_eq_append_getElem hi, List.map_append, ha]; rfl)
    cases hm : mfindO t.out ps[i].At with
    | none =>
      have e1 : entOf t.out ps[i] = ⟨ps[i].At, ps[i].Val.Version, ps[i].Val.Value, ps[i].Val.Value, false⟩ := by unfold entOf; rw [hm]
      simp only [lkO, hm, Option.bind_some, Option.isSome_none, cond_false]
      rw [app_one _ _ (by omega), Option.bind_some, ← e1]; exact hnext
    | some v =>
      have e1 : entOf t.out ps[i] = ⟨ps[i].At, ps[i].Val.Version, ps[i].Val.Value, v, v != ps[i].Val.Value⟩ := by unfold entOf; rw [hm]
      simp only [lkO, hm, Option.bind_some, Option.isSome_some, Option.getD_some, cond_true]
      rw [app_one _ _ (by omega), Option.bind_some, ← e1]; exact hnext
theorem entries_ok {t : tx_Tx} {L : List (Int × api_Cell)} (hl : t.l = some L) (hlen : L.length ≤ 1500) (k : Nat) (hk : 2000 < k) : tx_Tx_Entries.f k t = some (if t.fine = true then (cellsOf L).map (entOf t.out) else [], t) := by
  unfold tx_Tx_Entries.f
  by_cases hf : t.fine = true
  · rw [hf, if_pos rfl]
    simp only [Bool.not_true, cond_false]
    rw [hl, ofc_ok L hlen k hk, Option.bind_some]
    dsimp only
    have hc : (cellsOf L).length ≤ 2000 := by unfold cellsOf; rw [List.length_map, skeys_len]; omega
    rw [show (([] : List tx_Entry), (0 : Int)) = ([], ((0 : Nat) : Int)) from rfl, ent_l1 t (cellsOf L) hc (cellsOf L).length k 0 [] (Nat.zero_add _) (by unfold cellsOf; rw [List.length_map, skeys_len]; omega) rfl, Option.bind_some, ← hl, ← hf]
  · have : t.fine = false := by cases h : t.fine <;> simp_all
    rw [this, if_neg (by simp)]; rfl
theorem reads_ok {t : tx_Tx} {L : List (Int × api_Cell)} (hl : t.l = some L) : tx_Tx_Reads.f t = some (L.length : Int) := by unfold tx_Tx_Reads.f; rw [hl]; rfl
theorem learn_ok {t : tx_Tx} {L : List (Int × api_Cell)} (hl : t.l = some L) (hlen : L.length < 100000) (hc : t.cells ≤ 1024) (i : Int) (c : api_Cell) : tx_Tx_Learn.f t i c = some (if 0 ≤ i ∧ i < t.cells then { t with l := some (mset L i c) } else t) := by
  unfold tx_Tx_Learn.f
  by_cases h0 : 0 ≤ i
  · by_cases h1 : i < t.cells
    · rw [decide_eq_true h0, decide_eq_true h1, if_pos ⟨h0, h1⟩]
      simp only [cond_true, Option.bind_some, hl, mputO, mput, wfI64 (i := i) (by omega) (by omega), Bool.true_and]
      rw [decide_eq_true (by omega : L.length < 4294967296)]; rfl
    · rw [decide_eq_true h0, decide_eq_false h1, if_neg (by omega)]; rfl
  · rw [decide_eq_false h0, if_neg (by omega)]; rfl
end Go.Proofs
/-! The law's function, of a record's view, and of a list. -/
set_option linter.unusedVariables false
namespace Go.Proofs
open Go.Sl
def pget (p : List Int) (i : Int) : Int := if 0 ≤ i ∧ i < (p.length : Int) then p.getD i.toNat 0 else 0
def pput (p : List Int) (i x : Int) : List Int := if 0 ≤ i ∧ i < (p.length : Int) then p.set i.toNat x else p
theorem pl_rd {α : Type} (i : Int) (g : Int → VM α) (p : List Int) : VM.run plainI (VM.rd i g) p = VM.run plainI (g (pget p i)) p := by
  show VM.run plainI (g (plainI.rd p i).1) (plainI.rd p i).2 = _
  have e : plainI.rd p i = (pget p i, p) := by
    unfold pget
    by_cases h : 0 ≤ i ∧ i < (p.length : Int)
    · rw [prd h, if_pos h]
    · rw [if_neg h]
      show ((view_Plain_Read.f p i).getD 0, p) = _
      unfold view_Plain_Read.f view_Plain_has.f
      have : (decide (0 ≤ i) && decide (i < (p.length : Int))) = false := by
        by_cases h0 : 0 ≤ i
        · rw [decide_eq_true h0, decide_eq_false (by omega)]; rfl
        · rw [decide_eq_false h0]; rfl
      rw [this]; rfl
  rw [e]
theorem pl_wr {α : Type} (i x : Int) (g : VM α) (p : List Int) : VM.run plainI (VM.wr i x g) p = VM.run plainI g (pput p i x) := by
  show VM.run plainI g (plainI.wr p i x) = _
  have e : plainI.wr p i x = pput p i x := by
    unfold pput
    by_cases h : 0 ≤ i ∧ i < (p.length : Int)
    · rw [pwr h, if_pos h]
    · rw [if_neg h]
      show (view_Plain_Write.f p i x).getD p = _
      unfold view_Plain_Write.f view_Plain_has.f
      have : (decide (0 ≤ i) && decide (i < (p.length : Int))) = false := by
        by_cases h0 : 0 ≤ i
        · rw [decide_eq_true h0, decide_eq_false (by omega)]; rfl
        · rw [decide_eq_false h0]; rfl
      rw [this]; rfl
  rw [e]
theorem pput_len (p : List Int) (i x : Int) : (pput p i x).length = p.length := by unfold pput; split <;> simp
theorem pget_put (p : List Int) (i x c : Int) (hc : 0 ≤ c ∧ c < (p.length : Int)) : pget (pput p i x) c = if i = c then x else pget p c := by
  have e1 : pget (pput p i x) c = (pput p i x).getD c.toNat 0 := by unfold pget; rw [pput_len, if_pos hc]
  have e2 : pget p c = p.getD c.toNat 0 := by unfold pget; rw [if_pos hc]
  rw [e1, e2]
  unfold pput
  by_cases h : i = c
  · subst h; rw [if_pos hc, getD_set, if_pos ⟨rfl, by omega⟩, if_pos rfl]
  · rw [if_neg h]
    split
    · rw [getD_set, if_neg (by omega)]
    · rfl
section
variable (cells : Int) (L : List (Int × api_Cell)) (val : Int → Int)
/-- The list has what was written, and what was learnt. -/
structure Sim (s : tx_Tx) (p : List Int) : Prop where
  len : (p.length : Int) = cells
  get : ∀ c, 0 ≤ c → c < cells → pget p c = (mfindO s.out c).getD (val c)
  keys : ∀ c v, mfindO s.out c = some v → ∃ z, mfind L c = some z
def LackOk (c : Int) : Prop := c = -1 ∨ (0 ≤ c ∧ c < cells ∧ mfind L c = none)
/-- What was learnt is so. -/
def Known : Prop := ∀ c z, mfind L c = some z → z.Value = val c ∧ 0 ≤ c ∧ c < cells
variable {cells L val}
theorem LackOk.upd {c : Int} (h : LackOk cells L c) (i : Int) : LackOk cells L (upd cells L c i) := by
  rcases upd_cases cells L c i with e | ⟨_, e, h1, h2, h3⟩
  · rw [e]; exact h
  · rw [e]; exact .inr ⟨h1, h2, h3⟩
theorem upd_m1 {c i : Int} (h : upd cells L c i = -1) : c = -1 ∧ ((0 ≤ i ∧ i < cells) → ∃ z, mfind L i = some z) := by
  unfold upd at h
  split at h
  · rename_i q; omega
  · rename_i q
    refine ⟨h, fun hin => ?_⟩
    cases hf : mfind L i with
    | some z => exact ⟨z, rfl⟩
    | none => exact absurd ⟨hin, hf, h⟩ q
theorem Sim.rd {s : tx_Tx} {p : List Int} (hk : Known cells L val) (hr : Rn cells L s) (h : Sim cells L val s p) {i : Int} (hl : upd cells L s.lack i = -1) : (rdS s i).1 = pget p i ∧ Sim cells L val (rdS s i).2 p := by
  have e := rdS_snd hr.l i
  obtain ⟨h1, h2⟩ := upd_m1 hl
  refine ⟨?_, ?_⟩
  · by_cases hin : 0 ≤ i ∧ i < cells
    · obtain ⟨z, hz⟩ := h2 hin
      rw [h.get i hin.1 hin.2]
      unfold rdS
      rw [hasS_eq hr.l, hr.cells, decide_eq_true hin, if_pos rfl]
      dsimp only
      cases ho : mfindO s.out i with
      | some v => rfl
      | none =>
        have : mfindO s.l i = some z := by rw [hr.l]; exact hz
        rw [this]
        exact (hk i z hz).1
    · rw [rdS_out hr.l (by rw [hr.cells]; exact hin)]
      unfold pget; rw [if_neg (by rw [h.len]; exact hin)]
  · rw [e]; exact ⟨h.len, h.get, h.keys⟩
theorem Sim.wr {s : tx_Tx} {p : List Int} (hr : Rn cells L s) (h : Sim cells L val s p) {i x : Int} (hl : upd cells L s.lack i = -1) : Sim cells L val (wrS s i x) (pput p i x) := by
  obtain ⟨h1, h2⟩ := upd_m1 hl
  have e := hasS_eq hr.l i
  obtain ⟨_, o, ho, _, _⟩ := hr.ok
  by_cases hin : 0 ≤ i ∧ i < cells
  · have ew : (wrS s i x).out = some (mset o i x) := by
      unfold wrS; rw [e, hr.cells, decide_eq_true hin, if_pos rfl]; simp [ho]
    have ef : ∀ c, mfindO (wrS s i x).out c = if c = i then some x else mfindO s.out c := fun c => by
      rw [ew, ho]; show mfind (mset o i x) c = _; rw [mfind_set]; rfl
    refine ⟨by rw [pput_len]; exact h.len, fun c c0 c1 => ?_, fun c v hv => ?_⟩
    · rw [pget_put _ _ _ _ ⟨c0, by rw [h.len]; exact c1⟩, ef]
      by_cases q : i = c
      · rw [if_pos q, if_pos q.symm]; rfl
      · rw [if_neg q, if_neg (Ne.symm q)]; exact h.get c c0 c1
    · rw [ef] at hv
      by_cases q : c = i
      · rw [q]; exact h2 hin
      · rw [if_neg q] at hv; exact h.keys c v hv
  · have ew : (wrS s i x).out = s.out := by
      unfold wrS; rw [e, hr.cells, decide_eq_false hin, if_neg (by simp)]
    have ep : pput p i x = p := by unfold pput; rw [if_neg (by rw [h.len]; exact hin)]
    rw [ep]
    exact ⟨h.len, fun c c0 c1 => by rw [ew]; exact h.get c c0 c1, fun c v hv => by rw [ew] at hv; exact h.keys c v hv⟩
theorem optB {α β : Type} (x : α) (g : α → VM β) : (VM.opt (some x)).bind g = g x := rfl
theorem do_run (hk : Known cells L val) (l : List law06_Op) (hl40 : l.length ≤ 40) (hN : ∀ x ∈ l, 0 ≤ x.N) : ∀ (n k i : Nat) (sum : Int) (s : tx_Tx), l.length ≤ i + n → i ≤ 50 → n < k → Rn cells L s → LackOk cells L s.lack →
    ∃ r s', VM.run seenI (law06_Do.l1 l k (i, sum)) s = some (r, s') ∧ Rn cells L s' ∧ LackOk cells L s'.lack ∧ (s'.lack = -1 → s.lack = -1 ∧ ∀ p, Sim cells L val s p → ∃ p', (∀ k2, n < k2 → VM.run plainI (law06_Do.l1 l k2 (i, sum)) p = some (r, p')) ∧ Sim cells L val s' p') := by
  intro n
  induction n with
  | zero =>
    intro k i sum s e h50 hk' hr hlk
    have hq : ∀ q, law06_Do.l1 l (q + 1) ((i : Int), sum) = VM.ret sum := fun q => by
      unfold law06_Do.l1
      rw [decide_eq_false (by omega)]; rfl
    obtain ⟨k, rfl⟩ : ∃ q, k = q + 1 := ⟨k - 1, by omega⟩
    rw [hq]
    refine ⟨sum, s, rfl, hr, hlk, fun z => ⟨z, fun p hp => ⟨p, fun k2 h2 => ?_, hp⟩⟩⟩
    obtain ⟨k2, rfl⟩ : ∃ q, k2 = q + 1 := ⟨k2 - 1, by omega⟩
    rw [hq]; rfl
  | succ n ih =>
    intro k i sum s e h50 hk' hr hlk
    obtain ⟨k, rfl⟩ : ∃ q, k = q + 1 := ⟨k - 1, by omega⟩
    by_cases hi : i < l.length
    · have hmod : 0 ≤ l[i].N.tmod 4 ∧ l[i].N.tmod 4 < 4 := by
        have := hN l[i] (List.getElem_mem hi)
        rw [Int.tmod_eq_emod_of_nonneg this]; omega
      obtain ⟨j, hj, hj4⟩ : ∃ j : Nat, l[i].N.tmod 4 = j ∧ j < 4 := ⟨(l[i].N.tmod 4).toNat, by omega, by omega⟩
      have ej : w64 (w64 ((i : Int) + w64 (l[i].N.tmod 4)) + 1) = ((i + j + 1 : Nat) : Int) := by
        have q1 : w64 (j : Int) = j := w64_id (by omega) (by omega)
        have q2 : w64 ((i : Int) + j) = i + j := w64_id (by omega) (by omega)
        have q3 : w64 ((i : Int) + j + 1) = i + j + 1 := w64_id (by omega) (by omega)
        rw [hj, q1, q2, q3]; omega
      have hq : ∀ q, law06_Do.l1 l (q + 1) ((i : Int), sum) = VM.rd l[i].From fun x => bif l[i].Jump && (x.tmod 2 == 1) then law06_Do.l1 l q (((i + j + 1 : Nat) : Int), wu64 (wu64 (sum * 3) + x)) else bif !l[i].Look then VM.wr l[i].To (wu64 (x + l[i].N)) (law06_Do.l1 l q (((i + 1 : Nat) : Int), wu64 (wu64 (sum * 3) + x))) else law06_Do.l1 l q (((i + 1 : Nat) : Int), wu64 (wu64 (sum * 3) + x)) := fun q => by
        rw [law06_Do.l1, decide_eq_true (by omega), cond_true]
        simp only [at_nat hi, optB, ej, w64_nat (by omega : i < 1000000)]
      obtain ⟨g1, u1, _⟩ := hr.rd l[i].From
      have hlk1 : LackOk cells L (rdS s l[i].From).2.lack := by rw [u1]; exact hlk.upd _
      rw [hq, srunRd]
      generalize hx : (rdS s l[i].From).1 = x at *
      have hpl : (rdS s l[i].From).2.lack = -1 → ∀ p, Sim cells L val s p → x = pget p l[i].From ∧ Sim cells L val (rdS s l[i].From).2 p := fun z p hp => by
        rw [← hx]; exact hp.rd hk hr (by rw [← u1]; exact z)
      have hback : (rdS s l[i].From).2.lack = -1 → s.lack = -1 := fun z => (upd_m1 (by rw [← u1]; exact z)).1
      by_cases cj : (l[i].Jump && (x.tmod 2 == 1)) = true
      · rw [cj, cond_true]
        obtain ⟨r, s', p1, p2, p3, p4⟩ := ih k (i + j + 1) (wu64 (wu64 (sum * 3) + x)) (rdS s l[i].From).2 (by omega) (by omega) (by omega) g1 hlk1
        refine ⟨r, s', p1, p2, p3, fun z => ?_⟩
        obtain ⟨z1, z2⟩ := p4 z
        refine ⟨hback z1, fun p hp => ?_⟩
        obtain ⟨a1, a2⟩ := hpl z1 p hp
        obtain ⟨p', b1, b2⟩ := z2 p a2
        refine ⟨p', fun k2 h2 => ?_, b2⟩
        obtain ⟨k2, rfl⟩ : ∃ q, k2 = q + 1 := ⟨k2 - 1, by omega⟩
        rw [hq, pl_rd, ← a1, cj, cond_true]; exact b1 k2 (by omega)
      · have cj' : (l[i].Jump && (x.tmod 2 == 1)) = false := by simpa using cj
        rw [cj', cond_false]
        by_cases cl : l[i].Look = true
        · rw [cl]
          simp only [Bool.not_true, cond_false]
          obtain ⟨r, s', p1, p2, p3, p4⟩ := ih k (i + 1) (wu64 (wu64 (sum * 3) + x)) (rdS s l[i].From).2 (by omega) (by omega) (by omega) g1 hlk1
          refine ⟨r, s', p1, p2, p3, fun z => ?_⟩
          obtain ⟨z1, z2⟩ := p4 z
          refine ⟨hback z1, fun p hp => ?_⟩
          obtain ⟨a1, a2⟩ := hpl z1 p hp
          obtain ⟨p', b1, b2⟩ := z2 p a2
          refine ⟨p', fun k2 h2 => ?_, b2⟩
          obtain ⟨k2, rfl⟩ : ∃ q, k2 = q + 1 := ⟨k2 - 1, by omega⟩
          rw [hq, pl_rd, ← a1, cj', cond_false, cl]; exact b1 k2 (by omega)
        · have cl' : l[i].Look = false := by simpa using cl
          rw [cl']
          simp only [Bool.not_false, cond_true]
          rw [srunWr _ _ _ g1.ok]
          obtain ⟨g2, u2⟩ := g1.wr l[i].To (wu64 (x + l[i].N))
          obtain ⟨r, s', p1, p2, p3, p4⟩ := ih k (i + 1) (wu64 (wu64 (sum * 3) + x)) (wrS (rdS s l[i].From).2 l[i].To (wu64 (x + l[i].N))) (by omega) (by omega) (by omega) g2 (by rw [u2]; exact hlk1.upd _)
          refine ⟨r, s', p1, p2, p3, fun z => ?_⟩
          obtain ⟨z1, z2⟩ := p4 z
          rw [u2] at z1
          have z0 := (upd_m1 z1).1
          refine ⟨hback z0, fun p hp => ?_⟩
          obtain ⟨a1, a2⟩ := hpl z0 p hp
          obtain ⟨p', b1, b2⟩ := z2 _ (a2.wr (x := wu64 (x + l[i].N)) g1 z1)
          refine ⟨p', fun k2 h2 => ?_, b2⟩
          obtain ⟨k2, rfl⟩ : ∃ q, k2 = q + 1 := ⟨k2 - 1, by omega⟩
          rw [hq, pl_rd, ← a1, cj', cond_false, cl']
          simp only [Bool.not_false, cond_true]
          rw [pl_wr]; exact b1 k2 (by omega)
    · have hq : ∀ q, law06_Do.l1 l (q + 1) ((i : Int), sum) = VM.ret sum := fun q => by
        unfold law06_Do.l1
        rw [decide_eq_false (by omega)]; rfl
      rw [hq]
      refine ⟨sum, s, rfl, hr, hlk, fun z => ⟨z, fun p hp => ⟨p, fun k2 h2 => ?_, hp⟩⟩⟩
      obtain ⟨k2, rfl⟩ : ∃ q, k2 = q + 1 := ⟨k2 - 1, by omega⟩
      rw [hq]; rfl
end
end Go.Proofs
