/- The given statement 'TxLearns' of the given program: whatever the input, the law answers true and the input reads as it did. On no condition. -/
import Derived.Test.YtehemplabpjbgaaFnTxLearns2
import Derived.Test.YtehemplabpjbgaaFr2
import Derived.Test.YtehemplabpjbgaaPlTxLearns0
import Derived.Test.YtehemplabpjbgaaRows
set_option linter.all false
namespace Go.Proofs.Ytehemplabpjbgaa.txLearns
open Go.ChangeShapes Go.WideShapes Go.ChangeAt Go.RowKit Go.Sl
def wf_law06_Op (x : law06_Op) : Prop := (fun _ => True) x.Look ∧ (fun _ => True) x.Jump ∧ (fits .i64) x.From ∧ (fits .i64) x.To ∧ (fits .u64) x.N
theorem pa_law06_Op : Parse Try.prog 90 (fun x : law06_Op => [.bool x.Look, .bool x.Jump, .int .i64 x.From, .int .i64 x.To, .int .u64 x.N]) wf_law06_Op := by
  intro H enc w base sp hd n cs x h
  obtain ⟨xs, m, -, -, hl, hx, hf⟩ := DataW.trod_struct Try.underlying90 h
  rw [show Try.prog.cellsOf 90 = 5 by kernel_rfl] at hl
  obtain ⟨a0, e0, w0⟩ := parse_field (i := 0) (o := 0) (sz := 1) hx hf (parse_bool Try.underlying4) rfl rfl rfl (by kernel_rfl)
  obtain ⟨a1, e1, w1⟩ := parse_field (i := 1) (o := 1) (sz := 1) hx hf (parse_bool Try.underlying4) rfl rfl rfl (by kernel_rfl)
  obtain ⟨a2, e2, w2⟩ := parse_field (i := 2) (o := 2) (sz := 1) hx hf (parse_int Try.underlying3) rfl rfl rfl (by kernel_rfl)
  obtain ⟨a3, e3, w3⟩ := parse_field (i := 3) (o := 3) (sz := 1) hx hf (parse_int Try.underlying3) rfl rfl rfl (by kernel_rfl)
  obtain ⟨a4, e4, w4⟩ := parse_field (i := 4) (o := 4) (sz := 1) hx hf (parse_int Try.underlying35) rfl rfl rfl (by kernel_rfl)
  clear hf hx h
  match cs, hl with
  | [c0, c1, c2, c3, c4], _ =>
    simp at e0 e1 e2 e3 e4
    subst e0 e1 e2 e3 e4
    exact ⟨⟨a0, a1, a2, a3, a4⟩, rfl, w0, w1, w2, w3, w4⟩

open Go.Proofs
theorem up_ok : law06_up.f 2100 = some true := by decide +kernel
def cell (v : Int) : api_Cell := ⟨v, 0, 0⟩
theorem l1_ok (a : List Int) (h60 : a.length ≤ 60) : ∀ (n k i : Nat), i + n = a.length → n < k → law06_TxLearns.l1 a k (i, (a.take i).map cell ++ List.replicate (a.length - i) ⟨0, 0, 0⟩, 9) = some (a.map cell, 9) := by
  intro n
  induction n with
  | zero =>
    intro k i e hk
    obtain ⟨k, rfl⟩ : ∃ q, k = q + 1 := ⟨k - 1, by omega⟩
    unfold law06_TxLearns.l1
    rw [decide_eq_false (by omega), cond_false, List.take_of_length_le (by omega), show a.length - i = 0 by omega]; simp
  | succ n ih =>
    intro k i e hk
    obtain ⟨k, rfl⟩ : ∃ q, k = q + 1 := ⟨k - 1, by omega⟩
    unfold law06_TxLearns.l1
    have hi : i < a.length := by omega
    rw [decide_eq_true (by omega), cond_true, at_nat hi, Option.bind_some, w64_nat (by omega)]
    have hlen : ((a.take i).map cell ++ List.replicate (a.length - i) (⟨0, 0, 0⟩ : api_Cell)).length = a.length := by simp; omega
    have hget : ((a.take i).map cell ++ List.replicate (a.length - i) (⟨0, 0, 0⟩ : api_Cell))[i]'(by omega) = ⟨0, 0, 0⟩ := by
      rw [List.getElem_append_right (by rw [List.length_map, List.length_take]; omega)]; simp
    have hset : ((a.take i).map cell ++ List.replicate (a.length - i) (⟨0, 0, 0⟩ : api_Cell)).set i (cell a[i]) = (a.take (i + 1)).map cell ++ List.replicate (a.length - (i + 1)) ⟨0, 0, 0⟩ := by
      rw [List.set_append_right _ _ (by rw [List.length_map, List.length_take]; omega), List.take_succ_eq_append_getElem hi, List.map_append]
      have : i - ((a.take i).map cell).length = 0 := by simp; omega
      rw [this, show a.length - i = (a.length - (i + 1)) + 1 by omega, List.replicate_succ, List.set_cons_zero]
      simp
    have hS : word_Store_Set.f ⟨(a.take i).map cell ++ List.replicate (a.length - i) ⟨0, 0, 0⟩, 9⟩ i a[i] = some (none, ⟨(a.take (i + 1)).map cell ++ List.replicate (a.length - (i + 1)) ⟨0, 0, 0⟩, 9⟩) := by
      unfold word_Store_Set.f word_Store_has.f
      rw [decide_eq_true (by omega), cond_true, Option.bind_some, decide_eq_true (by dsimp only; omega)]
      simp only [Option.bind_some, Bool.not_true, cond_false]
      rw [at_nat (by omega), Option.bind_some, hget, Option.bind_some]
      simp only [bne_self_eq_false, cond_false, Int.toNat_natCast]
      rw [show (⟨a[i], 0, 0⟩ : api_Cell) = cell a[i] from rfl, hset]
    rw [hS, Option.bind_some]
    exact ih k (i + 1) (by omega) (by omega)
/-- What holds of the record, ahead of each run. -/
structure Hd (a : List Int) (t : tx_Tx) (L : List (Int × api_Cell)) (learnt : List Bool) (many : Int) : Prop where
  cells : t.cells = a.length
  l : t.l = some L
  ok : MOk L
  known : ∀ c z, mfind L c = some z → z = cell (a.getD c.toNat 0) ∧ 0 ≤ c ∧ c < (a.length : Int)
  len : learnt.length = a.length
  mark : ∀ c : Nat, c < a.length → learnt[c]? = some (mfind L (c : Int)).isSome
  many : many = L.length
theorem Hd.few {a : List Int} {t : tx_Tx} {L : List (Int × api_Cell)} {lt : List Bool} {m : Int} (h : Hd a t L lt m) : L.length ≤ a.length := by
  have hok : (L.map (·.1)).Nodup := h.ok
  have := nodup_few a.length (L.map (·.1)) hok (fun x hx => by
    obtain ⟨z, hz⟩ := (mfind_keys L x).1 hx
    exact (h.known x z hz).2)
  simpa using this
theorem Hd.kn {a : List Int} {t : tx_Tx} {L : List (Int × api_Cell)} {lt : List Bool} {m : Int} (h : Hd a t L lt m) : Known (a.length : Int) L (fun c => a.getD c.toNat 0) := fun c z hz => by
  obtain ⟨h1, h2⟩ := h.known c z hz
  exact ⟨by rw [h1]; rfl, h2⟩
/-- What the last run leaves. -/
structure Fin (a : List Int) (ops : List law06_Op) (L : List (Int × api_Cell)) (learnt : List Bool) (many told : Int) (s' : tx_Tx) : Prop where
  ok : MOk L
  known : ∀ c z, mfind L c = some z → z = cell (a.getD c.toNat 0) ∧ 0 ≤ c ∧ c < (a.length : Int)
  mark : ∀ c : Nat, c < a.length → learnt[c]? = some (mfind L (c : Int)).isSome
  many : many = L.length
  l : s'.l = some L
  fine : s'.fine = true
  plain : ∃ p', (∀ k2, 50 < k2 → VM.run plainI (law06_Do.f k2 ops) a = some (told, p')) ∧ Sim (a.length : Int) L (fun c => a.getD c.toNat 0) s' p'
theorem at_some' {α : Type} {l : List α} {c : Int} {x : α} (h0 : 0 ≤ c) (h : l[c.toNat]? = some x) : at_ l c = some x := by
  unfold at_; rw [decide_eq_true h0, cond_true, h]
theorem l2_ok (a : List Int) (h60 : 1 ≤ a.length ∧ a.length ≤ 60) (ops : List law06_Op) (h40 : ops.length ≤ 40) (hN : ∀ x ∈ ops, 0 ≤ x.N) : ∀ (n k : Nat) (told many : Int) (t : tx_Tx) (L : List (Int × api_Cell)) (lt : List Bool), Hd a t L lt many → a.length - L.length = n → n + 2050 < k →
    ∃ many' told' s' lt' L', law06_TxLearns.l2 a ops (a.map cell) 9 k (many, told, t.cells, t.l, t.out, t.lack, t.fine, lt) = some (Brk.nx (many', told', s'.cells, s'.l, s'.out, s'.lack, s'.fine, lt')) ∧ Fin a ops L' lt' many' told' s' := by
  intro n
  induction n using Nat.strongRecOn with
  | ind n ih =>
    intro k told many t L lt hd hn hk
    obtain ⟨k, rfl⟩ : ∃ q, k = q + 1 := ⟨k - 1, by omega⟩
    have hfew := hd.few
    have hcell : 0 ≤ t.cells ∧ t.cells ≤ 1024 := by rw [hd.cells]; omega
    have hst : Rn (a.length : Int) L { t with out := some [], lack := -1 } := by
      have := Rn.start hd.l hcell
      rw [hd.cells] at this; rw [hd.cells]; exact this
    obtain ⟨r, s', p1, p2, p3, p4⟩ := do_run hd.kn ops h40 hN 50 k 0 0 _ (by omega) (by omega) (by omega) hst (.inl rfl)
    rw [show ((0 : Nat) : Int) = 0 from rfl] at p1 p4
    have hrun : tx_Tx_Run.f (law06_TxLearns_1.f k ops told) t = some (if s'.lack = -1 then 0 else s'.lack, s'.lack == -1, r, { s' with fine := s'.lack == -1 }) := by
      rw [run_eq _ hcell]
      have : VM.run seenI (law06_TxLearns_1.f k ops told) { t with out := some [], lack := -1 } = some (r, s') := by
        unfold law06_TxLearns_1.f law06_Do.f
        rw [srunB, srunB, p1]; rfl
      rw [this]; rfl
    unfold law06_TxLearns.l2
    rw [show (⟨t.cells, t.l, t.out, t.lack, t.fine⟩ : tx_Tx) = t from rfl, hrun, Option.bind_some]
    dsimp only
    by_cases hz : s'.lack = -1
    · have hb : (s'.lack == -1) = true := by rw [hz]; rfl
      rw [hb, cond_true]
      obtain ⟨_, hp⟩ := p4 hz
      have sim0 : Sim (a.length : Int) L (fun c => a.getD c.toNat 0) { t with out := some [], lack := -1 } a := ⟨rfl, fun c c0 c1 => by unfold pget; rw [if_pos ⟨c0, c1⟩]; rfl, fun c v hv => by cases hv⟩
      obtain ⟨p', hp1, hp2⟩ := hp a sim0
      refine ⟨many, r, { s' with fine := true }, lt, L, rfl, hd.ok, hd.known, hd.mark, hd.many, p2.l, rfl, p', fun k2 h2 => ?_, ⟨hp2.len, hp2.get, hp2.keys⟩⟩
      unfold law06_Do.f
      rw [runB, hp1 k2 h2]; rfl
    · obtain ⟨c0, c1, c2⟩ : 0 ≤ s'.lack ∧ s'.lack < (a.length : Int) ∧ mfind L s'.lack = none := p3.resolve_left hz
      have hall : (s'.lack :: L.map (·.1)).length ≤ a.length := nodup_few a.length _ (List.nodup_cons.2 ⟨fun hm => (by obtain ⟨z, hz'⟩ := (mfind_keys L _).1 hm; rw [c2] at hz'; cases hz'), hd.ok⟩) (fun x hx => by
        rcases List.mem_cons.1 hx with rfl | hx
        · exact ⟨c0, c1⟩
        · obtain ⟨z, hz'⟩ := (mfind_keys L x).1 hx
          exact (hd.known x z hz').2)
      simp only [List.length_cons, List.length_map] at hall
      have hb : (s'.lack == -1) = false := beq_false_of_ne hz
      rw [hb, cond_false, if_neg hz, decide_eq_false (by omega), decide_eq_false (by omega), Bool.or_false, cond_false]
      have hent := entries_ok (t := { s' with fine := false }) p2.l (by omega) k (by omega)
      rw [if_neg (by simp)] at hent
      rw [hent]
      simp only [Option.bind_some, List.length_nil, Int.natCast_zero, bne_self_eq_false, cond_false]
      have hmark := hd.mark s'.lack.toNat (by omega)
      rw [show ((s'.lack.toNat : Nat) : Int) = s'.lack by omega, c2] at hmark
      rw [at_some' c0 hmark]
      simp only [Option.bind_some, Option.isSome_none, cond_false]
      have hget : at_ (a.map cell) s'.lack = some (cell (a.getD s'.lack.toNat 0)) := at_some' c0 (by
        rw [List.getElem?_map, List.getD, List.getElem?_eq_getElem (by omega : s'.lack.toNat < a.length)]; rfl)
      have hrd : word_Store_Read.f ⟨a.map cell, 9⟩ s'.lack = some (cell (a.getD s'.lack.toNat 0), none) := by
        unfold word_Store_Read.f word_Store_has.f
        rw [decide_eq_true c0, cond_true, Option.bind_some, decide_eq_true (by simp; omega)]
        simp only [Option.bind_some, Bool.not_true, cond_false]
        rw [hget]; rfl
      rw [hrd]
      have hm := hd.many
      have hmany : (w64 (w64 (many + 1) - 1)) = L.length := by
        have q1 : w64 (many + 1) = many + 1 := w64_id (by omega) (by omega)
        have q2 : w64 (many + 1 - 1) = many + 1 - 1 := w64_id (by omega) (by omega)
        rw [q1, q2]; omega
      simp only [Option.bind_some, Option.isSome_none, cond_false]
      rw [reads_ok (t := ⟨s'.cells, s'.l, s'.out, s'.lack, false⟩) p2.l, Option.bind_some, hmany, bne_self_eq_false, Option.bind_some, cond_false, learn_ok (t := ⟨s'.cells, s'.l, s'.out, s'.lack, false⟩) p2.l (by omega) (by dsimp only; rw [p2.cells]; omega), if_pos ⟨c0, by dsimp only; rw [p2.cells]; exact c1⟩, Option.bind_some]
      have e1 : w64 (many + 1) = many + 1 := w64_id (by omega) (by omega)
      rw [e1]
      have hd2 : Hd a { s' with fine := false, l := some (mset L s'.lack (cell (a.getD s'.lack.toNat 0))) } (mset L s'.lack (cell (a.getD s'.lack.toNat 0))) (lt.set s'.lack.toNat true) (many + 1) := by
        have hl9 : (mset L s'.lack (cell (a.getD s'.lack.toNat 0))).length = L.length + 1 := by
          have h9 := congrArg List.length (msetKeys L s'.lack (cell (a.getD s'.lack.toNat 0)))
          rw [if_neg (fun hm => by obtain ⟨z, hz'⟩ := (mfind_keys L _).1 hm; rw [c2] at hz'; cases hz')] at h9
          simpa using h9
        refine ⟨p2.cells, rfl, hd.ok.set _ _, fun c z hcz => ?_, by rw [List.length_set]; exact hd.len, fun c hc => ?_, by rw [hl9]; omega⟩
        · rw [mfind_set] at hcz
          by_cases q : c = s'.lack
          · rw [if_pos q] at hcz; injection hcz with hcz; subst hcz; rw [q]; exact ⟨rfl, c0, c1⟩
          · rw [if_neg q] at hcz; exact hd.known c z hcz
        · rw [mfind_set]
          by_cases q : (c : Int) = s'.lack
          · rw [if_pos q, List.getElem?_set, if_pos (by omega), if_pos (by rw [hd.len]; omega)]; rfl
          · rw [if_neg q, List.getElem?_set_ne (by omega)]; exact hd.mark c hc
      have hl9 : (mset L s'.lack (cell (a.getD s'.lack.toNat 0))).length = L.length + 1 := by
        have := hd2.many; omega
      obtain ⟨many', told', s2, lt', L', w1, w3⟩ := ih (n - 1) (by omega) k r (many + 1) _ _ _ hd2 (by omega) (by omega)
      exact ⟨many', told', s2, lt', L', w1, w3⟩
theorem pread (p : List Int) (i : Int) : view_Plain_Read.f p i = some (pget p i) := by
  obtain ⟨r, hr⟩ := read_ok p i
  have h := pl_rd i (fun x => VM.ret x) p
  have h2 : VM.run plainI (VM.rd i (fun x => VM.ret x)) p = some ((view_Plain_Read.f p i).getD 0, p) := rfl
  rw [h2] at h
  have h3 : VM.run plainI (VM.ret (pget p i)) p = some (pget p i, p) := rfl
  rw [h3, hr] at h
  injection h with h; injection h with h _
  rw [hr]; exact congrArg some h
/-- What is told of the entry of a cell that was learnt. -/
theorem ent_ok {a : List Int} {L : List (Int × api_Cell)} (hkn : ∀ c z, mfind L c = some z → z = cell (a.getD c.toNat 0) ∧ 0 ≤ c ∧ c < (a.length : Int)) (out : Option (List (Int × Int))) {c : Int} (hc : c ∈ skeys L) :
    (entOf out ⟨c, (mfind L c).getD ⟨0, 0, 0⟩⟩).Cell = c ∧ (entOf out ⟨c, (mfind L c).getD ⟨0, 0, 0⟩⟩).Old = a.getD c.toNat 0 ∧ (entOf out ⟨c, (mfind L c).getD ⟨0, 0, 0⟩⟩).Version = 0 ∧ (entOf out ⟨c, (mfind L c).getD ⟨0, 0, 0⟩⟩).New = (mfindO out c).getD (a.getD c.toNat 0) ∧
    ((entOf out ⟨c, (mfind L c).getD ⟨0, 0, 0⟩⟩).Write != ((entOf out ⟨c, (mfind L c).getD ⟨0, 0, 0⟩⟩).Old != (entOf out ⟨c, (mfind L c).getD ⟨0, 0, 0⟩⟩).New)) = false ∧ 0 ≤ c ∧ c < (a.length : Int) := by
  obtain ⟨z, hz⟩ := (skeys_mem L c).1 hc
  obtain ⟨h1, h2⟩ := hkn c z hz
  rw [hz, Option.getD_some, h1]
  unfold entOf cell
  dsimp only
  cases mfindO out c with
  | none => exact ⟨rfl, rfl, rfl, rfl, by simp, h2⟩
  | some v => exact ⟨rfl, rfl, rfl, rfl, by dsimp only; cases h : (v != a.getD c.toNat 0) <;> simp_all [bne_comm], h2⟩
theorem l3_ok (a : List Int) (h60 : a.length ≤ 60) {L : List (Int × api_Cell)} (hok : MOk L) (hkn : ∀ c z, mfind L c = some z → z = cell (a.getD c.toNat 0) ∧ 0 ≤ c ∧ c < (a.length : Int)) (hfew : L.length ≤ a.length) {lt : List Bool} (hm : ∀ c : Nat, c < a.length → lt[c]? = some (mfind L (c : Int)).isSome) (out : Option (List (Int × Int))) (es : List tx_Entry) (hes : es = (cellsOf L).map (entOf out)) :
    ∀ (n k i : Nat) (q : List Int), i + n = es.length → n < k → q.length = a.length → (∀ j : Nat, j < a.length → q.getD j 0 = if (j : Int) ∈ (skeys L).take i then (mfindO out j).getD (a.getD j 0) else a.getD j 0) →
    ∃ q', law06_TxLearns.l3 a lt es k (i, q) = some (Brk.nx q') ∧ q'.length = a.length ∧ ∀ j : Nat, j < a.length → q'.getD j 0 = if (j : Int) ∈ skeys L then (mfindO out j).getD (a.getD j 0) else a.getD j 0 := by
  have hel : es.length = (skeys L).length := by rw [hes, List.length_map]; unfold cellsOf; rw [List.length_map]
  have hsl : (skeys L).length ≤ 60 := by rw [skeys_len]; omega
  intro n
  induction n with
  | zero =>
    intro k i q e hk hq hi'
    obtain ⟨k, rfl⟩ : ∃ q, k = q + 1 := ⟨k - 1, by omega⟩
    unfold law06_TxLearns.l3
    rw [decide_eq_false (by omega)]
    refine ⟨q, rfl, hq, fun j hj => ?_⟩
    rw [hi' j hj, List.take_of_length_le (by omega)]
  | succ n ih =>
    intro k i q e hk hq hi'
    obtain ⟨k, rfl⟩ : ∃ q, k = q + 1 := ⟨k - 1, by omega⟩
    unfold law06_TxLearns.l3
    have hi : i < es.length := by omega
    have hsi : i < (skeys L).length := by omega
    have hE : es[i] = entOf out ⟨(skeys L)[i], (mfind L (skeys L)[i]).getD ⟨0, 0, 0⟩⟩ := by
      subst hes; simp [cellsOf]
    obtain ⟨t1, t2, t3, t4, t5, t6, t7⟩ := ent_ok hkn out (List.getElem_mem hsi)
    rw [← hE] at t1 t2 t3 t4 t5
    generalize hc : (skeys L)[i] = c at *
    rw [decide_eq_true (by omega), cond_true, at_nat hi, Option.bind_some, t1, decide_eq_false (by omega), decide_eq_false (by omega), cond_false, cond_false, w64_nat (by omega)]
    have hA : at_ a c = some (a.getD c.toNat 0) := at_some' t6 (by rw [List.getD, List.getElem?_eq_getElem (by omega : c.toNat < a.length)]; rfl)
    have htail : ((at_ a c).bind fun x126 => bif es[i].Old != x126 then (some true) else (bif es[i].Version != 0 then (some true) else (some (es[i].Write != (es[i].Old != es[i].New))))) = some false := by
      rw [hA, Option.bind_some, t2, bne_self_eq_false, cond_false, t3, ← t2, t5]; rfl
    have hmid : (bif decide ((0 : Int) < i) then ((at_ es (w64 ((i : Int) - 1))).bind fun x123 => bif decide (c ≤ x123.Cell) then (some true) else ((at_ a c).bind fun x126 => bif es[i].Old != x126 then (some true) else (bif es[i].Version != 0 then (some true) else (some (es[i].Write != (es[i].Old != es[i].New)))))) else ((at_ a c).bind fun x130 => bif es[i].Old != x130 then (some true) else (bif es[i].Version != 0 then (some true) else (some (es[i].Write != (es[i].Old != es[i].New)))))) = some false := by
      by_cases c0 : i = 0
      · rw [decide_eq_false (by omega), cond_false, htail]
      · have e3 : w64 ((i : Int) - 1) = ((i - 1 : Nat) : Int) := by rw [w64_id (by omega) (by omega)]; omega
        have hsj : i - 1 < (skeys L).length := by omega
        have hE2 : es[i - 1]'(by omega) = entOf out ⟨(skeys L)[i - 1], (mfind L (skeys L)[i - 1]).getD ⟨0, 0, 0⟩⟩ := by
          subst hes; simp [cellsOf]
        have u1 := (ent_ok hkn out (List.getElem_mem hsj)).1
        rw [← hE2] at u1
        have hlt := (List.pairwise_iff_getElem.1 (skeys_sorted hok)) (i - 1) i hsj hsi (by omega)
        rw [hc] at hlt
        rw [decide_eq_true (by omega), cond_true, e3, at_nat (by omega : i - 1 < es.length), Option.bind_some, u1, decide_eq_false (by omega), cond_false, htail]
    rw [hmid, Option.bind_some, cond_false]
    have hmk := hm c.toNat (by omega)
    rw [show ((c.toNat : Nat) : Int) = c by omega] at hmk
    have hin : ∃ z, mfind L c = some z := (skeys_mem L c).1 (by rw [← hc]; exact List.getElem_mem hsi)
    obtain ⟨z, hz⟩ := hin
    rw [hz] at hmk
    rw [at_some' t6 hmk, Option.bind_some]
    simp only [Option.isSome_some, Bool.not_true, cond_false]
    have hQ : at_ q c = some (q.getD c.toNat 0) := at_some' t6 (by rw [List.getD, List.getElem?_eq_getElem (by omega : c.toNat < q.length)]; rfl)
    rw [hQ, Option.bind_some, t4]
    refine ih k (i + 1) _ (by omega) (by omega) (by rw [List.length_set]; exact hq) (fun j hj => ?_)
    rw [getD_set, List.take_succ_eq_append_getElem hsi, hc]
    by_cases ej : c.toNat = j
    · have ejc : (j : Int) = c := by omega
      rw [if_pos ⟨ej, by omega⟩, if_pos (by rw [ejc]; simp), ejc, ej]
    · rw [if_neg (fun z => ej z.1), hi' j hj]
      have : ((j : Int) ∈ List.take i (skeys L) ++ [c]) ↔ (j : Int) ∈ List.take i (skeys L) := by
        rw [List.mem_append, List.mem_singleton]
        exact ⟨fun z => z.resolve_right (by omega), .inl⟩
      by_cases cm : (j : Int) ∈ List.take i (skeys L)
      · rw [if_pos cm, if_pos (this.2 cm)]
      · rw [if_neg cm, if_neg (fun z => cm (this.1 z))]
theorem l5_ok (a p q : List Int) (h60 : a.length ≤ 60) (hq : q.length = a.length) (he : ∀ j : Nat, j < a.length → q.getD j 0 = pget p j) : ∀ (n k i : Nat), i + n = a.length → n < k → law06_TxLearns.l5 a p q k i = some (Brk.nx ()) := by
  intro n
  induction n with
  | zero =>
    intro k i e hk
    obtain ⟨k, rfl⟩ : ∃ q, k = q + 1 := ⟨k - 1, by omega⟩
    unfold law06_TxLearns.l5
    rw [decide_eq_false (by omega)]; rfl
  | succ n ih =>
    intro k i e hk
    obtain ⟨k, rfl⟩ : ∃ q, k = q + 1 := ⟨k - 1, by omega⟩
    unfold law06_TxLearns.l5
    have hi : i < q.length := by omega
    have := he i (by omega)
    rw [List.getD, List.getElem?_eq_getElem hi, Option.getD_some] at this
    rw [decide_eq_true (by omega), cond_true, at_nat hi, Option.bind_some, pread, Option.bind_some, this, bne_self_eq_false, cond_false, w64_nat (by omega)]
    exact ih k (i + 1) (by omega) (by omega)
theorem ok (a0 : List Int) (a1 : List law06_Op) (w0 : ∀ x ∈ a0, (Lit.int .u64 x).wf = true) (w1 : ∀ x ∈ a1, wf_law06_Op x) : ∃ k, law06_TxLearns.f k a0 a1 = some true := by
  have hN : ∀ x ∈ a1, 0 ≤ x.N := fun x hx => by
    have := w1 x hx
    unfold wf_law06_Op at this
    have h9 : (Lit.int .u64 x.N).wf = true := this.2.2.2.2
    simp [Lit.wf, IntKind.min, IntKind.max, IntKind.signed, IntKind.bits] at h9
    exact h9.1
  refine ⟨2200, ?_⟩
  unfold law06_TxLearns.f
  rw [show law06_up.f 2200 = some true by decide +kernel, Option.bind_some]
  by_cases hg : (a0.length : Int) < 1 ∨ (60 : Int) < (a0.length : Int) ∨ (40 : Int) < (a1.length : Int)
  · have : (((decide ((a0.length : Int) < 1)) || (decide (60 < (a0.length : Int)))) || (decide (40 < (a1.length : Int)))) = true := by
      rcases hg with h | h | h
      · rw [decide_eq_true h]; rfl
      · rw [decide_eq_true h, Bool.or_true]; rfl
      · rw [decide_eq_true (p := (40 : Int) < _) h, Bool.or_true]
    rw [this]; rfl
  have hc8 : (((decide ((a0.length : Int) < 1)) || (decide (60 < (a0.length : Int)))) || (decide (40 < (a1.length : Int)))) = false := by
    rw [decide_eq_false (by omega), decide_eq_false (by omega), decide_eq_false (by omega)]; rfl
  rw [hc8, cond_false]
  have hmk : mk_ (⟨0, 0, 0⟩ : api_Cell) (a0.length : Int) = some (List.replicate a0.length ⟨0, 0, 0⟩) := by
    unfold mk_; rw [decide_eq_true (by omega), decide_eq_true (by omega)]; rfl
  have hmkb : mk_ false (a0.length : Int) = some (List.replicate a0.length false) := by
    unfold mk_; rw [decide_eq_true (by omega), decide_eq_true (by omega)]; rfl
  have hnew : word_New.f (a0.length : Int) 9 = some (some ⟨List.replicate a0.length ⟨0, 0, 0⟩, 9⟩, none) := by
    unfold word_New.f
    rw [decide_eq_false (by omega), decide_eq_false (by omega), hmk]; rfl
  rw [hnew, Option.bind_some]
  have hl1 := l1_ok a0 (by omega) a0.length 2200 0 (Nat.zero_add _) (by omega)
  rw [show ((0 : Nat) : Int) = 0 from rfl, List.take_zero, List.map_nil, List.nil_append, Nat.sub_zero] at hl1
  simp only [oE, tx_New.f, Option.bind_some, Option.isSome_none, Bool.or_false, cond_false, hl1, hmkb]
  have hd0 : Hd a0 ⟨a0.length, some [], none, 0, false⟩ [] (List.replicate a0.length false) 0 := ⟨rfl, rfl, MOk.nil, fun c z h => (by cases h), by simp, fun c hc => (by rw [List.getElem?_replicate, if_pos hc]; rfl), rfl⟩
  obtain ⟨many', told', s', lt', L', w1, w2⟩ := l2_ok a0 (by omega) a1 (by omega) hN (a0.length - 0) 2200 0 0 _ [] _ hd0 (by simp) (by omega)
  dsimp only at w1
  rw [w1, Option.bind_some]
  obtain ⟨p', hp1, hp2⟩ := w2.plain
  have happ : app [] a0 = some a0 := by
    have e : ([] : List Int).length + a0.length ≤ 4294967296 := by simp; omega
    unfold app; rw [decide_eq_true e]; rfl
  have hfew : L'.length ≤ a0.length := by
    have hok : (L'.map (·.1)).Nodup := w2.ok
    have := nodup_few a0.length (L'.map (·.1)) hok (fun x hx => by
      obtain ⟨z, hz⟩ := (mfind_keys L' x).1 hx
      exact (w2.known x z hz).2)
    simpa using this
  simp only [Brk.go, happ, Option.bind_some, hp1 2200 (by omega), bne_self_eq_false, cond_false]
  have hent := entries_ok (t := ⟨s'.cells, s'.l, s'.out, s'.lack, s'.fine⟩) w2.l (by omega) 2200 (by omega)
  dsimp only at hent
  rw [hent, if_pos w2.fine]
  simp only [Option.bind_some]
  have hlen : (((cellsOf L').map (entOf s'.out)).length : Int) = many' := by
    rw [w2.many]; unfold cellsOf; rw [List.length_map, List.length_map, skeys_len]
  rw [hlen, bne_self_eq_false, cond_false, reads_ok (t := ⟨s'.cells, s'.l, s'.out, s'.lack, s'.fine⟩) w2.l, Option.bind_some, ← w2.many, bne_self_eq_false, Option.bind_some, cond_false]
  obtain ⟨q', q1, q2, q3⟩ := l3_ok a0 (by omega) w2.ok w2.known hfew w2.mark s'.out _ rfl ((cellsOf L').map (entOf s'.out)).length 2200 0 a0 (Nat.zero_add _) (by have := w2.many; omega) rfl (fun j hj => by rw [List.take_zero, if_neg (by simp)])
  rw [show ((0 : Nat) : Int) = 0 from rfl] at q1
  rw [q1, Option.bind_some]
  have hq : ∀ j : Nat, j < a0.length → q'.getD j 0 = pget p' j := fun j hj => by
    rw [q3 j hj, hp2.get j (by omega) (by omega)]
    split
    · rfl
    · rename_i hno
      cases ho : mfindO s'.out j with
      | none => rfl
      | some v =>
        obtain ⟨z, hz⟩ := hp2.keys j v ho
        exact absurd ((skeys_mem L' j).2 ⟨z, hz⟩) hno
  have h5 := l5_ok a0 p' q' (by omega) q2 hq a0.length 2200 0 (Nat.zero_add _) (by omega)
  rw [show ((0 : Nat) : Int) = 0 from rfl] at h5
  dsimp only
  rw [h5]; rfl

theorem own : ownKnob Try.prog.godebug = none := by kernel_rfl
theorem laidOut : laidOutB Try.prog = true := by kernel_rfl
set_option maxRecDepth 100000 in
theorem lifted (os : Os) (started : os.Started) (H : Type) (enc : TypeId × Value → H) :
    ReturnsInHanded {} Try.checked os 5 .any (Rows.txLearnsSpec.pre6 enc Try.prog Try.f5 Rows.txLearnsRow.domain false) (Rows.txLearnsSpec.post enc Try.prog Try.f5 false true false false) := by
  refine returnsInHanded_of_change (C := Try.checked) own started (by kernel_rfl) Try.func5
    (ChangeSpec.witness6 (enc := enc) (C := Try.checked) false ⟨#[], #[.slice none 0 0, .slice none 0 0], []⟩ 8 (by kernel_rfl) (by kernel_rfl) (by kernel_rfl) (by kernel_rfl)) ?_
  intro W base args ds gs before hval0 hW hcnd _
  have hval : ∀ (j : Nat) t v, Try.f5.params[j]? = some t → args[j]? = some v → Value.okWide Try.prog W .any base t v := hval0
  have hW' := hW
  obtain ⟨p, q, hA0, hV, rfl, hfz, hnd⟩ := hW
  have hA : DataW.TrodAll enc Try.prog W 0 (fun _ => true) true Try.f5.params.toList args.toList ds p := hA0
  rw [Try.params5] at hA hval
  obtain ⟨v0, vs0, d0, ds0, p0, q0, hargs, rfl, rfl, h0, r0⟩ := trodAll_cons hA
  obtain ⟨v1, vs1, d1, ds1, p1, q1, rfl, rfl, rfl, h1, r1⟩ := trodAll_cons r0
  obtain ⟨rfl, rfl, rfl⟩ := trodAll_nil r1
  obtain rfl : args = #[v0, v1] := by cases args; simp_all
  obtain ⟨rfl, rfl⟩ := trodVars_none hV
  obtain ⟨a0, r0', w0, _⟩ := open_sl (K := ekI .u64) (parse_int Try.underlying35) Try.underlying48 (by kernel_rfl) (hval 0 48 v0 rfl rfl) h0
  obtain ⟨a1, r1', w1, _⟩ := open_sl (K := ek_law06_Op) pa_law06_Op Try.underlying49 (by kernel_rfl) (hval 1 49 v1 rfl rfl) h1
  obtain ⟨k, hk⟩ := ok a0 a1 w0 w1
  refine (Ct.law (law06_TxLearns.ct _ _ _ a0 a1 _ hk) (W := W) ⟨r0', r1'⟩).mono fun e W' ⟨he, hg⟩ => ?_
  subst he
  exact ⟨_, rfl, law_post hW' laidOut (by kernel_rfl) hg (by kernel_rfl) Try.underlying4 rfl rfl⟩
theorem over : Rows.txLearnsRow.holds Try.pinned (OpenSpec.ofChange Rows.txLearnsSpec) :=
  OpenClaim.holds_of_wide 5 Try.f5 rfl rfl rfl rfl rfl rfl rfl ⟨rfl, rfl, rfl, rfl, rfl⟩ rfl rfl rfl rfl rfl (by kernel_rfl) Try.func5 (by kernel_rfl)
    (of_decide_eq_true (by kernel_rfl)) (by unfold Func.isWrapper; first | (rw [if_pos (by decide +kernel)]; kernel_rfl) | (rw [if_neg (by decide +kernel)]; exact ⟨rfl, rfl⟩))
    (fun os started H enc _ => lifted os started H enc)
theorem proved : Rows.TxLearnsSaid :=
  over
#print axioms proved
end Go.Proofs.Ytehemplabpjbgaa.txLearns
