/- The given statement 'TxFirst' of the given program: whatever the input, the law answers true and the input reads as it did. On no condition. -/
import Derived.Test.YtehemplabpjbgaaFnTxFirst1
import Derived.Test.YtehemplabpjbgaaFr2
import Derived.Test.YtehemplabpjbgaaPlTxFirst0
import Derived.Test.YtehemplabpjbgaaRows
set_option linter.all false
namespace Go.Proofs.Ytehemplabpjbgaa.txFirst
open Go.ChangeShapes Go.WideShapes Go.ChangeAt Go.RowKit Go.Sl

open Go.Proofs
theorem up_ok : law06_up.f 2100 = some true := by decide +kernel
structure LM (n : Nat) (L : List (Int × api_Cell)) (M : List (Int × Bool)) : Prop where
  okL : MOk L
  okM : MOk M
  lenL : L.length ≤ n
  lenM : M.length ≤ n
  same : ∀ x, (∃ v, mfind L x = some v) ↔ ∃ v, mfind M x = some v
  tru : ∀ x v, mfind M x = some v → v = true
theorem LM.len {n : Nat} {L : List (Int × api_Cell)} {M : List (Int × Bool)} (h : LM n L M) : L.length = M.length := by
  have : (L.map (·.1)).Perm (M.map (·.1)) := (List.perm_ext_iff_of_nodup h.okL h.okM).2 fun x => by rw [mfind_keys, mfind_keys, h.same]
  simpa using this.length_eq
theorem LM.none_iff {n : Nat} {L : List (Int × api_Cell)} {M : List (Int × Bool)} (h : LM n L M) (x : Int) : (mfind M x).getD false = (mfind L x).isSome := by
  cases hm : mfind M x with
  | none =>
    cases hl : mfind L x with
    | none => rfl
    | some v => obtain ⟨u, hu⟩ := (h.same x).1 ⟨v, hl⟩; rw [hm] at hu; cases hu
  | some u =>
    obtain ⟨v, hv⟩ := (h.same x).2 ⟨u, hm⟩
    rw [hv, h.tru x u hm]; rfl
theorem LM.put {n : Nat} {L : List (Int × api_Cell)} {M : List (Int × Bool)} (h : LM n L M) (x : Int) (c : api_Cell) : LM (n + 1) (mset L x c) (mset M x true) := by
  refine ⟨h.okL.set _ _, h.okM.set _ _, by have := mset_len L x c; have := h.lenL; omega, by have := mset_len M x true; have := h.lenM; omega, fun y => ?_, fun y v hy => ?_⟩
  · rw [mfind_set, mfind_set]
    by_cases e : y = x
    · simp [e]
    · rw [if_neg e, if_neg e]; exact h.same y
  · rw [mfind_set] at hy
    by_cases e : y = x
    · rw [if_pos e] at hy; injection hy with hy; exact hy.symm
    · rw [if_neg e] at hy; exact h.tru y v hy
theorem l1_ok (cells : Int) (hc : 1 ≤ cells ∧ cells ≤ 100) (kn : List Int) (hk50 : kn.length ≤ 50) : ∀ (n k i : Nat) (L : List (Int × api_Cell)) (M : List (Int × Bool)), i + n = kn.length → n < k → LM i L M →
    ∃ L' M', law06_TxFirst.l1 cells kn k (i, cells, some L, none, 0, false, some M) = some (cells, some L', none, 0, false, some M') ∧ LM kn.length L' M' := by
  intro n
  induction n with
  | zero =>
    intro k i L M e hk h
    obtain ⟨k, rfl⟩ : ∃ q, k = q + 1 := ⟨k - 1, by omega⟩
    unfold law06_TxFirst.l1
    rw [decide_eq_false (by omega)]
    have : i = kn.length := by omega
    subst this
    exact ⟨L, M, rfl, h⟩
  | succ n ih =>
    intro k i L M e hk h
    obtain ⟨k, rfl⟩ : ∃ q, k = q + 1 := ⟨k - 1, by omega⟩
    unfold law06_TxFirst.l1
    have hi : i < kn.length := by omega
    have hL := h.lenL
    have hM := h.lenM
    rw [decide_eq_true (by omega), cond_true]
    simp only [at_nat hi, Option.bind_some, w64_nat (by omega : i < 1000000)]
    rw [learn_ok (t := ⟨cells, some L, none, 0, false⟩) rfl (by omega) (by dsimp only; omega)]
    by_cases hin : 0 ≤ kn[i] ∧ kn[i] < cells
    · rw [if_pos hin, decide_eq_true hin.1, decide_eq_true hin.2]
      have hp : mputO (some M) kn[i] true = some (some (mset M kn[i] true)) := by
        simp only [mputO, Option.bind_some, mput, wfI64 (i := kn[i]) (by omega) (by omega), Bool.true_and]
        rw [decide_eq_true (by omega)]; rfl
      simp only [Option.bind_some, cond_true, hp]
      exact ih k (i + 1) _ _ (by omega) (by omega) (h.put _ _)
    · rw [if_neg hin]
      have hj : (bif decide (0 ≤ kn[i]) then (some (decide (kn[i] < cells))) else (some false)) = some false := by
        by_cases c : 0 ≤ kn[i]
        · rw [decide_eq_true c, decide_eq_false (by omega)]; rfl
        · rw [decide_eq_false c]; rfl
      simp only [Option.bind_some, hj, cond_false]
      exact ih k (i + 1) L M (by omega) (by omega) ⟨h.okL, h.okM, by omega, by omega, h.same, h.tru⟩
/-- Run and reckoning go on alike. -/
theorem l3_ok (cells : Int) (hc : 1 ≤ cells ∧ cells ≤ 100) (l : List Int) (hl50 : l.length ≤ 50) {N : Nat} {L : List (Int × api_Cell)} {M : List (Int × Bool)} (h : LM N L M) : ∀ (n k i : Nat) (s : tx_Tx), i + n = l.length → n < k → Rn cells L s → (s.lack = -1 ∨ 0 ≤ s.lack) →
    ∃ w s', law06_TxFirst.l3 cells l (some M) k (i, s.lack) = some w ∧ VM.run seenI (law06_TxFirst_1.l1 l cells k (i, 0)) s = some (0, s') ∧ Rn cells L s' ∧ s'.lack = w ∧ (w = -1 ∨ 0 ≤ w) := by
  intro n
  induction n with
  | zero =>
    intro k i s e hk hs hw
    obtain ⟨k, rfl⟩ : ∃ q, k = q + 1 := ⟨k - 1, by omega⟩
    unfold law06_TxFirst.l3 law06_TxFirst_1.l1
    rw [decide_eq_false (by omega)]
    exact ⟨s.lack, s, rfl, rfl, hs, rfl, hw⟩
  | succ n ih =>
    intro k i s e hk hs hw
    obtain ⟨k, rfl⟩ : ∃ q, k = q + 1 := ⟨k - 1, by omega⟩
    unfold law06_TxFirst.l3 law06_TxFirst_1.l1
    have hi : i < l.length := by omega
    rw [decide_eq_true (by omega), cond_true, cond_true]
    simp only [at_nat hi, Option.bind_some, w64_nat (by omega : i < 1000000)]
    -- what the write does
    have e1 : ∃ s1, VM.run seenI (bif (i : Int).tmod 2 == 1 then ((VM.opt (some l[i])).bind fun x3 => VM.wr x3 5 (VM.ret ())) else (VM.ret ())) s = some ((), s1) ∧ Rn cells L s1 ∧ (s1.lack = s.lack ∨ s1.lack = upd cells L s.lack l[i]) := by
      cases (i : Int).tmod 2 == 1 with
      | false => exact ⟨s, rfl, hs, .inl rfl⟩
      | true =>
        obtain ⟨q1, q2⟩ := hs.wr l[i] 5
        refine ⟨wrS s l[i] 5, ?_, q1, .inr q2⟩
        rw [cond_true, srunB, srunO]
        simp only [Option.map_some, Option.bind_some]
        rw [srunWr _ _ _ hs.ok]; rfl
    obtain ⟨s1, r1, g1, u1⟩ := e1
    -- what is outside reads 0
    have e2 : ∃ s2, VM.run seenI ((VM.opt (some l[i])).bind fun x7 => bif decide (x7 < 0) then ((VM.opt (some l[i])).bind fun x10 => VM.rd x10 fun t12 => VM.ret (t12 != 0)) else ((VM.opt (some l[i])).bind fun x15 => bif decide (cells ≤ x15) then ((VM.opt (some l[i])).bind fun x18 => VM.rd x18 fun t20 => VM.ret (t20 != 0)) else (VM.ret false))) s1 = some (false, s2) ∧ Rn cells L s2 ∧ (s2.lack = s1.lack ∨ s2.lack = upd cells L s1.lack l[i]) := by
      obtain ⟨q1, q2, _⟩ := g1.rd l[i]
      have hrd : ∀ (hout : ¬ (0 ≤ l[i] ∧ l[i] < cells)), VM.run seenI ((VM.opt (some l[i])).bind fun x10 => VM.rd x10 fun t12 => VM.ret (t12 != 0)) s1 = some (false, (rdS s1 l[i]).2) := fun hout => by
        rw [srunB, srunO]
        simp only [Option.map_some, Option.bind_some]
        rw [srunRd, rdS_out g1.l (by rw [g1.cells]; exact hout)]; rfl
      rw [srunB, srunO]
      simp only [Option.map_some, Option.bind_some]
      by_cases c1 : l[i] < 0
      · rw [decide_eq_true c1, cond_true, hrd (by omega)]
        exact ⟨_, rfl, q1, .inr q2⟩
      · rw [decide_eq_false c1, cond_false, srunB, srunO]
        simp only [Option.map_some, Option.bind_some]
        by_cases c2 : cells ≤ l[i]
        · rw [decide_eq_true c2, cond_true, hrd (by omega)]
          exact ⟨_, rfl, q1, .inr q2⟩
        · rw [decide_eq_false c2]
          exact ⟨s1, rfl, g1, .inl rfl⟩
    obtain ⟨s2, r2, g2, u2⟩ := e2
    obtain ⟨g3, u3, _⟩ := g2.rd l[i]
    have hlast : (rdS s2 l[i]).2.lack = upd cells L s.lack l[i] := by
      rw [u3]
      rcases u1 with u1 | u1 <;> rcases u2 with u2 | u2 <;> simp only [u1, u2, upd_upd]
    -- the reckoning
    have hw2 : (bif decide (s.lack < 0) then (bif decide (0 ≤ l[i]) then (bif decide (l[i] < cells) then ((lk1 (some M) l[i] (false : Bool)).bind fun x43 => some (!x43)) else (some false)) else (some false)) else (some false)) = some (decide ((0 ≤ l[i] ∧ l[i] < cells) ∧ mfind L l[i] = none ∧ s.lack = -1)) := by
      by_cases c0 : s.lack < 0
      · rw [decide_eq_true c0, cond_true]
        by_cases c1 : 0 ≤ l[i]
        · rw [decide_eq_true c1, cond_true]
          by_cases c2 : l[i] < cells
          · rw [decide_eq_true c2, cond_true]
            simp only [lk1, mfindO, Option.bind_some, h.none_iff]
            cases hf : mfind L l[i] with
            | none => rw [decide_eq_true ⟨⟨c1, c2⟩, rfl, by omega⟩]; rfl
            | some v => rw [decide_eq_false (by rintro ⟨_, z, _⟩; cases z)]; rfl
          · rw [decide_eq_false c2, decide_eq_false (p := (0 ≤ l[i] ∧ l[i] < cells) ∧ mfind L l[i] = none ∧ s.lack = -1) (fun z => c2 z.1.2)]; rfl
        · rw [decide_eq_false c1, decide_eq_false (p := (0 ≤ l[i] ∧ l[i] < cells) ∧ mfind L l[i] = none ∧ s.lack = -1) (fun z => c1 z.1.1)]; rfl
      · rw [decide_eq_false c0, decide_eq_false (p := (0 ≤ l[i] ∧ l[i] < cells) ∧ mfind L l[i] = none ∧ s.lack = -1) (fun z => c0 (by have := z.2.2; omega))]; rfl
    rw [srunB, r1]
    simp only [Option.bind_some]
    rw [srunB, r2]
    simp only [Option.bind_some, cond_false]
    rw [srunB, srunO]
    simp only [Option.map_some, Option.bind_some]
    rw [srunRd, hw2]
    simp only [Option.bind_some]
    obtain ⟨w, s', p1, p2, p3, p4, p5⟩ := ih k (i + 1) (rdS s2 l[i]).2 (by omega) (by omega) g3 (by rw [hlast]; unfold upd; split <;> omega)
    refine ⟨w, s', ?_, p2, p3, p4, p5⟩
    rw [hlast] at p1
    unfold upd at p1
    by_cases c : (0 ≤ l[i] ∧ l[i] < cells) ∧ mfind L l[i] = none ∧ s.lack = -1
    · rw [if_pos c] at p1
      rw [decide_eq_true c]; exact p1
    · rw [if_neg c] at p1
      rw [decide_eq_false c]; exact p1
theorem ok (a0 : Int) (a1 a2 : List Int) (w0 : fits .i64 a0) (w1 : ∀ x ∈ a1, (Lit.int .i64 x).wf = true) (w2 : ∀ x ∈ a2, (Lit.int .i64 x).wf = true) : ∃ k, law06_TxFirst.f k a0 a1 a2 = some true := by
  refine ⟨2100, ?_⟩
  unfold law06_TxFirst.f
  rw [up_ok, Option.bind_some]
  by_cases hg : a0 < 1 ∨ 100 < a0 ∨ (50 : Int) < (a1.length : Int) ∨ (50 : Int) < (a2.length : Int)
  · have : (bif ((decide (a0 < 1)) || (decide (100 < a0))) || (decide (50 < (a1.length : Int))) then (some true) else (some (decide (50 < (a2.length : Int))))) = some true := by
      by_cases c1 : a0 < 1
      · rw [decide_eq_true c1]; rfl
      by_cases c2 : 100 < a0
      · rw [decide_eq_true c2, Bool.or_true]; rfl
      by_cases c3 : (50 : Int) < (a1.length : Int)
      · rw [decide_eq_true c3, Bool.or_true]; rfl
      rw [decide_eq_false c1, decide_eq_false c2, decide_eq_false c3, decide_eq_true (p := (50 : Int) < (a2.length : Int)) (by omega)]; rfl
    rw [this]; rfl
  have hc8 : (bif ((decide (a0 < 1)) || (decide (100 < a0))) || (decide (50 < (a1.length : Int))) then (some true) else (some (decide (50 < (a2.length : Int))))) = some false := by
    rw [decide_eq_false (by omega), decide_eq_false (by omega), decide_eq_false (by omega), decide_eq_false (by omega)]; rfl
  rw [hc8, Option.bind_some, cond_false]
  unfold tx_New.f
  simp only [Option.bind_some]
  obtain ⟨L, M, q1, q2⟩ := l1_ok a0 (by omega) a1 (by omega) a1.length 2100 0 [] [] (Nat.zero_add _) (by omega) ⟨MOk.nil, MOk.nil, by simp, by simp, fun x => by simp [mfind], fun x v h => by simp [mfind] at h⟩
  rw [show ((0 : Nat) : Int) = 0 from rfl] at q1
  rw [q1, Option.bind_some]
  have hL := q2.lenL
  have hst := Rn.start (t := ⟨a0, some L, none, 0, false⟩) rfl (by dsimp only; omega)
  obtain ⟨w, s', p1, p2, p3, p4, p5⟩ := l3_ok a0 (by omega) a2 (by omega) q2 a2.length 2100 0 _ (Nat.zero_add _) (by omega) hst (.inl rfl)
  rw [show ((0 : Nat) : Int) = 0 from rfl] at p1 p2
  dsimp only at p1 p2 ⊢
  rw [p1, Option.bind_some, run_eq _ (by dsimp only; omega)]
  have hrun : VM.run seenI (law06_TxFirst_1.f 2100 a2 a0 0) ⟨a0, some L, some [], -1, false⟩ = some (0, s') := by
    unfold law06_TxFirst_1.f
    rw [srunB, p2]; rfl
  dsimp only
  rw [hrun, Option.bind_some]
  simp only [Option.bind_some]
  have hent : ∀ b : Bool, tx_Tx_Entries.f 2100 { s' with fine := b } = some (if b = true then (cellsOf L).map (entOf s'.out) else [], { s' with fine := b }) := fun b => entries_ok (t := { s' with fine := b }) p3.l (by omega) 2100 (by omega)
  rcases p5 with rfl | p5
  · rw [decide_eq_true (by decide : (-1 : Int) < 0), cond_true]
    have hb : (s'.lack == -1) = true := by rw [p4]; rfl
    have hent1 := hent true
    rw [if_pos rfl] at hent1
    rw [hb, if_pos p4]
    simp only [beq_self_eq_true, Bool.and_self, cond_true, Option.bind_some, hent1]
    have : (((cellsOf L).map (entOf s'.out)).length : Int) = mlenO (some M) := by
      unfold cellsOf; rw [List.length_map, List.length_map, skeys_len, q2.len]; rfl
    rw [this, beq_self_eq_true]
  · have hne : ¬ s'.lack = -1 := by omega
    have hb : (s'.lack == -1) = false := beq_false_of_ne hne
    rw [decide_eq_false (by omega), cond_false, hb, if_neg hne, p4]
    have hent2 := hent false
    rw [if_neg (by simp)] at hent2
    simp only [beq_self_eq_true, Bool.not_false, Bool.and_self, cond_true, Option.bind_some, hent2]
    rfl

theorem own : ownKnob Try.prog.godebug = none := by kernel_rfl
theorem laidOut : laidOutB Try.prog = true := by kernel_rfl
set_option maxRecDepth 100000 in
theorem lifted (os : Os) (started : os.Started) (H : Type) (enc : TypeId × Value → H) :
    ReturnsInHanded {} Try.checked os 4 .any (Rows.txFirstSpec.pre6 enc Try.prog Try.f4 Rows.txFirstRow.domain false) (Rows.txFirstSpec.post enc Try.prog Try.f4 false true false false) := by
  refine returnsInHanded_of_change (C := Try.checked) own started (by kernel_rfl) Try.func4
    (ChangeSpec.witness6 (enc := enc) (C := Try.checked) false ⟨#[], #[.int .i64 0, .slice none 0 0, .slice none 0 0], []⟩ 8 (by kernel_rfl) (by kernel_rfl) (by kernel_rfl) (by kernel_rfl)) ?_
  intro W base args ds gs before hval0 hW hcnd _
  have hval : ∀ (j : Nat) t v, Try.f4.params[j]? = some t → args[j]? = some v → Value.okWide Try.prog W .any base t v := hval0
  have hW' := hW
  obtain ⟨p, q, hA0, hV, rfl, hfz, hnd⟩ := hW
  have hA : DataW.TrodAll enc Try.prog W 0 (fun _ => true) true Try.f4.params.toList args.toList ds p := hA0
  rw [Try.params4] at hA hval
  obtain ⟨v0, vs0, d0, ds0, p0, q0, hargs, rfl, rfl, h0, r0⟩ := trodAll_cons hA
  obtain ⟨v1, vs1, d1, ds1, p1, q1, rfl, rfl, rfl, h1, r1⟩ := trodAll_cons r0
  obtain ⟨v2, vs2, d2, ds2, p2, q2, rfl, rfl, rfl, h2, r2⟩ := trodAll_cons r1
  obtain ⟨rfl, rfl, rfl⟩ := trodAll_nil r2
  obtain rfl : args = #[v0, v1, v2] := by cases args; simp_all
  obtain ⟨rfl, rfl⟩ := trodVars_none hV
  obtain ⟨a0, rfl, rfl, rfl, w0⟩ := open_int Try.underlying3 (hval 0 3 v0 rfl rfl) h0
  obtain ⟨a1, r1', w1, _⟩ := open_sl (K := ekI .i64) (parse_int Try.underlying3) Try.underlying22 (by kernel_rfl) (hval 1 22 v1 rfl rfl) h1
  obtain ⟨a2, r2', w2, _⟩ := open_sl (K := ekI .i64) (parse_int Try.underlying3) Try.underlying22 (by kernel_rfl) (hval 2 22 v2 rfl rfl) h2
  obtain ⟨k, hk⟩ := ok a0 a1 a2 w0 w1 w2
  refine (Ct.law (law06_TxFirst.ct _ _ _ a0 a1 a2 _ hk) (W := W) ⟨r1', r2'⟩).mono fun e W' ⟨he, hg⟩ => ?_
  subst he
  exact ⟨_, rfl, law_post hW' laidOut (by kernel_rfl) hg (by kernel_rfl) Try.underlying4 rfl rfl⟩
theorem over : Rows.txFirstRow.holds Try.pinned (OpenSpec.ofChange Rows.txFirstSpec) :=
  OpenClaim.holds_of_wide 4 Try.f4 rfl rfl rfl rfl rfl rfl rfl ⟨rfl, rfl, rfl, rfl, rfl⟩ rfl rfl rfl rfl rfl (by kernel_rfl) Try.func4 (by kernel_rfl)
    (of_decide_eq_true (by kernel_rfl)) (by unfold Func.isWrapper; first | (rw [if_pos (by decide +kernel)]; kernel_rfl) | (rw [if_neg (by decide +kernel)]; exact ⟨rfl, rfl⟩))
    (fun os started H enc _ => lifted os started H enc)
theorem proved : Rows.TxFirstSaid :=
  over
#print axioms proved
end Go.Proofs.Ytehemplabpjbgaa.txFirst
