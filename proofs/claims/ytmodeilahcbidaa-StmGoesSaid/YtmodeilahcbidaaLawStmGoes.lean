/- The given statement 'StmGoes' of the given program: whatever the input, the law answers true and the input reads as it did. On no condition. -/
import Derived.Test.YtmodeilahcbidaaFnStmGoes4
import Derived.Test.YtmodeilahcbidaaFr2
import Derived.Test.YtmodeilahcbidaaPlStmGoes1
import Derived.Test.YtmodeilahcbidaaRows
set_option linter.all false
namespace Go.Proofs.Ytmodeilahcbidaa.stmGoes
open Go.ChangeShapes Go.WideShapes Go.ChangeAt Go.RowKit Go.Sl
def wf_law06_Op (x : law06_Op) : Prop := (fun _ => True) x.Look ∧ (fun _ => True) x.Jump ∧ (fits .i64) x.From ∧ (fits .i64) x.To ∧ (fits .u64) x.N
theorem pa_law06_Op : Parse Try.prog 84 (fun x : law06_Op => [.bool x.Look, .bool x.Jump, .int .i64 x.From, .int .i64 x.To, .int .u64 x.N]) wf_law06_Op := by
  intro H enc w base sp hd n cs x h
  obtain ⟨xs, m, -, -, hl, hx, hf⟩ := DataW.trod_struct Try.underlying84 h
  rw [show Try.prog.cellsOf 84 = 5 by kernel_rfl] at hl
  obtain ⟨a0, e0, w0⟩ := parse_field (i := 0) (o := 0) (sz := 1) hx hf (parse_bool Try.underlying4) rfl rfl rfl (by kernel_rfl)
  obtain ⟨a1, e1, w1⟩ := parse_field (i := 1) (o := 1) (sz := 1) hx hf (parse_bool Try.underlying4) rfl rfl rfl (by kernel_rfl)
  obtain ⟨a2, e2, w2⟩ := parse_field (i := 2) (o := 2) (sz := 1) hx hf (parse_int Try.underlying3) rfl rfl rfl (by kernel_rfl)
  obtain ⟨a3, e3, w3⟩ := parse_field (i := 3) (o := 3) (sz := 1) hx hf (parse_int Try.underlying3) rfl rfl rfl (by kernel_rfl)
  obtain ⟨a4, e4, w4⟩ := parse_field (i := 4) (o := 4) (sz := 1) hx hf (parse_int Try.underlying46) rfl rfl rfl (by kernel_rfl)
  clear hf hx h
  match cs, hl with
  | [c0, c1, c2, c3, c4], _ =>
    simp at e0 e1 e2 e3 e4
    subst e0 e1 e2 e3 e4
    exact ⟨⟨a0, a1, a2, a3, a4⟩, rfl, w0, w1, w2, w3, w4⟩

open Go.Proofs
theorem up_ok (m : Nat) : law08_up.f (m + 20000) = some true := by kernel_rfl
theorem bnd (W n : Nat) (hW : 1 ≤ W ∧ W ≤ 3) (hn : n ≤ 6) : (w64 ((w64 ((W : Int) * (w64 ((W : Int) + 2)))) * (w64 ((w64 (3 * (n : Int))) + 10)))) = ((W * (W + 2) * (3 * n + 10) : Nat) : Int) ∧ Bd n W < W * (W + 2) * (3 * n + 10) := by
  have e1 : w64 (3 * (n : Int)) = 3 * n := w64_id (by omega) (by omega)
  have e2 : w64 (3 * (n : Int) + 10) = 3 * n + 10 := w64_id (by omega) (by omega)
  rw [e1, e2]
  have h : W = 1 ∨ W = 2 ∨ W = 3 := by omega
  unfold Bd Fc
  rcases h with rfl | rfl | rfl
  · rw [show w64 (((1 : Nat) : Int) * w64 (((1 : Nat) : Int) + 2)) = 3 by decide, w64_id (by omega) (by omega)]; omega
  · rw [show w64 (((2 : Nat) : Int) * w64 (((2 : Nat) : Int) + 2)) = 8 by decide, w64_id (by omega) (by omega)]; omega
  · rw [show w64 (((3 : Nat) : Int) * w64 (((3 : Nat) : Int) + 2)) = 15 by decide, w64_id (by omega) (by omega)]; omega
def tk (M : M8c) (i : Nat) : Nat := Sm (fun x => x.told.length) (M.l.take i)
theorem tk_all (M : M8c) (i : Nat) (h : M.l.length ≤ i) : tk M i = tl M := by unfold tk tl; rw [List.take_of_length_le h]
theorem tk_succ {M : M8c} {i : Nat} {x : W8} (h : M.l[i]? = some x) : tk M (i + 1) = tk M i + x.told.length := by
  obtain ⟨hi, e⟩ := List.getElem?_eq_some_iff.1 h
  unfold tk Sm
  rw [List.take_succ_eq_append_getElem hi, e]; simp
theorem tk_le {n : Nat} {lim : Int} {l : Lists} {c : Nat} {M : M8c} {L want : List api_Cell} {dn : List Nat} (I : Inv n lim l c M L want dn) (H : Hyp n lim l) (i : Nat) : tk M i ≤ M.l.length * 100 := by
  have h1 : tk M i ≤ (M.l.take i).length * 100 := Sm_bound fun w x hx => by
    have : M.l[w]? = some x := by
      obtain ⟨q1, q2⟩ := List.getElem?_eq_some_iff.1 hx
      rw [List.getElem_take] at q2
      rw [← q2]; exact List.getElem?_eq_getElem _
    exact I.osl H this
  have h2 : (M.l.take i).length * 100 ≤ M.l.length * 100 := Nat.mul_le_mul_right _ (by rw [List.length_take]; omega)
  omega
theorem l2_ok {n : Nat} {lim : Int} {l : Lists} {c : Nat} {M : M8c} {L want : List api_Cell} {dn : List Nat} (I : Inv n lim l c M L want dn) (H : Hyp n lim l) (hl : l.length ≤ 5) (s : word_Store) (A : Nat) (hA : A ≤ 80000) : ∀ (m K i : Nat), i + m = l.length → m < K →
    law08_StmGoes.l2 l M s K ((i : Int), ((A + tk M i : Nat) : Int)) = some ((A + tl M : Nat) : Int) := by
  intro m
  induction m with
  | zero =>
    intro K i e hK
    obtain ⟨K, rfl⟩ : ∃ q, K = q + 1 := ⟨K - 1, by omega⟩
    rw [law08_StmGoes.l2, decide_eq_false (by omega), cond_false, tk_all M i (by rw [I.ll]; omega)]
  | succ m ih =>
    intro K i e hK
    obtain ⟨K, rfl⟩ : ∃ q, K = q + 1 := ⟨K - 1, by omega⟩
    have hi : i < M.l.length := by rw [I.ll]; omega
    have hx := List.getElem?_eq_getElem hi
    have h1 := told_ok I H hx
    rw [law08_StmGoes.l2, decide_eq_true (by omega), cond_true]
    dsimp only
    rw [h1, Option.bind_some, w64i (by omega)]
    have h2 := tk_succ hx
    have h3 := tk_le I H i
    have h4 := I.osl H hx
    have hll := I.ll
    rw [show w64 (((A + tk M i : Nat) : Int) + (M.l[i].told.length : Int)) = ((A + tk M (i + 1) : Nat) : Int) by rw [w64_id (by omega) (by omega)]; omega]
    exact ih K (i + 1) (by omega) (by omega)
theorem log_ok (g : List stm_Entry) (h : g.length ≤ 100000) : stm_Machine_Log.f g = some g := by
  unfold stm_Machine_Log.f slices_Clone_stm_Entry_stm_Entry.f
  rw [app_ok _ _ (by simp; omega)]; rfl
theorem l1_ok {n : Nat} (hn : n ≤ 6) {l : Lists} (H : Hyp n 100000 l) (hl : 1 ≤ l.length ∧ l.length ≤ 3) (kj : Nat) (hkj : 50 < kj) (st : List Int) (hst : st.length ≤ 3000) : ∀ (m K i c row : Nat) (M : M8c) (L want : List api_Cell) (dn : List Nat), i + m = st.length → m + 2300 < K → c + m ≤ 3000 → Inv n 100000 l c M L want dn → row + pot (2 * Fc n) n M want ≤ Bd n l.length →
    ∃ X, law08_StmGoes.l1 n l st (law08_jobs_1.f kj) K ((i : Int), ((M.log.length + tl M : Nat) : Int), (row : Int), (M, ⟨L, 100000⟩)) = some (Brk.nx X) := by
  intro m
  induction m with
  | zero =>
    intro K i c row M L want dn e hK hc I hr
    obtain ⟨K, rfl⟩ : ∃ q, K = q + 1 := ⟨K - 1, by omega⟩
    rw [law08_StmGoes.l1, decide_eq_false (by omega)]
    exact ⟨_, rfl⟩
  | succ m ih =>
    intro K i c row M L want dn e hK hc I hr
    obtain ⟨K, rfl⟩ : ∃ q, K = q + 1 := ⟨K - 1, by omega⟩
    have hi : i < st.length := by omega
    rw [law08_StmGoes.l1, decide_eq_true (by omega), cond_true, Go.Proofs.at_of (i := (i : Int)) (by omega) (List.getElem?_eq_getElem hi), Option.bind_some]
    dsimp only
    rcases mstep_ok I H (by omega) K kj (by omega) hkj st[i] with ⟨h1, _⟩ | ⟨M', L', want', dn', x, h1, h2, h3, h4⟩
    · rw [h1, Option.bind_some]
      dsimp only
      rw [Bool.not_false, cond_true, w64i (by omega)]
      exact ih K (i + 1) c row M L want dn (by omega) (by omega) (by omega) I hr
    · rw [h1, Option.bind_some]
      dsimp only
      have hlog : M'.log.length ≤ 3001 := by have := h3.c2; omega
      have htk0 : tk M' 0 = 0 := by unfold tk Sm; simp
      have hl2 := l2_ok h3 H (by omega) ⟨L', 100000⟩ M'.log.length (by omega) l.length K 0 (by omega) (by omega)
      rw [htk0, Nat.add_zero] at hl2
      have hl2 : law08_StmGoes.l2 l M' ⟨L', 100000⟩ K (0, (M'.log.length : Int)) = some ((M'.log.length + tl M' : Nat) : Int) := hl2
      obtain ⟨b1, b2⟩ := bnd l.length n hl hn
      rw [Bool.not_true, cond_false, log_ok _ (by omega), Option.bind_some, hl2, Option.bind_some, b1, w64i (by omega)]
      have hrow : row ≤ 1000000 := by
        have h9 : Bd n l.length ≤ 3 * (2 * Fc 6) := by
          unfold Bd Fc
          exact Nat.mul_le_mul (by omega) (by omega)
        have : 3 * (2 * Fc 6) = 126 := by decide
        omega
      have hQ : M'.log.length + tl M' = M.log.length + tl M → pot (2 * Fc n) n M' want' < pot (2 * Fc n) n M want → ∃ X, (bif decide (((M.log.length + tl M : Nat) : Int) < ((M'.log.length + tl M' : Nat) : Int)) then (bif decide (((l.length * (l.length + 2) * (3 * n + 10) : Nat) : Int) ≤ 0) then (some (Brk.ret false)) else (law08_StmGoes.l1 n l st (law08_jobs_1.f kj) K (((i + 1 : Nat) : Int), ((M'.log.length + tl M' : Nat) : Int), 0, (M', ⟨L', 100000⟩)))) else (bif decide (((l.length * (l.length + 2) * (3 * n + 10) : Nat) : Int) ≤ (w64 ((row : Int) + 1))) then (some (Brk.ret false)) else (law08_StmGoes.l1 n l st (law08_jobs_1.f kj) K (((i + 1 : Nat) : Int), ((M.log.length + tl M : Nat) : Int), w64 ((row : Int) + 1), (M', ⟨L', 100000⟩))))) = some (Brk.nx X) := fun e1 e2 => by
        rw [decide_eq_false (by omega), cond_false, w64_id (by omega) (by omega), decide_eq_false (by omega), cond_false, ← e1]
        exact ih K (i + 1) (c + 1) (row + 1) M' L' want' dn' (by omega) (by omega) (by omega) h3 (by omega)
      have hE : M'.log.length + tl M' = M.log.length + tl M + 1 → ∃ X, (bif decide (((M.log.length + tl M : Nat) : Int) < ((M'.log.length + tl M' : Nat) : Int)) then (bif decide (((l.length * (l.length + 2) * (3 * n + 10) : Nat) : Int) ≤ 0) then (some (Brk.ret false)) else (law08_StmGoes.l1 n l st (law08_jobs_1.f kj) K (((i + 1 : Nat) : Int), ((M'.log.length + tl M' : Nat) : Int), 0, (M', ⟨L', 100000⟩)))) else (bif decide (((l.length * (l.length + 2) * (3 * n + 10) : Nat) : Int) ≤ (w64 ((row : Int) + 1))) then (some (Brk.ret false)) else (law08_StmGoes.l1 n l st (law08_jobs_1.f kj) K (((i + 1 : Nat) : Int), ((M.log.length + tl M : Nat) : Int), w64 ((row : Int) + 1), (M', ⟨L', 100000⟩))))) = some (Brk.nx X) := fun e1 => by
        rw [decide_eq_true (by omega), cond_true, decide_eq_false (by omega), cond_false]
        have hp := h3.pot_le (2 * Fc n) (Nat.le_refl _)
        exact ih K (i + 1) (c + 1) 0 M' L' want' dn' (by omega) (by omega) (by omega) h3 (by omega)
      rcases h4 with ⟨_, q1, q2, q3⟩ | ⟨_, q1, q2, _, q3⟩ | ⟨_, q1, q2, _⟩ | ⟨_, q1, q2, _⟩
      · exact hQ (by omega) (q3 _ (by unfold Fc; omega))
      · exact hQ (by omega) (q3 _)
      · exact hE (by omega)
      · exact hE (by omega)
theorem ok (a0 : Int) (a1 : List (List (List law06_Op))) (a2 : List Int) (w0 : fits .i64 a0) (w1 : (∀ os ∈ a1, ∀ ops ∈ os, ∀ x ∈ ops, wf_law06_Op x) ∧ a1.length ≤ maxLen) (w2 : ∀ x ∈ a2, (Lit.int .i64 x).wf = true) : ∃ k, law08_StmGoes.f k a0 a1 a2 = some true := by
  have hN : ∀ os ∈ a1, ∀ ops ∈ os, ∀ x ∈ ops, 0 ≤ x.N := fun os h1 ops h2 x h3 => by
    have := w1.1 os h1 ops h2 x h3
    unfold wf_law06_Op at this
    have h9 : (Lit.int .u64 x.N).wf = true := this.2.2.2.2
    simp [Lit.wf, IntKind.min, IntKind.max, IntKind.signed, IntKind.bits] at h9
    exact h9.1
  refine ⟨a1.length + 20000, ?_⟩
  unfold law08_StmGoes.f
  rw [up_ok, Option.bind_some]
  obtain ⟨b, hb, hb2⟩ := small_ok a1 w1.2 (a1.length + 20000) (by omega)
  by_cases hg : a0 < 1 ∨ 6 < a0
  · have : (decide (a0 < 1) || decide (6 < a0)) = true := by rcases hg with h | h <;> simp [h]
    rw [this]
    simp
  have h8 : (decide (a0 < 1) || decide (6 < a0)) = false := by rw [decide_eq_false (by omega), decide_eq_false (by omega)]; rfl
  rw [h8, cond_false, hb, Option.bind_some, Option.bind_some]
  cases b with
  | false => simp
  | true =>
    obtain ⟨h5, hos⟩ := hb2 rfl
    by_cases hg2 : 3000 < (a2.length : Int) ∨ (a1.length : Int) = 0 ∨ 3 < (a1.length : Int)
    · have : (((!true) || decide (3000 < (a2.length : Int)) || ((a1.length : Int) == 0)) || decide (3 < (a1.length : Int))) = true := by
        rcases hg2 with h | h | h
        · rw [decide_eq_true h]; simp
        · rw [h]; simp
        · rw [decide_eq_true h]; simp
      rw [this]; rfl
    have : (((!true) || decide (3000 < (a2.length : Int)) || ((a1.length : Int) == 0)) || decide (3 < (a1.length : Int))) = false := by
      rw [decide_eq_false (by omega), decide_eq_false (by omega), beq_false_of_ne (by omega)]; rfl
    rw [this, cond_false]
    obtain ⟨n, rfl⟩ : ∃ n : Nat, a0 = n := ⟨a0.toNat, by omega⟩
    have hmk : mk_ (⟨0, 0, 0⟩ : api_Cell) n = some (List.replicate n ⟨0, 0, 0⟩) := by
      unfold mk_; rw [decide_eq_true (by omega), decide_eq_true (by omega)]; rfl
    have hnew : word_New.f n 100000 = some (some ⟨List.replicate n ⟨0, 0, 0⟩, 100000⟩, none) := by
      unfold word_New.f
      rw [decide_eq_false (by omega), decide_eq_false (by omega), decide_eq_false (by omega), hmk]; rfl
    have H : Hyp n 100000 a1 := ⟨by omega, ⟨by omega, by omega⟩, fun os h => by have := (hos os h).1; omega, fun os h ops ho => ⟨by have := (hos os h).2 ops ho; omega, hN os h ops ho⟩⟩
    rw [hnew, Option.bind_some]
    simp only [oE, Option.isSome_none, cond_false]
    rw [jobsOk_ok _ _ (by omega) h5 (fun os h => (hos os h).1)]
    simp only [chk, cond_true, Option.bind_some]
    rw [newN_ok a1.length (by omega) _ (by omega), Option.bind_some]
    have I := Inv.begin_ H
    obtain ⟨X, hX⟩ := l1_ok (by omega) H (by omega) (a1.length + 20000) (by omega) a2 (by omega) a2.length (a1.length + 20000) 0 0 0 _ _ _ _ (by omega) (by omega) (by omega) I (by
      have := I.pot_le (2 * Fc n) (Nat.le_refl _)
      omega)
    have e0 : (newM (List law06_Op) (List.range a1.length)).log.length + tl (newM (List law06_Op) (List.range a1.length)) = 0 := by
      have : tl (newM (List law06_Op) (List.range a1.length)) ≤ (newM (List law06_Op) (List.range a1.length)).l.length * 0 := Sm_bound fun w x hx => by
        have := (I.wk w x hx).dnw
        have hx : ((List.range a1.length).map (newWk (List law06_Op)))[w]? = some x := hx
        rw [List.getElem?_map] at hx
        cases h : (List.range a1.length)[w]? with
        | none => rw [h] at hx; cases hx
        | some v => rw [h] at hx; injection hx with hx; subst hx; exact Nat.le_refl _
      simp at this
      rw [this]; rfl
    rw [e0] at hX
    have hX : law08_StmGoes.l1 n a1 a2 (law08_jobs_1.f (a1.length + 20000)) (a1.length + 20000) (0, 0, 0, (newM (List law06_Op) (List.range a1.length), ⟨List.replicate n ⟨0, 0, 0⟩, 100000⟩)) = some (Brk.nx X) := hX
    rw [hX]; rfl

theorem own : ownKnob Try.prog.godebug = none := by kernel_rfl
theorem laidOut : laidOutB Try.prog = true := by kernel_rfl
set_option maxRecDepth 100000 in
theorem lifted (os : Os) (started : os.Started) (H : Type) (enc : TypeId × Value → H) :
    ReturnsInHanded {} Try.checked os 4 .any (Rows.stmGoesSpec.pre6 enc Try.prog Try.f4 Rows.stmGoesRow.domain false) (Rows.stmGoesSpec.post enc Try.prog Try.f4 false true false false) := by
  refine returnsInHanded_of_change (C := Try.checked) own started (by kernel_rfl) Try.func4
    (ChangeSpec.witness6 (enc := enc) (C := Try.checked) false ⟨#[], #[.int .i64 0, .slice none 0 0, .slice none 0 0], []⟩ 8 (by kernel_rfl) (by kernel_rfl) (by kernel_rfl) (by kernel_rfl)) ?_
  intro W base args ds gs before hval0 hW hcnd _
  have hval : ∀ (j : Nat) t v, Try.f4.params[j]? = some t → args[j]? = some v → Value.okWide Try.prog W .any base t v := hval0
  have hW' := hW
  obtain ⟨p, q, hA0, hV, rfl, hfz, hnd⟩ := hW
  have hA : DataW.TrodAll enc Try.prog W 0 (fun _ => true) true Try.f4.params.toList args.toList ds p := hA0
  rw [Try.params4] at hA hval
  obtain ⟨v0, vs0, d0, ds0, p0, q0, hargs, rfl, rfl, h0, r0⟩ := trodAll_cons hA
  obtain ⟨v1, vs1, d1, ds1, p1, q1, rfl, rfl, rfl, h1, r1⟩ := trodAll_cons r0
  obtain ⟨v2, vs2, d2, ds2, p2, q2, rfl, rfl, rfl, h2, r2⟩ := trodAll_cons r1
  obtain ⟨rfl, rfl, rfl⟩ := trodAll_nil r2
  obtain rfl : args = #[v0, v1, v2] := by cases args; simp_all
  obtain ⟨rfl, rfl⟩ := trodVars_none hV
  obtain ⟨a0, rfl, rfl, rfl, w0⟩ := open_int Try.underlying3 (hval 0 3 v0 rfl rfl) h0
  obtain ⟨a1, r1', w1⟩ := open_sl3 (K := ek_law06_Op) pa_law06_Op Try.underlying23 Try.underlying45 Try.underlying48 (by kernel_rfl) (by kernel_rfl) (by kernel_rfl) (hval 1 23 v1 rfl rfl) h1
  obtain ⟨a2, r2', w2, _⟩ := open_sl (K := ekI .i64) (parse_int Try.underlying3) Try.underlying24 (by kernel_rfl) (hval 2 24 v2 rfl rfl) h2
  obtain ⟨k, hk⟩ := ok a0 a1 a2 w0 w1 w2
  refine (Ct.law (law08_StmGoes.ct _ _ _ a0 a1 a2 _ hk) (W := W) ⟨r1', r2'⟩).mono fun e W' ⟨he, hg⟩ => ?_
  subst he
  exact ⟨_, rfl, law_post hW' laidOut (by kernel_rfl) hg (by kernel_rfl) Try.underlying4 rfl rfl⟩
theorem over : Rows.stmGoesRow.holds Try.pinned (OpenSpec.ofChange Rows.stmGoesSpec) :=
  OpenClaim.holds_of_wide 4 Try.f4 rfl rfl rfl rfl rfl rfl rfl ⟨rfl, rfl, rfl, rfl, rfl⟩ rfl rfl rfl rfl rfl (by kernel_rfl) Try.func4 (by kernel_rfl)
    (of_decide_eq_true (by kernel_rfl)) (by unfold Func.isWrapper; first | (rw [if_pos (by decide +kernel)]; kernel_rfl) | (rw [if_neg (by decide +kernel)]; exact ⟨rfl, rfl⟩))
    (fun os started H enc _ => lifted os started H enc)
theorem proved : Rows.StmGoesSaid :=
  over
#print axioms proved
end Go.Proofs.Ytmodeilahcbidaa.stmGoes
