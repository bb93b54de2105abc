/- Plain laws of what is reached, parts Ps4S8P, Ps4Sl3. On no condition. -/
import Derived.Test.YtmodeilahcbidaaPlStmSerial0
import Derived.Test.YtmodeilahcbidaaFnStmSerial2
import Derived.Test.YtmodeilahcbidaaFnStmSerial3
import Derived.Test.YtmodeilahcbidaaFnStmSerial0
import Derived.Test.YtmodeilahcbidaaFr2
set_option linter.all false
/-! How long it goes on, at most; how it begins. -/
set_option linter.unusedVariables false
namespace Go.Proofs
open Go.Sl
section
variable {n : Nat} {lim : Int} {l : Lists} {c : Nat} {M : M8c} {L want : List api_Cell} {dn : List Nat}
theorem G.lenD {ds : List desc_Desc} (g : G lim n ds L want) {k : Nat} {d : desc_Desc} (hd : ds[k]? = some d) : d.l.length ≤ n := by
  have h1 : (d.l.map (·.Cell)).Pairwise (· < ·) := by
    refine List.pairwise_iff_getElem.2 fun i j hi hj hij => ?_
    simp only [List.length_map] at hi hj
    simp only [List.getElem_map]
    exact g.rise k d hd i j _ _ hij (List.getElem?_eq_getElem hi) (List.getElem?_eq_getElem hj)
  have h2 : (d.l.map (·.Cell)).Nodup := h1.imp (fun h => by omega)
  have := nodup_few n _ h2 (fun x hx => by
    obtain ⟨e, he, rfl⟩ := List.mem_map.1 hx
    obtain ⟨i, hi⟩ := List.getElem?_of_mem he
    exact g.cell k d hd i e hi)
  simpa using this
def Bd (n W : Nat) : Nat := W * (2 * Fc n)
theorem Inv.pot_le (I : Inv n lim l c M L want dn) (z : Nat) (hz : z ≤ 2 * Fc n) : pot z n M want ≤ Bd n l.length := by
  have : pot z n M want ≤ M.l.length * (2 * Fc n) := Sm_bound fun w x hx => by
    unfold potW
    cases hj : x.job with
    | none => exact hz
    | some ops =>
      cases hd : x.d with
      | none =>
        dsimp only
        have : (bif staleR want (learnt x) then Fc n else 0) ≤ Fc n := by cases staleR want (learnt x) <;> simp
        unfold Fc at *; omega
      | some i =>
        obtain ⟨k, d, _, _, rfl, h2, _⟩ := (I.wk w x hx).dsc _ hd
        dsimp only
        rw [at_of (i := (k : Int)) (by omega) h2]
        dsimp only
        have h3 := I.g.lenD h2
        have h4 : phi d ≤ 2 * d.l.length + 1 := by unfold phi; split <;> omega
        have : (if d.status = 0 then (bif staleD want d.l then Fc n else 0) else if d.status = 2 then Fc n else 0) ≤ Fc n := by
          split
          · cases staleD want d.l <;> simp
          · split <;> omega
        unfold Fc at *; omega
  rw [I.ll] at this; exact this
theorem Inv.se_le (I : Inv n lim l c M L want dn) : se M ≤ l.length := by
  have : se M ≤ M.l.length * 1 := Sm_bound fun w x hx => by unfold ei; split <;> omega
  rw [I.ll] at this; omega
/-- What is left, while no job is begun. -/
def Pt (n W : Nat) (M : M8c) (want : List api_Cell) : Nat := pot 0 n M want + (Bd n W + 1) * se M
theorem Pt_less {M' : M8c} {L' want' : List api_Cell} {dn' : List Nat} {c' : Nat} {x : W8} (I' : Inv n lim l c' M' L' want' dn') (hj : x.job ≠ none) (h : Out n M want x M' want') : Pt n l.length M' want' < Pt n l.length M want := by
  have hb := I'.pot_le 0 (by omega)
  unfold Pt
  rcases h with ⟨h1, _⟩ | ⟨_, _, _, h4, h5⟩ | ⟨_, _, _, h4⟩ | ⟨_, _, _, h4, h5⟩
  · exact absurd h1 hj
  · have := h5 0
    rw [h4]; omega
  · rw [← h4, Nat.mul_add]; omega
  · rw [h4]; omega
theorem Inv.Pt_le (I : Inv n lim l c M L want dn) : Pt n l.length M want ≤ Bd n l.length + (Bd n l.length + 1) * l.length := by
  have h1 := I.pot_le 0 (by omega)
  have h2 := Nat.mul_le_mul_left (Bd n l.length + 1) I.se_le
  unfold Pt; omega
theorem busy_ok {w : Nat} {x : W8} (hx : M.l[w]? = some x) : busyM M (w : Int) = some x.job.isSome := by
  have hw : w < M.l.length := (List.getElem?_eq_some_iff.1 hx).1
  unfold busyM inM
  rw [decide_eq_true (by omega), decide_eq_true (by omega), Bool.and_self, cond_true, at_of (i := (w : Int)) (by omega) hx]; rfl
theorem told_ok (I : Inv n lim l c M L want dn) (H : Hyp n lim l) {w : Nat} {x : W8} (hx : M.l[w]? = some x) : toldM M (w : Int) = some x.told := by
  have hw : w < M.l.length := (List.getElem?_eq_some_iff.1 hx).1
  have := I.osl H hx
  unfold toldM inM
  rw [decide_eq_true (by omega), decide_eq_true (by omega), Bool.and_self, cond_true, at_of (i := (w : Int)) (by omega) hx, Option.bind_some]
  unfold stm_Told_in.f
  rw [clone_ok (by omega)]; rfl
theorem w64i {i : Nat} (h : i < 1000000) : w64 ((i : Int) + 1) = ((i + 1 : Nat) : Int) := by rw [w64_id (by omega) (by omega)]; omega
/-- A round of picks. -/
theorem end_l2 (H : Hyp n lim l) (kj : Nat) (hkj : 50 < kj) : ∀ (m w K c : Nat) (b : Bool) (M : M8c) (L want : List api_Cell) (dn : List Nat), Inv n lim l c M L want dn → w + m = l.length → c + m ≤ 80000 → m + 2200 < K → l.length ≤ 1000 →
    ∃ b' M' L' want' dn', law08_end.l2 (law08_jobs_1.f kj) (fd8 l) (l.length : Int) K ((w : Int), b, (M, ⟨L, lim⟩)) = some (b', (M', ⟨L', lim⟩)) ∧ Inv n lim l (c + m) M' L' want' dn' ∧
      ((b' = b ∧ M' = M ∧ L' = L ∧ want' = want ∧ dn' = dn ∧ ∀ v : Nat, w ≤ v → ∀ x, M.l[v]? = some x → x.job = none) ∨ (b' = true ∧ Pt n l.length M' want' < Pt n l.length M want)) := by
  intro m
  induction m with
  | zero =>
    intro w K c b M L want dn I e hc hK hl
    obtain ⟨K, rfl⟩ : ∃ q, K = q + 1 := ⟨K - 1, by omega⟩
    rw [law08_end.l2, decide_eq_false (by omega)]
    refine ⟨b, M, L, want, dn, rfl, I, .inl ⟨rfl, rfl, rfl, rfl, rfl, fun v hv x hx => ?_⟩⟩
    have := (List.getElem?_eq_some_iff.1 hx).1
    have := I.ll
    omega
  | succ m ih =>
    intro w K c b M L want dn I e hc hK hl
    obtain ⟨K, rfl⟩ : ∃ q, K = q + 1 := ⟨K - 1, by omega⟩
    have hw : w < M.l.length := by rw [I.ll]; omega
    have hx : M.l[w]? = some M.l[w] := List.getElem?_eq_getElem hw
    generalize M.l[w] = x at hx
    rw [law08_end.l2, decide_eq_true (by omega), cond_true, busy_ok hx, Option.bind_some, w64i (by omega)]
    cases hj : x.job with
    | none =>
      rw [Option.isSome_none, cond_false]
      obtain ⟨b', M', L', want', dn', h1, h2, h3⟩ := ih (w + 1) K c b M L want dn I (by omega) (by omega) (by omega) hl
      refine ⟨b', M', L', want', dn', h1, h2.up (by omega), h3.imp_left ?_⟩
      rintro ⟨a1, a2, a3, a4, a5, a6⟩
      refine ⟨a1, a2, a3, a4, a5, fun v hv y hy => ?_⟩
      by_cases q : v = w
      · subst q; rw [hx] at hy; injection hy with hy; subst hy; exact hj
      · exact a6 v (by omega) y hy
    | some ops =>
      rw [Option.isSome_some, cond_true]
      have hat : at_ M.l (w : Int) = some x := at_of (i := (w : Int)) (by omega) hx
      rcases mstep_ok I H (by omega) K kj (by omega) hkj (w : Int) with ⟨_, h2⟩ | ⟨M1, L1, want1, dn1, y, h1, h2, h3, h4⟩
      · have := h2 x hat; rw [hj] at this; cases this
      · rw [hat] at h2; injection h2 with h2; subst h2
        rw [h1, Option.bind_some]
        dsimp only
        have hlt := Pt_less h3 (by rw [hj]; exact fun z => by cases z) h4
        obtain ⟨b', M', L', want', dn', u1, u2, u3⟩ := ih (w + 1) K (c + 1) true M1 L1 want1 dn1 h3 (by omega) (by omega) (by omega) hl
        refine ⟨b', M', L', want', dn', u1, u2.up (by omega), .inr ?_⟩
        rcases u3 with ⟨a1, a2, a3, a4, a5, a6⟩ | ⟨a1, a2⟩
        · subst a2; subst a4; exact ⟨a1, hlt⟩
        · exact ⟨a1, by omega⟩
theorem end_l1 (H : Hyp n lim l) (kj : Nat) (hkj : 50 < kj) (hl : l.length ≤ 5) : ∀ (P i K c : Nat) (M : M8c) (L want : List api_Cell) (dn : List Nat), Inv n lim l c M L want dn → Pt n l.length M want ≤ P → i + P < 5000 → c + 5 * (P + 1) ≤ 80000 → P + 2300 < K →
    ∃ M' L' want' dn' c', law08_end.l1 (law08_jobs_1.f kj) (fd8 l) (l.length : Int) 5000 K ((i : Int), (M, ⟨L, lim⟩)) = some (Brk.ret (true, (M', ⟨L', lim⟩))) ∧ Inv n lim l c' M' L' want' dn' ∧ c' ≤ 80000 ∧ ∀ (v : Nat) x, M'.l[v]? = some x → x.job = none := by
  intro P
  induction P with
  | zero =>
    intro i K c M L want dn I hP hi hc hK
    obtain ⟨K, rfl⟩ : ∃ q, K = q + 1 := ⟨K - 1, by omega⟩
    obtain ⟨b', M', L', want', dn', h1, h2, h3⟩ := end_l2 H kj hkj l.length 0 K c false M L want dn I (by omega) (by omega) (by omega) (by omega)
    have h1 : law08_end.l2 (law08_jobs_1.f kj) (fd8 l) (l.length : Int) K (0, false, (M, ⟨L, lim⟩)) = some (b', (M', ⟨L', lim⟩)) := h1
    rw [law08_end.l1, decide_eq_true (by omega), cond_true, h1, Option.bind_some]
    rcases h3 with ⟨a1, a2, a3, a4, a5, a6⟩ | ⟨a1, a2⟩
    · subst a1
      exact ⟨M', L', want', dn', _, rfl, h2, by omega, fun v x hx => a6 v (by omega) x (by rw [← a2]; exact hx)⟩
    · omega
  | succ P ih =>
    intro i K c M L want dn I hP hi hc hK
    obtain ⟨K, rfl⟩ : ∃ q, K = q + 1 := ⟨K - 1, by omega⟩
    obtain ⟨b', M', L', want', dn', h1, h2, h3⟩ := end_l2 H kj hkj l.length 0 K c false M L want dn I (by omega) (by omega) (by omega) (by omega)
    have h1 : law08_end.l2 (law08_jobs_1.f kj) (fd8 l) (l.length : Int) K (0, false, (M, ⟨L, lim⟩)) = some (b', (M', ⟨L', lim⟩)) := h1
    rw [law08_end.l1, decide_eq_true (by omega), cond_true, h1, Option.bind_some]
    rcases h3 with ⟨a1, a2, a3, a4, a5, a6⟩ | ⟨a1, a2⟩
    · subst a1
      exact ⟨M', L', want', dn', _, rfl, h2, by omega, fun v x hx => a6 v (by omega) x (by rw [← a2]; exact hx)⟩
    · subst a1
      dsimp only
      rw [Bool.not_true, cond_false, w64i (by omega)]
      exact ih (i + 1) K (c + l.length) M' L' want' dn' h2 (by omega) (by omega) (by omega) (by omega)
/-- As it begins. -/
theorem rep_at {n : Nat} {c0 : api_Cell} {i : Int} {c : api_Cell} (h : at_ (List.replicate n c0) i = some c) : c = c0 := by
  obtain ⟨_, _, h2⟩ := at_val h
  rw [List.getElem?_replicate] at h2
  split at h2
  · injection h2 with h2; exact h2.symm
  · cases h2
theorem Inv.begin_ (H : Hyp n lim l) : Inv n lim l 0 (newM (List law06_Op) (List.range l.length)) (List.replicate n ⟨0, 0, 0⟩) (List.replicate n ⟨0, 0, 0⟩) (List.replicate l.length 0) := by
  refine ⟨⟨fun k d h => (by cases h), fun k d h => (by cases h), fun k d h => (by cases h), fun k d h => (by cases h), by simp, by simp, fun i c h hm => ?_, fun i c h => ?_⟩, rfl, by simp [newM], ?_, fun w x hx => ?_, fun k d h => (by cases h), fun k d h => (by cases h), fun i c h => ?_, fun x hx => (by cases hx), Nat.le_refl _, Nat.le_refl _⟩
  · rw [rep_at h] at hm; exact absurd rfl hm
  · rw [h, rep_at h]; rfl
  · exact ⟨by simp, rfl⟩
  · have hx : ((List.range l.length).map (newWk (List law06_Op)))[w]? = some x := hx
    rw [List.getElem?_map] at hx
    cases h : (List.range l.length)[w]? with
    | none => rw [h] at hx; cases hx
    | some v =>
      obtain ⟨h1, h2⟩ := List.getElem?_eq_some_iff.1 h
      rw [List.getElem_range] at h2
      subst h2
      rw [h] at hx
      injection hx with hx
      subst hx
      have hw : w < l.length := by simpa using h1
      exact ⟨rfl, ⟨l[w], List.getElem?_eq_getElem hw, Nat.zero_le _, fun ops e => (by cases e)⟩, fun _ => rfl, fun e => absurd rfl e, fun i e => (by cases e), by show (List.replicate l.length 0)[w]? = some 0; rw [List.getElem?_replicate, if_pos hw]⟩
  · rw [rep_at h]
    have := H.lim
    exact ⟨Int.le_refl _, by show (0 : Int) ≤ lim; omega⟩
end
theorem new_l1 (N : Nat) (hN : N ≤ 8) : ∀ (m K i : Nat), i + m = N → m < K → stm_New.l1 (fun _ => false) (List.range N) K ((i : Int), List.range i) = some (Brk.nx (List.range N)) := by
  intro m
  induction m with
  | zero =>
    intro K i e hK
    obtain ⟨K, rfl⟩ : ∃ q, K = q + 1 := ⟨K - 1, by omega⟩
    rw [stm_New.l1, decide_eq_false (by simp; omega), cond_false, show i = N by omega]
  | succ m ih =>
    intro K i e hK
    obtain ⟨K, rfl⟩ : ∃ q, K = q + 1 := ⟨K - 1, by omega⟩
    have hat : at_ (List.range N) (i : Int) = some i := at_of (i := (i : Int)) (by omega) (by show (List.range N)[i]? = _; rw [List.getElem?_range (by omega)])
    rw [stm_New.l1, decide_eq_true (by simp; omega), cond_true, hat, Option.bind_some, cond_false, app_ok _ _ (by simp; omega), Option.bind_some, w64i (by omega)]
    rw [show List.range i ++ [i] = List.range (i + 1) from List.range_succ.symm]
    exact ih K (i + 1) (by omega) (by omega)
theorem newN_ok (N : Nat) (hN : N ≤ 8) (k : Nat) (hk : 100 < k) : newN k N = some (List.range N) := by
  have h0 : stm_New.l1 (fun _ => false) (List.range N) k (0, []) = some (Brk.nx (List.range N)) := new_l1 N hN N k 0 (by omega) (by omega)
  unfold newN stm_New.f
  rw [decide_eq_false (by simp; omega), cond_false, h0]
  simp only [Option.bind_some, Brk.go]
  have : (List.range N).all (fun i => decide (i < N)) = true := List.all_eq_true.2 fun i hi => by simpa using hi
  rw [this, cond_true]
/-! small. -/
theorem small_l2 (l : Lists) (w : Nat) (os : List (List law06_Op)) (h : l[w]? = some os) (h8 : os.length ≤ 8) : ∀ (m K i : Nat), i + m = os.length → m < K → (law08_small.l2 l (w : Int) K (i : Int) = some (Brk.ret false)) ∨ (law08_small.l2 l (w : Int) K (i : Int) = some (Brk.nx ()) ∧ ∀ (j : Nat) ops, i ≤ j → os[j]? = some ops → ops.length ≤ 12) := by
  have ha : at_ l (w : Int) = some os := at_of (i := (w : Int)) (by omega) h
  intro m
  induction m with
  | zero =>
    intro K i e hK
    obtain ⟨K, rfl⟩ : ∃ q, K = q + 1 := ⟨K - 1, by omega⟩
    rw [law08_small.l2, ha, Option.bind_some, decide_eq_false (by omega)]
    refine .inr ⟨rfl, fun j ops hj ho => ?_⟩
    have := (List.getElem?_eq_some_iff.1 ho).1
    omega
  | succ m ih =>
    intro K i e hK
    obtain ⟨K, rfl⟩ : ∃ q, K = q + 1 := ⟨K - 1, by omega⟩
    have hi : i < os.length := by omega
    have hai : at_ os (i : Int) = some os[i] := at_of (i := (i : Int)) (by omega) (List.getElem?_eq_getElem hi)
    rw [law08_small.l2, ha, Option.bind_some, decide_eq_true (by omega), cond_true, Option.bind_some, hai, Option.bind_some]
    by_cases q : 12 < (os[i].length : Int)
    · rw [decide_eq_true q]; exact .inl rfl
    · rw [decide_eq_false q, cond_false, w64i (by omega)]
      rcases ih K (i + 1) (by omega) (by omega) with h1 | ⟨h1, h2⟩
      · exact .inl h1
      · refine .inr ⟨h1, fun j ops hj ho => ?_⟩
        by_cases q2 : j = i
        · subst q2; rw [List.getElem?_eq_getElem hi] at ho; injection ho with ho; subst ho; omega
        · exact h2 j ops (by omega) ho
theorem small_l1 (l : Lists) (hmax : l.length ≤ maxLen) : ∀ (m K w : Nat), w + m = l.length → m + 20 < K → (law08_small.l1 l K (w : Int) = some (Brk.ret false)) ∨ (law08_small.l1 l K (w : Int) = some (Brk.nx ()) ∧ ∀ (j : Nat) os, w ≤ j → l[j]? = some os → os.length ≤ 8 ∧ ∀ ops ∈ os, ops.length ≤ 12) := by
  have hm : maxLen ≤ 9223372036854775807 := by decide
  intro m
  induction m with
  | zero =>
    intro K w e hK
    obtain ⟨K, rfl⟩ : ∃ q, K = q + 1 := ⟨K - 1, by omega⟩
    rw [law08_small.l1, decide_eq_false (by omega)]
    refine .inr ⟨rfl, fun j os hj ho => ?_⟩
    have := (List.getElem?_eq_some_iff.1 ho).1
    omega
  | succ m ih =>
    intro K w e hK
    obtain ⟨K, rfl⟩ : ∃ q, K = q + 1 := ⟨K - 1, by omega⟩
    have hw : w < l.length := by omega
    have ho := List.getElem?_eq_getElem hw
    have ha : at_ l (w : Int) = some l[w] := at_of (i := (w : Int)) (by omega) ho
    rw [law08_small.l1, decide_eq_true (by omega), cond_true, ha, Option.bind_some]
    by_cases q : 8 < (l[w].length : Int)
    · rw [decide_eq_true q]; exact .inl rfl
    · rw [decide_eq_false q, cond_false]
      have h0 := small_l2 l w l[w] ho (by omega) l[w].length K 0 (by omega) (by omega)
      rw [show ((0 : Nat) : Int) = 0 from rfl] at h0
      rcases h0 with h0 | ⟨h0, h1⟩
      · rw [h0]; exact .inl rfl
      · rw [h0]
        simp only [Option.bind_some, Brk.go]
        rw [show w64 ((w : Int) + 1) = ((w + 1 : Nat) : Int) by rw [w64_id (by omega) (by omega)]; omega]
        rcases ih K (w + 1) (by omega) (by omega) with h2 | ⟨h2, h3⟩
        · exact .inl h2
        · refine .inr ⟨h2, fun j os hj hos => ?_⟩
          by_cases q2 : j = w
          · subst q2; rw [ho] at hos; injection hos with hos; subst hos
            refine ⟨by omega, fun ops hops => ?_⟩
            obtain ⟨i, hi⟩ := List.getElem?_of_mem hops
            exact h1 i ops (by omega) hi
          · exact h3 j os (by omega) hos
theorem small_ok (l : Lists) (hmax : l.length ≤ maxLen) (k : Nat) (hk : l.length + 20 < k) : ∃ b, law08_small.f k l = some b ∧ (b = true → l.length ≤ 5 ∧ ∀ os ∈ l, os.length ≤ 8 ∧ ∀ ops ∈ os, ops.length ≤ 12) := by
  have h0 := small_l1 l hmax l.length k 0 (by omega) hk
  rw [show ((0 : Nat) : Int) = 0 from rfl] at h0
  unfold law08_small.f
  rcases h0 with h0 | ⟨h0, h1⟩
  · rw [h0]; exact ⟨false, rfl, fun z => (by cases z)⟩
  · rw [h0]
    refine ⟨_, rfl, fun z => ⟨by have := of_decide_eq_true z; omega, fun os hos => ?_⟩⟩
    obtain ⟨i, hi⟩ := List.getElem?_of_mem hos
    exact h1 i os (by omega) hi
theorem jobsOk_ok (k : Nat) (l : Lists) (hk : 300 < k) (h5 : l.length ≤ 5) (h : ∀ os ∈ l, os.length ≤ 8) : jobsOk k l = true := by
  unfold jobsOk
  simp only [Bool.and_eq_true, decide_eq_true_eq, List.all_eq_true]
  exact ⟨⟨hk, by omega⟩, fun os hos => by have := h os hos; omega⟩
end Go.Proofs
/-! A list of lists of lists, opened. -/
namespace Go.Proofs
open Go.Sl Go.RowKit Go.ChangeShapes Go.WideShapes Go.ChangeAt
section
variable {H : Type} {enc : TypeId × Value → H} {P : Program} {W : World} {b0 : Nat} {sp : Nat → Bool} {hd : Bool} {r : Reach}
theorem sv_cell {t1 e : TypeId} (ht1 : P.underlying t1 = some (.slice e)) {n : Nat} {cs : List Value} {x : DataW H × List MemPlace} (hx : DataW.trod enc P W 0 sp hd n t1 cs = some x) : ∃ u : Value, u.oneCell' = true ∧ cs = [u] := by
  rcases DataW.trod_slice ht1 hx with ⟨h0, -⟩ | ⟨a, len, cap, elems, rest, m, -, h0, -⟩
  · exact ⟨_, rfl, h0⟩
  · exact ⟨_, rfl, h0⟩
theorem open_sl3 {t t1 t2 e : TypeId} {v : Value} {d : DataW H} {ps : List MemPlace} {α : Type} {K : EK α} {wf : α → Prop}
    (hp : Parse P e K.enc wf) (ht : P.underlying t = some (.slice t1)) (ht1 : P.underlying t1 = some (.slice t2)) (ht2 : P.underlying t2 = some (.slice e)) (hc1 : P.cellsOf t1 = 1) (hc2 : P.cellsOf t2 = 1) (hc : P.cellsOf e = K.sz) (hval : Value.okWide P W r b0 t v) (h : DataW.Trod enc P W 0 sp hd t v d ps) :
    ∃ l : List (List (List α)), Rd3 K v l (Whole W) ∧ (∀ os ∈ l, ∀ ops ∈ os, ∀ x ∈ ops, wf x) ∧ l.length ≤ maxLen := by
  obtain ⟨n, h⟩ := h
  have hv1 : v.cells.toList = [v] := by
    cases v <;> first | rfl | (simp [Value.okWide, ht, Cell.okWide, Cell.ok] at hval)
  rw [hv1] at h
  obtain ⟨vs, h1, h2, h3⟩ := open_slW (K := ekS) (wf := fun x => ∃ xss : List (List α), Rd2 K x.1 xss (Whole W) ∧ ∀ ops ∈ xss, ∀ x ∈ ops, wf x) (fun n cs x hx => by
    obtain ⟨u, hu, rfl⟩ := sv_cell ht1 hx
    obtain ⟨ws, k1, k2, -⟩ := open_slW (K := ekS) (wf := fun x => ∃ xs, Rd K x.1 xs (Whole W) ∧ ∀ y ∈ xs, wf y) (fun n cs x hx => by
      obtain ⟨u2, hu2, rfl⟩ := sv_cell ht2 hx
      obtain ⟨xs, q1, q2, -⟩ := open_slW (fun _ _ _ h => hp _ _ _ _ _ _ _ _ h) ht2 hc hx
      exact ⟨⟨u2, hu2⟩, rfl, xs, q1, q2⟩) ht1 hc2 hx
    classical
    let f : SV → List α := fun x => if hh : ∃ xs, Rd K x.1 xs (Whole W) ∧ ∀ y ∈ xs, wf y then Classical.choose hh else []
    have hf : ∀ x : SV, (∃ xs, Rd K x.1 xs (Whole W) ∧ ∀ y ∈ xs, wf y) → Rd K x.1 (f x) (Whole W) ∧ ∀ y ∈ f x, wf y := fun x hh => by
      show Rd K x.1 (if hh : ∃ xs, Rd K x.1 xs (Whole W) ∧ ∀ y ∈ xs, wf y then Classical.choose hh else []) _ ∧ ∀ y ∈ (if hh : ∃ xs, Rd K x.1 xs (Whole W) ∧ ∀ y ∈ xs, wf y then Classical.choose hh else []), wf y
      rw [dif_pos hh]; exact Classical.choose_spec hh
    refine ⟨⟨u, hu⟩, rfl, ws.map f, ⟨ws, k1, by simp, fun i x l e1 e2 => ?_⟩, fun ops ho => ?_⟩
    · rw [List.getElem?_map, e1] at e2
      injection e2 with e2
      subst e2
      exact (hf x (k2 x (List.mem_of_getElem? e1))).1
    · obtain ⟨y, hy, rfl⟩ := List.mem_map.1 ho
      exact (hf y (k2 y hy)).2) ht hc1 h
  classical
  let f : SV → List (List α) := fun x => if hh : ∃ xss : List (List α), Rd2 K x.1 xss (Whole W) ∧ ∀ ops ∈ xss, ∀ x ∈ ops, wf x then Classical.choose hh else []
  have hf : ∀ x : SV, (∃ xss : List (List α), Rd2 K x.1 xss (Whole W) ∧ ∀ ops ∈ xss, ∀ x ∈ ops, wf x) → Rd2 K x.1 (f x) (Whole W) ∧ ∀ ops ∈ f x, ∀ x ∈ ops, wf x := fun x hh => by
    show Rd2 K x.1 (if hh : ∃ xss : List (List α), Rd2 K x.1 xss (Whole W) ∧ ∀ ops ∈ xss, ∀ x ∈ ops, wf x then Classical.choose hh else []) _ ∧ ∀ ops ∈ (if hh : ∃ xss : List (List α), Rd2 K x.1 xss (Whole W) ∧ ∀ ops ∈ xss, ∀ x ∈ ops, wf x then Classical.choose hh else []), ∀ x ∈ ops, wf x
    rw [dif_pos hh]; exact Classical.choose_spec hh
  refine ⟨vs.map f, ⟨vs, h1, by simp, fun i x l e1 e2 => ?_⟩, fun os ho => ?_, by rw [List.length_map]; exact h3⟩
  · rw [List.getElem?_map, e1] at e2
    injection e2 with e2
    subst e2
    exact (hf x (h2 x (List.mem_of_getElem? e1))).1
  · obtain ⟨y, hy, rfl⟩ := List.mem_map.1 ho
    exact (hf y (h2 y hy)).2
end
end Go.Proofs
