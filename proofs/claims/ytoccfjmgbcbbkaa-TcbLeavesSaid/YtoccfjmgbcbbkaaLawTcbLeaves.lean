/- The given statement 'TcbLeaves' of the given program: whatever the input, the law answers true and the input reads as it did. On no condition. -/
import Derived.Test.YtoccfjmgbcbbkaaFnTcbLeaves2
import Derived.Test.YtoccfjmgbcbbkaaFr1
import Derived.Test.YtoccfjmgbcbbkaaPlTcbLeaves1
import Derived.Test.YtoccfjmgbcbbkaaRows
set_option linter.all false
namespace Go.Proofs.Ytoccfjmgbcbbkaa.tcbLeaves
open Go.ChangeShapes Go.WideShapes Go.ChangeAt Go.RowKit Go.Sl
def wf_api_Cap (x : api_Cap) : Prop := (fits .i64) x.Kind ∧ (fits .i64) x.Rights ∧ (fits .i64) x.Obj ∧ (fits .i64) x.Badge ∧ (fits .i64) x.Guard ∧ (fits .i64) x.Bits
theorem pa_api_Cap : Parse Try.prog 49 (fun x : api_Cap => [.int .i64 x.Kind, .int .i64 x.Rights, .int .i64 x.Obj, .int .i64 x.Badge, .int .i64 x.Guard, .int .i64 x.Bits]) wf_api_Cap := by
  intro H enc w base sp hd n cs x h
  obtain ⟨xs, m, -, -, hl, hx, hf⟩ := DataW.trod_struct Try.underlying49 h
  rw [show Try.prog.cellsOf 49 = 6 by kernel_rfl] at hl
  obtain ⟨a0, e0, w0⟩ := parse_field (i := 0) (o := 0) (sz := 1) hx hf (parse_int Try.underlying3) rfl rfl rfl (by kernel_rfl)
  obtain ⟨a1, e1, w1⟩ := parse_field (i := 1) (o := 1) (sz := 1) hx hf (parse_int Try.underlying3) rfl rfl rfl (by kernel_rfl)
  obtain ⟨a2, e2, w2⟩ := parse_field (i := 2) (o := 2) (sz := 1) hx hf (parse_int Try.underlying3) rfl rfl rfl (by kernel_rfl)
  obtain ⟨a3, e3, w3⟩ := parse_field (i := 3) (o := 3) (sz := 1) hx hf (parse_int Try.underlying3) rfl rfl rfl (by kernel_rfl)
  obtain ⟨a4, e4, w4⟩ := parse_field (i := 4) (o := 4) (sz := 1) hx hf (parse_int Try.underlying3) rfl rfl rfl (by kernel_rfl)
  obtain ⟨a5, e5, w5⟩ := parse_field (i := 5) (o := 5) (sz := 1) hx hf (parse_int Try.underlying3) rfl rfl rfl (by kernel_rfl)
  clear hf hx h
  match cs, hl with
  | [c0, c1, c2, c3, c4, c5], _ =>
    simp at e0 e1 e2 e3 e4 e5
    subst e0 e1 e2 e3 e4 e5
    exact ⟨⟨a0, a1, a2, a3, a4, a5⟩, rfl, w0, w1, w2, w3, w4, w5⟩

def wf_law17_Deed (x : law17_Deed) : Prop := (fits .i64) x.What ∧ (fits .i64) x.T ∧ (fits .i64) x.N ∧ wf_api_Cap x.C
theorem pa_law17_Deed : Parse Try.prog 51 (fun x : law17_Deed => [.int .i64 x.What, .int .i64 x.T, .int .i64 x.N, .int .i64 x.C.Kind, .int .i64 x.C.Rights, .int .i64 x.C.Obj, .int .i64 x.C.Badge, .int .i64 x.C.Guard, .int .i64 x.C.Bits]) wf_law17_Deed := by
  intro H enc w base sp hd n cs x h
  obtain ⟨xs, m, -, -, hl, hx, hf⟩ := DataW.trod_struct Try.underlying51 h
  rw [show Try.prog.cellsOf 51 = 9 by kernel_rfl] at hl
  obtain ⟨a0, e0, w0⟩ := parse_field (i := 0) (o := 0) (sz := 1) hx hf (parse_int Try.underlying3) rfl rfl rfl (by kernel_rfl)
  obtain ⟨a1, e1, w1⟩ := parse_field (i := 1) (o := 1) (sz := 1) hx hf (parse_int Try.underlying3) rfl rfl rfl (by kernel_rfl)
  obtain ⟨a2, e2, w2⟩ := parse_field (i := 2) (o := 2) (sz := 1) hx hf (parse_int Try.underlying3) rfl rfl rfl (by kernel_rfl)
  obtain ⟨a3, e3, w3⟩ := parse_field (i := 3) (o := 3) (sz := 6) hx hf pa_api_Cap rfl rfl rfl (by kernel_rfl)
  clear hf hx h
  match cs, hl with
  | [c0, c1, c2, c3, c4, c5, c6, c7, c8], _ =>
    simp at e0 e1 e2 e3
    simp_all only []
    exact ⟨⟨a0, a1, a2, a3⟩, rfl, w0, w1, w2, w3⟩

open Go.Proofs
structure LI (n : Nat) (st : ref10_State) (v : List Int) : Prop where
  S : ES st v
  kd : ∀ j, 0 ≤ j → j < 32 → (obt st j).Kind = kindAt n j
  n0 : N0 st
theorem LI.next {n : Nat} {st st' : ref10_State} {v v' : List Int} (l : LI n st v) (S : ES st' v') (K : KS st st') (N : N0 st') : LI n st' v' := ⟨S, fun y y0 y1 => by rw [K.k y y0]; exact l.kd y y0 y1, N⟩
section
variable {n : Nat} (hn : 1 ≤ n ∧ n ≤ 7)
include hn
theorem lk_t {st : ref10_State} (kd : ∀ j, 0 ≤ j → j < 32 → (obt st j).Kind = kindAt n j) {t : Int} (h0 : 0 ≤ t) (h1 : t < n) : (obt st t).Kind = 5 := by
  rw [kd t h0 (by omega)]; unfold kindAt; rw [if_pos h1]
theorem lk_e {st : ref10_State} (kd : ∀ j, 0 ≤ j → j < 32 → (obt st j).Kind = kindAt n j) : (obt st ((n : Int) + 3)).Kind = 3 ∧ (obt st ((n : Int) + 4)).Kind = 4 := by
  constructor
  · rw [kd _ (by omega) (by omega)]; unfold kindAt
    rw [if_neg (by omega), if_neg (by omega), if_neg (by omega), if_neg (by omega), if_pos rfl]
  · rw [kd _ (by omega) (by omega)]; unfold kindAt
    rw [if_neg (by omega), if_neg (by omega), if_neg (by omega), if_neg (by omega), if_neg (by omega), if_pos rfl]
end
theorem loop_ok {n : Nat} (hn : 1 ≤ n ∧ n ≤ 7) (a1 : List law17_Deed) (hw : ∀ x ∈ a1, wf_law17_Deed x) (hl : a1.length ≤ 100) : ∀ (m k : Nat) (i : Int) (st : ref10_State) (v : List Int), 0 ≤ i → i ≤ a1.length → (a1.length : Int) - i = m → m + 1000 < k → LI n st v → ∃ st' v', law17_TcbLeaves.l1 n a1 k (i, v) = some v' ∧ LI n st' v' := by
  intro m
  induction m with
  | zero =>
    intro k i st v h0 h1 h2 hk hJ
    obtain ⟨k, rfl⟩ : ∃ q, k = q + 1 := ⟨k - 1, by omega⟩
    unfold law17_TcbLeaves.l1
    rw [decide_eq_false (by omega)]
    exact ⟨st, v, rfl, hJ⟩
  | succ m ih =>
    intro k i st v h0 h1 h2 hk hJ
    obtain ⟨k, rfl⟩ : ∃ q, k = q + 1 := ⟨k - 1, by omega⟩
    obtain ⟨x, hx, hm⟩ := at_some h0 (by omega : i < (a1.length : Int))
    have wf := hw x hm
    have hp : law10_Pick.f x.What 4 = some (pick x.What 4) := pick_ok wf.1 (by decide) (by decide)
    have hpn : law10_Pick.f x.N 2 = some (pick x.N 2) := pick_ok wf.2.2.1 (by decide) (by decide)
    have hpt : law10_Pick.f x.T n = some (pick x.T n) := pick_ok wf.2.1 (by omega) (by omega)
    have hrt := pick_lt x.T (n := n) (by omega)
    have e1 : w64 (i + 1) = i + 1 := w64_id (by omega) (by omega)
    have eo : w64 ((n : Int) + 3) = n + 3 := w64_id (by omega) (by omega)
    have eo4 : w64 ((n : Int) + 4) = n + 4 := w64_id (by omega) (by omega)
    have ho : 0 ≤ (n : Int) + 3 ∧ (n : Int) + 3 < 32 := by omega
    have next := fun st v (hI : LI n st v) => ih k (i + 1) st v (by omega) (by omega) (by omega) (by omega) hI
    unfold law17_TcbLeaves.l1
    rw [decide_eq_true (by omega), cond_true, hx, Option.bind_some, hpt, Option.bind_some, eo, eo4, e1]
    generalize pick x.T n = t at hrt
    have ht : 0 ≤ t ∧ t < 32 := by omega
    have k5 := lk_t hn hJ.kd hrt.1 hrt.2
    obtain ⟨k3, k4⟩ := lk_e hn hJ.kd
    rw [state_fv hJ.S.h hJ.S.hv ht k5, Option.bind_some]
    simp only []
    by_cases hs : (obt st t).State = 1
    · have es : ((obt st t).State != 1) = false := by simpa using hs
      rw [es, cond_false, Option.bind_some, hp, Option.bind_some]
      generalize pick x.What 4 = p
      by_cases p0 : p = 0
      · have ep : (p == 0) = true := by simpa using p0
        obtain ⟨is, st', v', _, s2, s3, s4, s5⟩ := send_pl hJ.S ho k3 ht k5 hs (w := 2) (b := 1) (by decide) (by decide) (pick x.N 2 == 1) (k := k) (by omega)
        have N : N0 st' := by
          rcases s5 with ⟨y, l, A⟩ | B
          · exact A.n0 hJ.n0 s4 (q_kind hJ.S.h ho A.q) k5
          · exact B.n0 hJ.n0 s4 k5
        rw [ep, cond_true, Option.bind_some, hpn, Option.bind_some]
        rw [s2, Option.bind_some]
        exact next _ _ (hJ.next s3 s4 N)
      · rw [show (p == 0) = false by simpa using p0, cond_false]
        by_cases p1 : p = 1
        · obtain ⟨rp, is, q, st', v', _, s2, s3, s4, s5⟩ := recv_pl hJ.S ho k3 ht k5 hs (k := k) (by omega)
          have N : N0 st' := by
            rcases s5 with ⟨y, l, A⟩ | B | C
            · exact A.n0 hJ.n0 s4 (q_kind hJ.S.h ho A.q) k5
            · exact B.n0 hJ.n0 s4 k5
            · rw [C.o]; exact hJ.n0
          rw [show (p == 1) = true by simpa using p1, cond_true, s2, Option.bind_some]
          exact next _ _ (hJ.next s3 s4 N)
        · rw [show (p == 1) = false by simpa using p1, cond_false]
          by_cases p2 : p = 2
          · obtain ⟨st', v', _, s2, s3, s4, N⟩ := wait0_pl hJ.S hJ.n0 (o := (n : Int) + 4) (by omega) k4 ht k5 hs
            rw [show (p == 2) = true by simpa using p2, cond_true, s2, Option.bind_some]
            exact next _ _ (hJ.next s3 s4 N)
          · obtain ⟨q, st', v', s2, s3, s4, s5⟩ := answer_pl hJ.S ht k5 hs (w := 5) (by decide)
            have N : N0 st' := by
              rcases s5 with ⟨_, c, A⟩ | ⟨_, e, _⟩
              · exact A.n0 hJ.n0 s4 k5
              · rw [e]; exact hJ.n0
            rw [show (p == 2) = false by simpa using p2, cond_false, s2, Option.bind_some]
            exact next _ _ (hJ.next s3 s4 N)
    · have es : ((obt st t).State != 1) = true := by simpa using hs
      rw [es, cond_true]
      exact next _ _ hJ
theorem getI {l : List Int} {t : Nat} (h1 : t < l.length) : at_ l (t : Int) = some l[t] := by
  unfold at_
  rw [decide_eq_true (by omega), cond_true, Int.toNat_natCast, List.getElem?_eq_getElem h1]
theorem none_l (t : Int) (l : List Int) (hl : l.length ≤ 1000) (h : t ∉ l) : ∀ (m k x : Nat), x + m = l.length → m < k → law17_TcbLeaves.l3 t l k (x : Int) = some (Brk.nx ()) := by
  intro m
  induction m with
  | zero =>
    intro k x hx hk
    obtain ⟨k, rfl⟩ : ∃ q, k = q + 1 := ⟨k - 1, by omega⟩
    unfold law17_TcbLeaves.l3
    rw [decide_eq_false (by omega)]; rfl
  | succ m ih =>
    intro k x hx hk
    obtain ⟨k, rfl⟩ : ∃ q, k = q + 1 := ⟨k - 1, by omega⟩
    have ew : w64 ((x : Int) + 1) = ((x + 1 : Nat) : Int) := w64_id (by omega) (by omega)
    have ne : (l[x]'(by omega) == t) = false := by
      rw [beq_eq_false_iff_ne]
      intro z
      exact h (by rw [← z]; exact List.getElem_mem _)
    unfold law17_TcbLeaves.l3
    rw [decide_eq_true (by omega), cond_true, ew, getI (by omega), Option.bind_some, ne, cond_false]
    exact ih k (x + 1) (by omega) (by omega)
theorem ok (a0 : Int) (a1 : List law17_Deed) (a2 : Int) (w0 : (Lit.int .i64 a0).wf = true) (w1 : ∀ x ∈ a1, wf_law17_Deed x) (w2 : (Lit.int .i64 a2).wf = true) : ∃ k, law17_TcbLeaves.f k a0 a1 a2 = some true := by
  refine ⟨2000, ?_⟩
  have hu : law17_up.f 2000 = some true := by decide +kernel
  unfold law17_TcbLeaves.f
  rw [hu, Option.bind_some]
  by_cases h1 : 1 ≤ a0 ∧ a0 ≤ 7 ∧ a1.length ≤ 100
  · have e : (decide (a0 < 1) || decide (7 < a0) || decide (100 < (a1.length : Int))) = false := by simp; omega
    obtain ⟨n, rfl⟩ : ∃ n : Nat, a0 = n := ⟨a0.toNat, by omega⟩
    have hn : 1 ≤ n ∧ n ≤ 7 := by omega
    obtain ⟨t, hB, F, K⟩ := boot_ok (n := n) (by omega)
    have E := bootE_ok (n := n) (by omega) hB
    obtain ⟨w, hw, hiw⟩ := words_ok F.wf (k := 2000) (by decide)
    have kd : ∀ j, 0 ≤ j → j < 32 → (obt t j).Kind = kindAt n j := K
    have nO : ∀ i, 0 ≤ i → i < 32 → (obt t i).On = -1 := fun i i0 i1 => (F.que i i0 i1).2.1
    have nG : ∀ i, 0 ≤ i → i < 32 → (obt t i).Owing = -1 := fun i i0 i1 => (F.ext i i0 i1).1
    have S : ES t w := by
      refine ⟨F.wf, hiw, ⟨fun c c0 c1 k g => ?_, fun c c0 c1 k g => ?_, fun c c0 c1 k g => ?_, fun c c0 c1 k g => ?_, fun c c0 c1 k g => ?_⟩, fun o o0 o1 k q => (E o o0 o1).2.1⟩
      · rw [nG c c0 c1] at g; omega
      · rw [(E c c0 c1).1] at g; omega
      · rw [(E c c0 c1).2.2 k] at g; omega
      · rw [nO c c0 c1] at g; omega
      · exact .inr (.inl ((E c c0 c1).2.2 k))
    obtain ⟨st, v, hr, J⟩ := loop_ok hn a1 w1 h1.2.2 a1.length 2000 0 t w (by decide) (by omega) (by omega) (by omega) ⟨S, kd, fun i i0 i1 _ => (F.ext i i0 i1).2⟩
    have hpt : law10_Pick.f a2 n = some (pick a2 n) := pick_ok w2 (by omega) (by omega)
    have hrt := pick_lt a2 (n := n) (by omega)
    rw [e, cond_false, hB, Option.bind_some, hw, Option.bind_some, hr, Option.bind_some, hpt, Option.bind_some]
    generalize pick a2 n = t at hrt
    have ht : 0 ≤ t ∧ t < 32 := by omega
    have k5 := lk_t hn J.kd hrt.1 hrt.2
    have gv := (J.S.hv.good J.S.h).1
    have is5 : ∀ {st : ref10_State} {v : List Int}, WF st → IsW st v → (obt st t).Kind = 5 → VM.run plainI (lay_Is.f t 5) v = some (true, v) := fun {st} {v} h hv k => by
      have e0 : fld v t 0 = 5 := by rw [fv_t h hv ht k (by decide) (.inl (by decide)), own5 k]; rfl
      rw [is_ok (hv.good h).1 t 5 (by decide), e0]; rfl
    rw [state_fv J.S.h J.S.hv ht k5, Option.bind_some]
    simp only []
    -- stopped
    have stop : ∃ st' v', VM.run plainI (tcb_Suspend.f 2000 t) v = some (if (obt st t).State = 0 then some 10 else none, v') ∧ ES st' v' ∧ KS st st' ∧ (obt st' t).State = 0 ∧ (obt st' t).On = -1 := by
      unfold tcb_Suspend.f
      rw [runB, is5 J.S.h J.S.hv k5, Option.bind_some]
      simp only [Bool.not_true, runC, cond_false]
      rw [runB, state_fv J.S.h J.S.hv ht k5, Option.bind_some]
      by_cases c : (obt st t).State = 0
      · have ec : ((obt st t).State == 0) = true := by simpa using c
        simp only [ec, cond_true, if_pos c]
        exact ⟨st, v, rfl, J.S, KS.refl st, c, (J.S.T.ready J.S.h ht k5 (.inr c)).1⟩
      · have ec : ((obt st t).State == 0) = false := by simpa using c
        obtain ⟨st', v', _, c2, c3, c4, c5, c6⟩ := cancel_pl J.S ht k5 (k := 2000) (by decide)
        simp only [ec, cond_false, if_neg c]
        rw [runB, c2, Option.bind_some]
        exact ⟨st', v', rfl, c3, c4, c5, c6⟩
    obtain ⟨st', v', s1, S', K', z0, z1⟩ := stop
    have k5' : (obt st' t).Kind = 5 := by rw [K'.k t ht.1]; exact k5
    rw [s1, Option.bind_some]
    simp only []
    have c1 : ((if (obt st t).State = 0 then some (10 : Int) else none).isNone != ((obt st t).State != 0)) = false := by
      by_cases c : (obt st t).State = 0
      · rw [if_pos c, c]; rfl
      · have : ((obt st t).State != 0) = true := by simpa using c
        rw [if_neg c, this]; rfl
    rw [c1, cond_false, state_fv S'.h S'.hv ht k5', Option.bind_some, z0]
    simp only [Option.bind_some]
    have kd' : ∀ j, 0 ≤ j → j < 32 → (obt st' j).Kind = kindAt n j := fun y y0 y1 => by rw [K'.k y y0]; exact J.kd y y0 y1
    obtain ⟨k3, k4⟩ := lk_e hn kd'
    have notin : ∀ o, 0 ≤ o ∧ o < 32 → t ∉ (obt st' o).Queue := fun o ho z => by
      have := (S'.h.que o ho.1 ho.2 t z).2.2.2.1
      omega
    have e3 : w64 ((n : Int) + 3) = n + 3 := w64_id (by omega) (by omega)
    have e4 : w64 ((n : Int) + 4) = n + 4 := w64_id (by omega) (by omega)
    have one : ∀ (o : Int) (k : Nat), 0 ≤ o ∧ o < 32 → (obt st' o).Kind = 3 ∨ (obt st' o).Kind = 4 → 1000 ≤ k → VM.run plainI (queue_List.f k o) v' = some ((obt st' o).Queue, v') ∧ law17_TcbLeaves.l3 t (obt st' o).Queue k 0 = some (Brk.nx ()) := fun o k ho hk hkk => by
      have hl := qlen S'.h ho
      exact ⟨q_list S'.h S'.hv ho hk (by omega), none_l t _ (by omega) (notin o ho) (obt st' o).Queue.length k 0 (by omega) (by omega)⟩
    have l2 : law17_TcbLeaves.l2 n t 2000 ((n : Int) + 3, v') = some (Brk.nx v') := by
      obtain ⟨a1, a2⟩ := one (n + 3) 1999 (by omega) (.inl k3) (by decide)
      obtain ⟨b1, b2⟩ := one (n + 4) 1998 (by omega) (.inr k4) (by decide)
      show law17_TcbLeaves.l2 n t (1999 + 1) _ = _
      unfold law17_TcbLeaves.l2
      rw [e4, decide_eq_true (by omega), cond_true, a1, Option.bind_some]
      simp only []
      rw [a2, Option.bind_some]
      simp only [Brk.go]
      rw [w64_id (x := (n : Int) + 3 + 1) (by omega) (by omega), show (n : Int) + 3 + 1 = n + 4 by omega]
      show law17_TcbLeaves.l2 n t (1998 + 1) _ = _
      unfold law17_TcbLeaves.l2
      rw [e4, decide_eq_true (by omega), cond_true, b1, Option.bind_some]
      simp only []
      rw [b2, Option.bind_some]
      simp only [Brk.go]
      rw [w64_id (x := (n : Int) + 4 + 1) (by omega) (by omega)]
      show law17_TcbLeaves.l2 n t (1997 + 1) _ = _
      unfold law17_TcbLeaves.l2
      rw [e4, decide_eq_false (by omega)]; rfl
    rw [e3, show (((0 : Int) != 0) = false) by decide, cond_false, l2, Option.bind_some]
    simp only [Brk.go]
    obtain ⟨iw3, h3⟩ := woke_pl S'.h S'.hv ht k5' z1 (w := 0) (b := 0) (by decide) (by decide)
    have k53 : (obt (upd st' t (wokeO (obt st' t) 0 0)) t).Kind = 5 := by rw [obt_upd S'.h.lo ht ht.1, if_pos rfl]; exact k5'
    have r1 : VM.run plainI (tcb_Resume.f t) v' = some (none, wakeTo v' t 0 0) := by
      unfold tcb_Resume.f
      rw [runB, is5 S'.h S'.hv k5', Option.bind_some]
      simp only [Bool.not_true, runC, cond_false]
      rw [runB, state_fv S'.h S'.hv ht k5', Option.bind_some, z0]
      simp only [show (((0 : Int) != 0) = false) by decide, cond_false]
      rw [runB, wake_ok (S'.hv.good S'.h).1 t 0 0 (by decide) (by decide), Option.bind_some]; rfl
    have s3 : (obt (upd st' t (wokeO (obt st' t) 0 0)) t).State = 1 ∧ (obt (upd st' t (wokeO (obt st' t) 0 0)) t).On = -1 := by rw [obt_upd S'.h.lo ht ht.1, if_pos rfl]; exact ⟨rfl, rfl⟩
    have r2 : VM.run plainI (tcb_Resume.f t) (wakeTo v' t 0 0) = some (some 10, wakeTo v' t 0 0) := by
      unfold tcb_Resume.f
      rw [runB, is5 h3 iw3 k53, Option.bind_some]
      simp only [Bool.not_true, runC, cond_false]
      rw [runB, state_fv h3 iw3 ht k53, Option.bind_some, s3.1]
      rfl
    rw [r1, Option.bind_some]
    simp only []
    rw [on_fv h3 iw3 ht k53, s3.2, Option.bind_some]
    simp only [if_neg (show ¬ (0 : Int) ≤ -1 by decide), Option.isNone_none, Bool.and_true, cond_true]
    rw [state_fv h3 iw3 ht k53, s3.1, Option.bind_some, Option.bind_some]
    simp only [beq_self_eq_true, Bool.not_false, Bool.and_true, cond_true]
    rw [r2, Option.bind_some]
    rfl
  · have e : (decide (a0 < 1) || decide (7 < a0) || decide (100 < (a1.length : Int))) = true := by
      rw [← Bool.not_eq_false]; simp; omega
    rw [e]; rfl

theorem own : ownKnob Try.prog.godebug = none := by kernel_rfl
theorem laidOut : laidOutB Try.prog = true := by kernel_rfl
set_option maxRecDepth 100000 in
theorem lifted (os : Os) (started : os.Started) (H : Type) (enc : TypeId × Value → H) :
    ReturnsInHanded {} Try.checked os 4 .any (Rows.tcbLeavesSpec.pre6 enc Try.prog Try.f4 Rows.tcbLeavesRow.domain false) (Rows.tcbLeavesSpec.post enc Try.prog Try.f4 false true false false) := by
  refine returnsInHanded_of_change (C := Try.checked) own started (by kernel_rfl) Try.func4
    (ChangeSpec.witness6 (enc := enc) (C := Try.checked) false ⟨#[], #[.int .i64 0, .slice none 0 0, .int .i64 0], []⟩ 8 (by kernel_rfl) (by kernel_rfl) (by kernel_rfl) (by kernel_rfl)) ?_
  intro W base args ds gs before hval0 hW hcnd _
  have hval : ∀ (j : Nat) t v, Try.f4.params[j]? = some t → args[j]? = some v → Value.okWide Try.prog W .any base t v := hval0
  have hW' := hW
  obtain ⟨p, q, hA0, hV, rfl, hfz, hnd⟩ := hW
  have hA : DataW.TrodAll enc Try.prog W 0 (fun _ => true) true Try.f4.params.toList args.toList ds p := hA0
  rw [Try.params4] at hA hval
  obtain ⟨v0, vs0, d0, ds0, p0, q0, hargs, rfl, rfl, h0, r0⟩ := trodAll_cons hA
  obtain ⟨v1, vs1, d1, ds1, p1, q1, rfl, rfl, rfl, h1, r1⟩ := trodAll_cons r0
  obtain ⟨v2, vs2, d2, ds2, p2, q2, rfl, rfl, rfl, h2, r2⟩ := trodAll_cons r1
  obtain ⟨rfl, rfl, rfl⟩ := trodAll_nil r2
  obtain rfl : args = #[v0, v1, v2] := by cases args; simp_all
  obtain ⟨rfl, rfl⟩ := trodVars_none hV
  obtain ⟨a0, rfl, rfl, rfl, w0⟩ := open_int Try.underlying3 (hval 0 3 v0 rfl rfl) h0
  obtain ⟨a1, r1', w1, _⟩ := open_sl (K := ek_law17_Deed) pa_law17_Deed Try.underlying47 (by kernel_rfl) (hval 1 47 v1 rfl rfl) h1
  obtain ⟨a2, rfl, rfl, rfl, w2⟩ := open_int Try.underlying3 (hval 2 3 v2 rfl rfl) h2
  obtain ⟨k, hk⟩ := ok a0 a1 a2 w0 w1 w2
  refine (Ct.law (law17_TcbLeaves.ct _ _ a0 a1 a2 _ hk) (W := W) r1').mono fun e W' ⟨he, hg⟩ => ?_
  subst he
  exact ⟨_, rfl, law_post hW' laidOut (by kernel_rfl) hg (by kernel_rfl) Try.underlying4 rfl rfl⟩
theorem over : Rows.tcbLeavesRow.holds Try.pinned (OpenSpec.ofChange Rows.tcbLeavesSpec) :=
  OpenClaim.holds_of_wide 4 Try.f4 rfl rfl rfl rfl rfl rfl rfl ⟨rfl, rfl, rfl, rfl, rfl⟩ rfl rfl rfl rfl rfl (by kernel_rfl) Try.func4 (by kernel_rfl)
    (of_decide_eq_true (by kernel_rfl)) (by unfold Func.isWrapper; first | (rw [if_pos (by decide +kernel)]; kernel_rfl) | (rw [if_neg (by decide +kernel)]; exact ⟨rfl, rfl⟩))
    (fun os started H enc _ => lifted os started H enc)
theorem proved : Rows.TcbLeavesSaid :=
  over
#print axioms proved
end Go.Proofs.Ytoccfjmgbcbbkaa.tcbLeaves
