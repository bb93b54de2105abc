/- The given statement 'TcbPlays' of the given program: whatever the input, the law answers true and the input reads as it did. On no condition. -/
import Derived.Test.YtoccfjmgbcbbkaaFnTcbPlays4
import Derived.Test.YtoccfjmgbcbbkaaFr1
import Derived.Test.YtoccfjmgbcbbkaaPlTcbPlays2
import Derived.Test.YtoccfjmgbcbbkaaRows
set_option linter.all false
namespace Go.Proofs.Ytoccfjmgbcbbkaa.tcbPlays
open Go.ChangeShapes Go.WideShapes Go.ChangeAt Go.RowKit Go.Sl
def wf_api_Cap (x : api_Cap) : Prop := (fits .i64) x.Kind ∧ (fits .i64) x.Rights ∧ (fits .i64) x.Obj ∧ (fits .i64) x.Badge ∧ (fits .i64) x.Guard ∧ (fits .i64) x.Bits
theorem pa_api_Cap : Parse Try.prog 49 (fun x : api_Cap => [.int .i64 x.Kind, .int .i64 x.Rights, .int .i64 x.Obj, .int .i64 x.Badge, .int .i64 x.Guard, .int .i64 x.Bits]) wf_api_Cap := by
  intro H enc w base sp hd n cs x h
  obtain ⟨xs, m, -, -, hl, hx, hf⟩ := DataW.trod_struct Try.underlying49 h
  rw [show Try.prog.cellsOf 49 = 6 by kernel_rfl] at hl
  obtain ⟨a0, e0, w0⟩ := parse_field (i := 0) (o := 0) (sz := 1) hx hf (parse_int Try.underlying3) rfl rfl rfl (by kernel_rfl)
  obtain ⟨a1, e1, w1⟩ := parse_field (i := 1) (o := 1) (sz := 1) hx hf (parse_int Try.underlying3) rfl rfl rfl (by kernel_rfl)
  obtain ⟨a2, e2, w2⟩ := parse_field (i := 2) (o := 2) (sz := 1) hx hf (parse_int Try.underlying3) rfl rfl rfl (by kernel_rfl)
  obtain ⟨a3, e3, w3⟩ := parse_field (i := 3) (o := 3) (sz := 1) hx hf (parse_int Try.underlying3) rfl rfl rfl (by kernel_rfl)
  obtain ⟨a4, e4, w4⟩ := parse_field (i := 4) (o := 4) (sz := 1) hx hf (parse_int Try.underlying3) rfl rfl rfl (by kernel_rfl)
  obtain ⟨a5, e5, w5⟩ := parse_field (i := 5) (o := 5) (sz := 1) hx hf (parse_int Try.underlying3) rfl rfl rfl (by kernel_rfl)
  clear hf hx h
  match cs, hl with
  | [c0, c1, c2, c3, c4, c5], _ =>
    simp at e0 e1 e2 e3 e4 e5
    subst e0 e1 e2 e3 e4 e5
    exact ⟨⟨a0, a1, a2, a3, a4, a5⟩, rfl, w0, w1, w2, w3, w4, w5⟩

def wf_law17_Deed (x : law17_Deed) : Prop := (fits .i64) x.What ∧ (fits .i64) x.T ∧ (fits .i64) x.N ∧ wf_api_Cap x.C
theorem pa_law17_Deed : Parse Try.prog 51 (fun x : law17_Deed => [.int .i64 x.What, .int .i64 x.T, .int .i64 x.N, .int .i64 x.C.Kind, .int .i64 x.C.Rights, .int .i64 x.C.Obj, .int .i64 x.C.Badge, .int .i64 x.C.Guard, .int .i64 x.C.Bits]) wf_law17_Deed := by
  intro H enc w base sp hd n cs x h
  obtain ⟨xs, m, -, -, hl, hx, hf⟩ := DataW.trod_struct Try.underlying51 h
  rw [show Try.prog.cellsOf 51 = 9 by kernel_rfl] at hl
  obtain ⟨a0, e0, w0⟩ := parse_field (i := 0) (o := 0) (sz := 1) hx hf (parse_int Try.underlying3) rfl rfl rfl (by kernel_rfl)
  obtain ⟨a1, e1, w1⟩ := parse_field (i := 1) (o := 1) (sz := 1) hx hf (parse_int Try.underlying3) rfl rfl rfl (by kernel_rfl)
  obtain ⟨a2, e2, w2⟩ := parse_field (i := 2) (o := 2) (sz := 1) hx hf (parse_int Try.underlying3) rfl rfl rfl (by kernel_rfl)
  obtain ⟨a3, e3, w3⟩ := parse_field (i := 3) (o := 3) (sz := 6) hx hf pa_api_Cap rfl rfl rfl (by kernel_rfl)
  clear hf hx h
  match cs, hl with
  | [c0, c1, c2, c3, c4, c5, c6, c7, c8], _ =>
    simp at e0 e1 e2 e3
    simp_all only []
    exact ⟨⟨a0, a1, a2, a3⟩, rfl, w0, w1, w2, w3⟩

open Go.Proofs
structure PI (n : Nat) (st : ref10_State) (v : List Int) : Prop where
  S : ES st v
  kd : ∀ j, 0 ≤ j → j < 32 → (obt st j).Kind = kindAt n j
  n0 : N0 st
  cn : CN st
theorem PI.next {n : Nat} {st st' : ref10_State} {v v' : List Int} (l : PI n st v) (S : ES st' v') (K : KS st st') (N : Fx st st') : PI n st' v' := ⟨S, fun y y0 y1 => by rw [K.k y y0]; exact l.kd y y0 y1, l.n0.of K N, l.cn.of K N⟩
theorem words_same {st : ref10_State} {v : List Int} (h : WF st) (hv : IsW st v) {k : Nat} (hk : 900 ≤ k) : ref10_State_Words.f k st = some v ∧ ref10_Same.f k v v = some true := ⟨words_is h hv (by omega), same_ok hv.len (by omega)⟩
section
variable {n : Nat} (hn : 1 ≤ n ∧ n ≤ 7)
include hn
theorem lk_t {st : ref10_State} (kd : ∀ j, 0 ≤ j → j < 32 → (obt st j).Kind = kindAt n j) {t : Int} (h0 : 0 ≤ t) (h1 : t < n) : (obt st t).Kind = 5 := by
  rw [kd t h0 (by omega)]; unfold kindAt; rw [if_pos h1]
theorem lk_e {st : ref10_State} (kd : ∀ j, 0 ≤ j → j < 32 → (obt st j).Kind = kindAt n j) : (obt st ((n : Int) + 3)).Kind = 3 ∧ (obt st ((n : Int) + 4)).Kind = 4 := by
  constructor
  · rw [kd _ (by omega) (by omega)]; unfold kindAt
    rw [if_neg (by omega), if_neg (by omega), if_neg (by omega), if_neg (by omega), if_pos rfl]
  · rw [kd _ (by omega) (by omega)]; unfold kindAt
    rw [if_neg (by omega), if_neg (by omega), if_neg (by omega), if_neg (by omega), if_neg (by omega), if_pos rfl]
end
/-- What is looked at behind each deed. -/
def tailF (n : Int) (a1 : List law17_Deed) (k : Nat) (i t c : Int) (e : Option Int) (st : ref10_State) (v : List Int) : Option (Brk Bool ((List ref10_Slot) × (List ref10_Obj) × Int × Int × (List Int))) :=
  (VM.run plainI (tcb_Highest.f k ) v).bind fun ((t127, t128), s130) => (ref10_State_Highest.f k (⟨st.Slots, st.Objs, st.NS, st.NO⟩ : ref10_State)).bind fun t140 => ((law00_Code.f k e).bind fun t142 => bif t142 != c then (some (true, s130)) else ((ref10_State_Words.f k (⟨st.Slots, st.Objs, st.NS, st.NO⟩ : ref10_State)).bind fun t145 => (ref10_Same.f k s130 t145).bind fun t151 => bif !t151 then (some (true, s130)) else (bif t128 != (decide (0 ≤ t140)) then (some (true, s130)) else (bif t128 then (bif t127 != t140 then (some (true, s130)) else ((VM.run plainI (tcb_Root.f k t) s130).bind fun (t160, s162) => (at_ st.Objs t).bind fun x164 => some (!decide (t160 = x164.Root), s162))) else ((VM.run plainI (tcb_Root.f k t) s130).bind fun (t171, s173) => (at_ st.Objs t).bind fun x175 => some (!decide (t171 = x175.Root), s173)))))).bind fun (j203_4, qv20_4) => bif j203_4 then (some (Brk.ret false)) else (law17_TcbPlays.l1 n a1 k (i, st.Slots, st.Objs, st.NS, st.NO, qv20_4))
theorem tail_ok {n : Nat} {a1 : List law17_Deed} {k : Nat} (hk : 900 ≤ k) {st : ref10_State} {v : List Int} (S : ES st v) (i : Int) {t c : Int} (ht : IsT st t) (hc : 0 ≤ c ∧ c ≤ 14) : tailF n a1 k i t c (if c = 0 then none else some c) st v = law17_TcbPlays.l1 n a1 k (i, st.Slots, st.Objs, st.NS, st.NO, v) := by
  obtain ⟨r4, r, h1, h2, h3⟩ := highest_pl S.h S.hv (k := k) (by omega)
  obtain ⟨w1, w2⟩ := words_same S.h S.hv hk
  have eta : (⟨st.Slots, st.Objs, st.NS, st.NO⟩ : ref10_State) = st := rfl
  have rt := root_pl S.h S.hv t (k := k) (by omega)
  rw [if_pos ht] at rt
  unfold tailF
  rw [h1, Option.bind_some]
  simp only []
  rw [eta, h2, Option.bind_some, code_ok hc (by omega), Option.bind_some, bne_self_eq_false, cond_false, w1, Option.bind_some, w2, Option.bind_some, Bool.not_true, cond_false, bne_self_eq_false, cond_false, rt, Option.bind_some, at_ob S.h.lo ⟨ht.1, ht.2.1⟩, Option.bind_some]
  simp only [decide_true, Bool.not_true]
  by_cases q : 0 ≤ r
  · rw [decide_eq_true q, cond_true, h3 q, bne_self_eq_false, cond_false]; rfl
  · rw [decide_eq_false q, cond_false]; rfl
theorem loop_ok {n : Nat} (hn : 1 ≤ n ∧ n ≤ 7) (a1 : List law17_Deed) (hw : ∀ x ∈ a1, wf_law17_Deed x) (hl : a1.length ≤ 100) : ∀ (m k : Nat) (i : Int) (st : ref10_State) (v : List Int), 0 ≤ i → i ≤ a1.length → (a1.length : Int) - i = m → m + 1000 < k → PI n st v → ∃ st' v', law17_TcbPlays.l1 n a1 k (i, st.Slots, st.Objs, st.NS, st.NO, v) = some (Brk.nx (st'.Slots, st'.Objs, st'.NS, st'.NO, v')) ∧ PI n st' v' := by
  intro m
  induction m with
  | zero =>
    intro k i st v h0 h1 h2 hk hJ
    obtain ⟨k, rfl⟩ : ∃ q, k = q + 1 := ⟨k - 1, by omega⟩
    unfold law17_TcbPlays.l1
    rw [decide_eq_false (by omega)]
    exact ⟨st, v, rfl, hJ⟩
  | succ m ih =>
    intro k i st v h0 h1 h2 hk hJ
    obtain ⟨k, rfl⟩ : ∃ q, k = q + 1 := ⟨k - 1, by omega⟩
    obtain ⟨x, hx, hm⟩ := at_some h0 (by omega : i < (a1.length : Int))
    have wf := hw x hm
    have hp : law10_Pick.f x.What 8 = some (pick x.What 8) := pick_ok wf.1 (by decide) (by decide)
    have hpn : law10_Pick.f x.N 2 = some (pick x.N 2) := pick_ok wf.2.2.1 (by decide) (by decide)
    have hpt : law10_Pick.f x.T n = some (pick x.T n) := pick_ok wf.2.1 (by omega) (by omega)
    have hrt := pick_lt x.T (n := n) (by omega)
    have e1 : w64 (i + 1) = i + 1 := w64_id (by omega) (by omega)
    have eo : w64 ((n : Int) + 3) = n + 3 := w64_id (by omega) (by omega)
    have eo4 : w64 ((n : Int) + 4) = n + 4 := w64_id (by omega) (by omega)
    have ho : 0 ≤ (n : Int) + 3 ∧ (n : Int) + 3 < 32 := by omega
    have eta : (⟨st.Slots, st.Objs, st.NS, st.NO⟩ : ref10_State) = st := rfl
    have next := fun st v (hI : PI n st v) => ih k (i + 1) st v (by omega) (by omega) (by omega) (by omega) hI
    unfold law17_TcbPlays.l1
    rw [decide_eq_true (by omega), cond_true, hx, Option.bind_some, hp, Option.bind_some, hpt, Option.bind_some, eo, eo4, e1, eta]
    generalize pick x.T n = t at hrt
    have ht : 0 ≤ t ∧ t < 32 := by omega
    have k5 := lk_t hn hJ.kd hrt.1 hrt.2
    obtain ⟨k3, k4⟩ := lk_e hn hJ.kd
    have fin : ∀ q st' v', 0 ≤ q ∧ q ≤ 14 → PI n st' v' → ∃ st'' v'', tailF n a1 k (i + 1) t q (if q = 0 then none else some q) st' v' = some (Brk.nx (st''.Slots, st''.Objs, st''.NS, st''.NO, v'')) ∧ PI n st'' v'' := fun q st' v' hq hI => by
      rw [tail_ok (by omega) hI.S (i + 1) ⟨ht.1, ht.2, lk_t hn hI.kd hrt.1 hrt.2⟩ hq]
      exact next st' v' hI
    generalize pick x.What 8 = p
    by_cases p0 : p = 0
    · obtain ⟨q, st', v', s1, s2, O⟩ := suspend_pl hJ.S x.T (k := k) (by omega)
      rw [show (p == 0) = true by simpa using p0, cond_true, s1, Option.bind_some]
      simp only []
      rw [s2, Option.bind_some, Option.bind_some]
      exact fin q st' v' O.n0 (hJ.next O.S O.K O.F)
    · rw [show (p == 0) = false by simpa using p0, cond_false]
      by_cases p1 : p = 1 ∨ p = 2
      · have ej : (bif p == 1 then some (p == 1) else some (p == 2)) = some true := by
          rcases p1 with z | z <;> rw [z] <;> rfl
        obtain ⟨q, st', v', s1, s2, O⟩ := resume_pl hJ.S x.T
        rw [ej, Option.bind_some, cond_true, s1, Option.bind_some]
        simp only []
        rw [s2, Option.bind_some, Option.bind_some]
        exact fin q st' v' O.n0 (hJ.next O.S O.K O.F)
      · have ej : (bif p == 1 then some (p == 1) else some (p == 2)) = some false := by
          rw [show (p == 1) = false by simpa using fun z => p1 (.inl z), cond_false, show (p == 2) = false by simpa using fun z => p1 (.inr z)]
        rw [ej, Option.bind_some, cond_false]
        by_cases p3 : p = 3
        · obtain ⟨q, st', v', s1, s2, O⟩ := prio_pl hJ.S x.T x.N
          rw [show (p == 3) = true by simpa using p3, cond_true, s1, Option.bind_some]
          simp only []
          rw [s2, Option.bind_some, Option.bind_some]
          exact fin q st' v' O.n0 (hJ.next O.S O.K O.F)
        · rw [show (p == 3) = false by simpa using p3, cond_false]
          by_cases p4 : p = 4
          · obtain ⟨q, st', v', s1, s2, O⟩ := setroot_pl hJ.S hJ.cn x.T x.C (k := k) (by omega)
            rw [show (p == 4) = true by simpa using p4, cond_true, s1, Option.bind_some]
            simp only []
            rw [s2, Option.bind_some, Option.bind_some]
            exact fin q st' v' O.n0 (hJ.next O.S O.K O.F)
          · rw [show (p == 4) = false by simpa using p4, cond_false, readyT_ok hJ.S.h ht k5, Option.bind_some]
            by_cases hs : (obt st t).State = 1
            · rw [decide_eq_true hs, Bool.not_true, cond_false]
              by_cases p5 : p = 5
              · obtain ⟨is, st', v', s1, s2, s3, s4, s5⟩ := send_pl hJ.S ho k3 ht k5 hs (w := 2) (b := 1) (by decide) (by decide) (pick x.N 2 == 1) (k := k) (by omega)
                have N : Fx st st' := by
                  rcases s5 with ⟨y, l, A⟩ | B
                  · exact A.fx (q_kind hJ.S.h ho A.q) k5
                  · exact B.fx k5
                rw [show (p == 5) = true by simpa using p5, cond_true, hpn, Option.bind_some, s2, Option.bind_some]
                simp only []
                rw [Option.bind_some, s1, Option.bind_some, Option.bind_some]
                exact fin 0 st' v' (by decide) (hJ.next s3 s4 N)
              · rw [show (p == 5) = false by simpa using p5, cond_false]
                by_cases p6 : p = 6
                · obtain ⟨rp, is, q, st', v', s1, s2, s3, s4, s5⟩ := recv_pl hJ.S ho k3 ht k5 hs (k := k) (by omega)
                  have N : Fx st st' := by
                    rcases s5 with ⟨y, l, A⟩ | B | C
                    · exact A.fx (q_kind hJ.S.h ho A.q) k5
                    · exact B.fx k5
                    · rw [C.o]; exact Fx.refl st
                  rw [show (p == 6) = true by simpa using p6, cond_true, s2, Option.bind_some]
                  simp only []
                  rw [s1, Option.bind_some, Option.bind_some]
                  exact fin 0 st' v' (by decide) (hJ.next s3 s4 N)
                · obtain ⟨st', v', s1, s2, s3, s4, N⟩ := wait0_pl hJ.S hJ.n0 (o := (n : Int) + 4) (by omega) k4 ht k5 hs
                  rw [show (p == 6) = false by simpa using p6, cond_false, s2, Option.bind_some]
                  simp only []
                  rw [s1, Option.bind_some, Option.bind_some]
                  exact fin 0 st' v' (by decide) (hJ.next s3 s4 N)
            · rw [decide_eq_false hs, Bool.not_false, cond_true]
              obtain ⟨st', v', e, I⟩ := next st v hJ
              rw [e, Option.bind_some, Option.bind_some]
              exact ⟨st', v', rfl, I⟩
theorem ok (a0 : Int) (a1 : List law17_Deed) (w0 : (Lit.int .i64 a0).wf = true) (w1 : ∀ x ∈ a1, wf_law17_Deed x) : ∃ k, law17_TcbPlays.f k a0 a1 = some true := by
  refine ⟨2000, ?_⟩
  have hu : law17_up.f 2000 = some true := by decide +kernel
  unfold law17_TcbPlays.f
  rw [hu, Option.bind_some]
  by_cases h1 : 1 ≤ a0 ∧ a0 ≤ 7 ∧ a1.length ≤ 100
  · have e : (decide (a0 < 1) || decide (7 < a0) || decide (100 < (a1.length : Int))) = false := by simp; omega
    obtain ⟨n, rfl⟩ : ∃ n : Nat, a0 = n := ⟨a0.toNat, by omega⟩
    have hn : 1 ≤ n ∧ n ≤ 7 := by omega
    obtain ⟨t, hB, F, K⟩ := boot_ok (n := n) (by omega)
    have E := bootE_ok (n := n) (by omega) hB
    obtain ⟨w, hw, hiw⟩ := words_ok F.wf (k := 2000) (by decide)
    have kd : ∀ j, 0 ≤ j → j < 32 → (obt t j).Kind = kindAt n j := K
    have nO : ∀ i, 0 ≤ i → i < 32 → (obt t i).On = -1 := fun i i0 i1 => (F.que i i0 i1).2.1
    have nG : ∀ i, 0 ≤ i → i < 32 → (obt t i).Owing = -1 := fun i i0 i1 => (F.ext i i0 i1).1
    have S : ES t w := by
      refine ⟨F.wf, hiw, ⟨fun c c0 c1 k g => ?_, fun c c0 c1 k g => ?_, fun c c0 c1 k g => ?_, fun c c0 c1 k g => ?_, fun c c0 c1 k g => ?_⟩, fun o o0 o1 k q => (E o o0 o1).2.1⟩
      · rw [nG c c0 c1] at g; omega
      · rw [(E c c0 c1).1] at g; omega
      · rw [(E c c0 c1).2.2.1 k] at g; omega
      · rw [nO c c0 c1] at g; omega
      · exact .inr (.inl ((E c c0 c1).2.2.1 k))
    obtain ⟨st, v, hr, J⟩ := loop_ok hn a1 w1 h1.2.2 a1.length 2000 0 t w (by decide) (by omega) (by omega) (by omega) ⟨S, kd, fun i i0 i1 _ => (F.ext i i0 i1).2, fun i i0 i1 k => (E i i0 i1).2.2.2 k⟩
    rw [e, cond_false, hB, Option.bind_some, hw, Option.bind_some, hr, Option.bind_some]
    simp only [Brk.go, cond_true]
    rw [root_pl J.S.h J.S.hv 32 (by decide), if_neg (fun z => by have := z.2.1; omega)]
    rfl
  · have e : (decide (a0 < 1) || decide (7 < a0) || decide (100 < (a1.length : Int))) = true := by
      rw [← Bool.not_eq_false]; simp; omega
    rw [e]; rfl

theorem own : ownKnob Try.prog.godebug = none := by kernel_rfl
theorem laidOut : laidOutB Try.prog = true := by kernel_rfl
set_option maxRecDepth 100000 in
theorem lifted (os : Os) (started : os.Started) (H : Type) (enc : TypeId × Value → H) :
    ReturnsInHanded {} Try.checked os 5 .any (Rows.tcbPlaysSpec.pre6 enc Try.prog Try.f5 Rows.tcbPlaysRow.domain false) (Rows.tcbPlaysSpec.post enc Try.prog Try.f5 false true false false) := by
  refine returnsInHanded_of_change (C := Try.checked) own started (by kernel_rfl) Try.func5
    (ChangeSpec.witness6 (enc := enc) (C := Try.checked) false ⟨#[], #[.int .i64 0, .slice none 0 0], []⟩ 8 (by kernel_rfl) (by kernel_rfl) (by kernel_rfl) (by kernel_rfl)) ?_
  intro W base args ds gs before hval0 hW hcnd _
  have hval : ∀ (j : Nat) t v, Try.f5.params[j]? = some t → args[j]? = some v → Value.okWide Try.prog W .any base t v := hval0
  have hW' := hW
  obtain ⟨p, q, hA0, hV, rfl, hfz, hnd⟩ := hW
  have hA : DataW.TrodAll enc Try.prog W 0 (fun _ => true) true Try.f5.params.toList args.toList ds p := hA0
  rw [Try.params5] at hA hval
  obtain ⟨v0, vs0, d0, ds0, p0, q0, hargs, rfl, rfl, h0, r0⟩ := trodAll_cons hA
  obtain ⟨v1, vs1, d1, ds1, p1, q1, rfl, rfl, rfl, h1, r1⟩ := trodAll_cons r0
  obtain ⟨rfl, rfl, rfl⟩ := trodAll_nil r1
  obtain rfl : args = #[v0, v1] := by cases args; simp_all
  obtain ⟨rfl, rfl⟩ := trodVars_none hV
  obtain ⟨a0, rfl, rfl, rfl, w0⟩ := open_int Try.underlying3 (hval 0 3 v0 rfl rfl) h0
  obtain ⟨a1, r1', w1, _⟩ := open_sl (K := ek_law17_Deed) pa_law17_Deed Try.underlying47 (by kernel_rfl) (hval 1 47 v1 rfl rfl) h1
  obtain ⟨k, hk⟩ := ok a0 a1 w0 w1
  refine (Ct.law (law17_TcbPlays.ct _ _ a0 a1 _ hk) (W := W) r1').mono fun e W' ⟨he, hg⟩ => ?_
  subst he
  exact ⟨_, rfl, law_post hW' laidOut (by kernel_rfl) hg (by kernel_rfl) Try.underlying4 rfl rfl⟩
theorem over : Rows.tcbPlaysRow.holds Try.pinned (OpenSpec.ofChange Rows.tcbPlaysSpec) :=
  OpenClaim.holds_of_wide 5 Try.f5 rfl rfl rfl rfl rfl rfl rfl ⟨rfl, rfl, rfl, rfl, rfl⟩ rfl rfl rfl rfl rfl (by kernel_rfl) Try.func5 (by kernel_rfl)
    (of_decide_eq_true (by kernel_rfl)) (by unfold Func.isWrapper; first | (rw [if_pos (by decide +kernel)]; kernel_rfl) | (rw [if_neg (by decide +kernel)]; exact ⟨rfl, rfl⟩))
    (fun os started H enc _ => lifted os started H enc)
theorem proved : Rows.TcbPlaysSaid :=
  over
#print axioms proved
end Go.Proofs.Ytoccfjmgbcbbkaa.tcbPlays
