/- The given statement 'EndpOnce' of the given program: whatever the input, the law answers true and the input reads as it did. On no condition. -/
import Derived.Test.YtoccfjmgbcbbkaaFnEndpOnce2
import Derived.Test.YtoccfjmgbcbbkaaFr1
import Derived.Test.YtoccfjmgbcbbkaaPlEndpOnce1
import Derived.Test.YtoccfjmgbcbbkaaRows
set_option linter.all false
namespace Go.Proofs.Ytoccfjmgbcbbkaa.endpOnce
open Go.ChangeShapes Go.WideShapes Go.ChangeAt Go.RowKit Go.Sl
def wf_law15_Deed (x : law15_Deed) : Prop := (fits .i64) x.What ∧ (fits .i64) x.T ∧ (fits .i64) x.N ∧ (fits .i64) x.B
theorem pa_law15_Deed : Parse Try.prog 32 (fun x : law15_Deed => [.int .i64 x.What, .int .i64 x.T, .int .i64 x.N, .int .i64 x.B]) wf_law15_Deed := by
  intro H enc w base sp hd n cs x h
  obtain ⟨xs, m, -, -, hl, hx, hf⟩ := DataW.trod_struct Try.underlying32 h
  rw [show Try.prog.cellsOf 32 = 4 by kernel_rfl] at hl
  obtain ⟨a0, e0, w0⟩ := parse_field (i := 0) (o := 0) (sz := 1) hx hf (parse_int Try.underlying3) rfl rfl rfl (by kernel_rfl)
  obtain ⟨a1, e1, w1⟩ := parse_field (i := 1) (o := 1) (sz := 1) hx hf (parse_int Try.underlying3) rfl rfl rfl (by kernel_rfl)
  obtain ⟨a2, e2, w2⟩ := parse_field (i := 2) (o := 2) (sz := 1) hx hf (parse_int Try.underlying3) rfl rfl rfl (by kernel_rfl)
  obtain ⟨a3, e3, w3⟩ := parse_field (i := 3) (o := 3) (sz := 1) hx hf (parse_int Try.underlying3) rfl rfl rfl (by kernel_rfl)
  clear hf hx h
  match cs, hl with
  | [c0, c1, c2, c3], _ =>
    simp at e0 e1 e2 e3
    subst e0 e1 e2 e3
    exact ⟨⟨a0, a1, a2, a3⟩, rfl, w0, w1, w2, w3⟩

open Go.Proofs
theorem getb {l : List Bool} {t : Int} (h0 : 0 ≤ t) (h1 : t < (l.length : Int)) : at_ l t = some (l.getD t.toNat false) := by
  unfold at_
  rw [decide_eq_true h0, cond_true, List.getD, List.getElem?_eq_getElem (by omega)]; rfl
section
variable {n : Nat} (hn : 2 ≤ n ∧ n ≤ 7)
include hn
theorem st_fv {st : ref10_State} {v : List Int} (S : ES st v) (kd : ∀ j, 0 ≤ j → j < 32 → (obt st j).Kind = kindAt n j) {x : Int} (h0 : 0 ≤ x) (h1 : x < n) : VM.run plainI (endp_State.f x) v = some ((obt st x).State, v) := by
  have k5 := kd_t hn kd h0 h1
  have fv : fld v x 1 = (obt st x).State := by rw [fv_t S.h S.hv ⟨h0, by omega⟩ k5 (by decide) (.inl (by decide)), own5 k5]; rfl
  rw [state_ok (S.hv.good S.h).1, fv]
theorem wd_at {st : ref10_State} {v : List Int} (S : ES st v) (kd : ∀ j, 0 ≤ j → j < 32 → (obt st j).Kind = kindAt n j) {x : Int} (h0 : 0 ≤ x) (h1 : x < n) : at_ v (w64 ((w64 (480 + (w64 (8 * x)))) + 3)) = some (obt st x).Word ∧ w64 (obt st x).Word = (obt st x).Word := by
  have k5 := kd_t hn kd h0 h1
  have fv : fld v x 3 = (obt st x).Word := by rw [fv_t S.h S.hv ⟨h0, by omega⟩ k5 (by decide) (.inl (by decide)), own5 k5]; rfl
  have wd := (S.h.obj x h0 (by omega)).word
  rw [w64_id (x := 8 * x) (by omega) (by omega), w64_id (x := 480 + 8 * x) (by omega) (by omega), w64_id (x := 480 + 8 * x + 3) (by omega) (by omega), raw_at (S.hv.good S.h).1 (S.hv.sm S.h) ⟨h0, by omega, by decide, by decide⟩, fv]
  exact ⟨rfl, w64_id (by omega) (by omega)⟩
/-- Does any receive? -/
theorem rec_l {st : ref10_State} {v : List Int} (S : ES st v) (kd : ∀ j, 0 ≤ j → j < 32 → (obt st j).Kind = kindAt n j) : ∀ (m k : Nat) (x : Int) (b : Bool), 0 ≤ x → x + m = n → m < k → ∃ r, law15_EndpOnce.l4 n k (x, b, v) = some (r, v) ∧ (r = true ↔ b = true ∨ ∃ t, x ≤ t ∧ t < n ∧ (obt st t).State = 3) := by
  intro m
  induction m with
  | zero =>
    intro k x b h0 h1 hk
    obtain ⟨k, rfl⟩ : ∃ q, k = q + 1 := ⟨k - 1, by omega⟩
    unfold law15_EndpOnce.l4
    rw [decide_eq_false (by omega)]
    refine ⟨b, rfl, ⟨.inl, fun z => ?_⟩⟩
    rcases z with z | ⟨t, t0, t1, _⟩
    · exact z
    · omega
  | succ m ih =>
    intro k x b h0 h1 hk
    obtain ⟨k, rfl⟩ : ∃ q, k = q + 1 := ⟨k - 1, by omega⟩
    unfold law15_EndpOnce.l4
    rw [decide_eq_true (by omega), cond_true, w64_id (by omega) (by omega), st_fv hn S kd h0 (by omega), Option.bind_some]
    simp only []
    cases b with
    | true =>
      obtain ⟨r, e, c⟩ := ih k (x + 1) true (by omega) (by omega) (by omega)
      rw [cond_true, Option.bind_some]
      exact ⟨r, e, ⟨fun _ => .inl rfl, fun _ => c.2 (.inl rfl)⟩⟩
    | false =>
      obtain ⟨r, e, c⟩ := ih k (x + 1) ((obt st x).State == 3) (by omega) (by omega) (by omega)
      rw [cond_false, Option.bind_some]
      refine ⟨r, e, c.trans ⟨fun z => ?_, fun z => ?_⟩⟩
      · rcases z with z | ⟨t, t0, t1, ts⟩
        · exact .inr ⟨x, by omega, by omega, by simpa using z⟩
        · exact .inr ⟨t, by omega, t1, ts⟩
      · rcases z with z | ⟨t, t0, t1, ts⟩
        · cases z
        · by_cases e : t = x
          · left; rw [e] at ts; simpa using ts
          · exact .inr ⟨t, by omega, t1, ts⟩
def cnt4 (st : ref10_State) (l : List Nat) : Nat := l.countP fun t : Nat => decide ((obt st (t : Int)).State = 4)
theorem cnt_l {st : ref10_State} {v : List Int} (S : ES st v) (kd : ∀ j, 0 ≤ j → j < 32 → (obt st j).Kind = kindAt n j) : ∀ (m k x : Nat) (c : Int), x + m = n → m < k → 0 ≤ c → c + m ≤ 1000 → law15_EndpOnce.l5 n k ((x : Int), c, v) = some (c + cnt4 st (List.range' x m), v) ∧ law15_EndpOnce.l6 n k ((x : Int), c, v) = some (c + cnt4 st (List.range' x m), v) := by
  intro m
  induction m with
  | zero =>
    intro k x c h1 hk c0 c1
    obtain ⟨k, rfl⟩ : ∃ q, k = q + 1 := ⟨k - 1, by omega⟩
    unfold law15_EndpOnce.l5 law15_EndpOnce.l6
    rw [decide_eq_false (by omega)]
    simp [cnt4]
  | succ m ih =>
    intro k x c h1 hk c0 c1
    obtain ⟨k, rfl⟩ : ∃ q, k = q + 1 := ⟨k - 1, by omega⟩
    have ew : w64 ((x : Int) + 1) = ((x + 1 : Nat) : Int) := w64_id (by omega) (by omega)
    unfold law15_EndpOnce.l5 law15_EndpOnce.l6
    rw [decide_eq_true (by omega), cond_true, cond_true, ew, st_fv hn S kd (by omega) (by omega), Option.bind_some, Option.bind_some, w64_id (x := c + 1) (by omega) (by omega)]
    simp only []
    have er : cnt4 st (List.range' x (m + 1)) = (if (obt st x).State = 4 then 1 else 0) + cnt4 st (List.range' (x + 1) m) := by
      unfold cnt4
      rw [List.range'_succ, List.countP_cons]
      by_cases c4 : (obt st x).State = 4 <;> simp [c4] <;> omega
    rw [er]
    by_cases c4 : (obt st x).State = 4
    · have e : ((obt st x).State == 4) = true := by simpa using c4
      obtain ⟨a1, a2⟩ := ih k (x + 1) (c + 1) (by omega) (by omega) (by omega) (by omega)
      rw [e, cond_true, cond_true, a1, a2, if_pos c4]
      constructor <;> (congr 2; push_cast; omega)
    · have e : ((obt st x).State == 4) = false := by simpa using c4
      obtain ⟨a1, a2⟩ := ih k (x + 1) c (by omega) (by omega) (by omega) (by omega)
      rw [e, cond_false, cond_false, a1, a2, if_neg c4]
      constructor <;> (congr 2; push_cast; omega)
end
theorem cp_one {p q : Nat → Bool} : ∀ (l : List Nat) (c : Nat), l.Nodup → c ∈ l → p c = true → q c = false → (∀ t ∈ l, t ≠ c → p t = q t) → l.countP p = l.countP q + 1
  | [], _, _, h, _, _, _ => by cases h
  | a :: l, c, hn, hc, hp, hq, he => by
    have hn2 := List.nodup_cons.1 hn
    rw [List.countP_cons, List.countP_cons]
    by_cases e : a = c
    · subst e
      have : l.countP p = l.countP q := List.countP_congr fun t ht => by rw [he t (List.mem_cons_of_mem _ ht) (fun z => hn2.1 (by rw [← z]; exact ht))]
      rw [this, hp, hq]; simp
    · have hr2 : c ∈ l := by
        rcases List.mem_cons.1 hc with z | z
        · exact absurd z.symm e
        · exact z
      rw [cp_one l c hn2.2 hr2 hp hq (fun t ht => he t (List.mem_cons_of_mem _ ht)), he a List.mem_cons_self e]; omega
theorem cnt_ans {n : Nat} {st st' : ref10_State} {t w c : Int} (A : AnsA st st' t w c) (hc : c < n) : cnt4 st (List.range n) = cnt4 st' (List.range n) + 1 := by
  have c0 := A.c0
  refine cp_one (List.range n) c.toNat List.nodup_range (List.mem_range.2 (by omega)) ?_ ?_ fun y hy e => ?_
  · rw [show ((c.toNat : Nat) : Int) = c by omega]; simpa using A.sc
  · rw [show ((c.toNat : Nat) : Int) = c by omega, A.o c c0, if_pos rfl]; simp [wokeO]
  · rw [A.o y (by omega), if_neg (by omega)]
    by_cases z : (y : Int) = t
    · rw [if_pos z, z]; rfl
    · rw [if_neg z]
theorem loop_ok {n : Nat} (hn : 2 ≤ n ∧ n ≤ 7) (a1 : List law15_Deed) (hw : ∀ x ∈ a1, wf_law15_Deed x) (hl : a1.length ≤ 120) : ∀ (m k : Nat) (i : Int) (st : ref10_State) (v sent got : List Int) (bl : List Bool), 0 ≤ i → i ≤ a1.length → (a1.length : Int) - i = m → m + 1000 < k → J n i st v sent got bl → ∃ st' v' sent' got' bl', law15_EndpOnce.l2 n a1 k (i, sent, got, v, bl) = some (Brk.nx (sent', got', bl', v')) ∧ J n a1.length st' v' sent' got' bl' := by
  intro m
  induction m with
  | zero =>
    intro k i st v sent got bl h0 h1 h2 hk hJ
    obtain ⟨k, rfl⟩ : ∃ q, k = q + 1 := ⟨k - 1, by omega⟩
    unfold law15_EndpOnce.l2
    rw [decide_eq_false (by omega)]
    exact ⟨st, v, sent, got, bl, rfl, hJ.up hn (by omega)⟩
  | succ m ih =>
    intro k i st v sent got bl h0 h1 h2 hk hJ
    obtain ⟨k, rfl⟩ : ∃ q, k = q + 1 := ⟨k - 1, by omega⟩
    obtain ⟨x, hx, hm⟩ := at_some h0 (by omega : i < (a1.length : Int))
    have wf := hw x hm
    have hp : law10_Pick.f x.What 4 = some (pick x.What 4) := pick_ok wf.1 (by decide) (by decide)
    have hpt : law10_Pick.f x.T n = some (pick x.T n) := pick_ok wf.2.1 (by omega) (by omega)
    have hrt := pick_lt x.T (n := n) (by omega)
    have e1 : w64 (i + 1) = i + 1 := w64_id (by omega) (by omega)
    have eo : w64 ((n : Int) + 3) = n + 3 := w64_id (by omega) (by omega)
    have ho : 0 ≤ (n : Int) + 3 ∧ (n : Int) + 3 < 32 := by omega
    have next := fun st v sent got bl (hI : J n (i + 1) st v sent got bl) => ih k (i + 1) st v sent got bl (by omega) (by omega) (by omega) (by omega) hI
    unfold law15_EndpOnce.l2
    rw [decide_eq_true (by omega), cond_true, hx, Option.bind_some, hpt, Option.bind_some, eo, e1]
    generalize pick x.T n = t at hrt
    have ht : 0 ≤ t ∧ t < 32 := by omega
    have k5 := kd_t hn hJ.kd hrt.1 hrt.2
    have k3 := kd_e hn hJ.kd
    rw [st_fv hn hJ.S hJ.kd hrt.1 hrt.2, Option.bind_some]
    simp only []
    by_cases hs : (obt st t).State = 1
    · have es : ((obt st t).State != 1) = false := by simpa using hs
      have ett : ((t.toNat : Nat) : Int) = t := by omega
      rw [es, cond_false, getb hrt.1 (by rw [hJ.lb]; exact hrt.2), Option.bind_some]
      have col : ∃ got' bl', (bif bl.getD t.toNat false then ((some (bl.getD t.toNat false)).bind fun x54 => (at_ v (w64 ((w64 (480 + (w64 (8 * t)))) + 3))).bind fun x57 => (app got ([w64 x57])).bind fun zs61 => some (zs61, bl.set t.toNat false)) else (some (got, bl))) = some (got', bl') ∧ J n i st v sent got' bl' ∧ bl'.getD t.toNat false = false := by
        cases eb : bl.getD t.toNat false with
        | false => exact ⟨got, bl, rfl, hJ, eb⟩
        | true =>
          obtain ⟨w1, w2⟩ := wd_at hn hJ.S hJ.kd hrt.1 hrt.2
          have gl := hJ.gl
          rw [cond_true, Option.bind_some, w1, Option.bind_some, w2, app_ok (by simp; omega), Option.bind_some]
          refine ⟨_, _, rfl, ?_, ?_⟩
          · have := hJ.collect hn h0 (t := t.toNat) (by omega) (by rw [ett]; exact hs) eb
            rwa [ett] at this
          · rw [List.getD, List.getElem?_set_self (by rw [hJ.lb]; omega)]; rfl
      obtain ⟨got', bl', ec, hJ', hb⟩ := col
      rw [ec, Option.bind_some]
      simp only []
      clear ec hJ
      rw [hp, Option.bind_some]
      generalize pick x.What 4 = p
      have gl := hJ'.gl
      by_cases hp2 : p < 2
      · obtain ⟨r, hr, hr2⟩ := rec_l hn hJ'.S hJ'.kd n k 0 false (by decide) (by omega) (by omega)
        obtain ⟨is, st', v', _, s2, s3, s4, s5⟩ := send_pl hJ'.S ho k3 ht k5 hs (w := i + 1) (b := 0) (by omega) (by decide) (p == 1) (k := k) (by omega)
        have snt : app sent [i + 1] = some (sent ++ [i + 1]) := app_ok (by have := hJ'.ln; simp; omega)
        have hri : is = ((!r) || (p == 1)) ∧ J n (i + 1) st' v' (sent ++ [i + 1]) got' bl' := by
          rcases s5 with ⟨y, l, A⟩ | B
          · have my := J.mem hn hJ' (t := y) (by rw [A.q]; exact List.mem_cons_self)
            have : r = true := hr2.2 (.inr ⟨y, my.1, my.2.1, by have := A.wt; omega⟩)
            exact ⟨by rw [A.is, this]; rfl, hJ'.sendA hn h0 s3 s4 hrt.1 hrt.2 hs hb A⟩
          · have : r = false := by
              cases e : r with
              | false => rfl
              | true =>
                rcases hr2.1 e with z | ⟨y, y0, y1, ys⟩
                · cases z
                · have m := J.mem hn hJ' (J.mem_of hn hJ' y0 y1 (.inr (.inr ys)))
                  have := B.wt
                  omega
            exact ⟨by rw [B.is, this]; rfl, hJ'.sendB hn h0 s3 s4 hrt.1 hrt.2 hs hb B⟩
        rw [decide_eq_true hp2, cond_true, hr, Option.bind_some]
        simp only []
        rw [s2, Option.bind_some]
        simp only [Option.isSome_none, Bool.false_or]
        rw [hri.1, bne_self_eq_false, cond_false, snt, Option.bind_some]
        exact next _ _ _ _ _ hri.2
      · rw [decide_eq_false hp2, cond_false]
        by_cases hp3 : p = 2
        · have ep : (p == 2) = true := by simpa using hp3
          obtain ⟨rp, is, q, st', v', _, s2, s3, s4, s5⟩ := recv_pl hJ'.S ho k3 ht k5 hs (k := k) (by omega)
          rw [ep, cond_true, s2, Option.bind_some]
          simp only []
          rcases s5 with ⟨y, l, A⟩ | B | C
          · rw [if_pos A.ans.2.2, A.ans.2.1]
            simp only [Option.isSome_none, cond_false, cond_true]
            rw [app_ok (by simp; omega), Option.bind_some]
            exact next _ _ _ _ _ ((hJ'.recvA hn s3 s4 hrt.1 hrt.2 hs hb A).up hn (by omega))
          · rw [if_pos B.ans.2.2, B.ans.2.1]
            simp only [Option.isSome_none, cond_false]
            rw [getb hrt.1 (by rw [hJ'.lb]; exact hrt.2), Option.bind_some]
            exact next _ _ _ _ _ ((hJ'.recvB hn s3 s4 hrt.1 hrt.2 hs hb B).up hn (by omega))
          · rw [if_neg (by rw [C.ans.2.2]; decide), C.ans.2.2]
            simp only [Option.isSome_some, cond_true, bne_self_eq_false, cond_false]
            have := C.o
            subst this
            exact next _ _ _ _ _ ({ hJ'.up hn (show i ≤ i + 1 by omega) with S := s3 })
        · have ep : (p == 2) = false := by simpa using hp3
          obtain ⟨q, st', v', s2, s3, s4, s5⟩ := answer_pl hJ'.S ht k5 hs (w := 0) (by decide)
          have c5 := (cnt_l hn hJ'.S hJ'.kd n k 0 0 (by omega) (by omega) (by decide) (by omega)).1
          have kd' : ∀ j, 0 ≤ j → j < 32 → (obt st' j).Kind = kindAt n j := fun y y0 y1 => by rw [s4.k y y0]; exact hJ'.kd y y0 y1
          have c6 := (cnt_l hn s3 kd' n k 0 0 (by omega) (by omega) (by decide) (by omega)).2
          rw [show ((0 : Nat) : Int) = 0 by rfl, Int.zero_add, ← List.range_eq_range'] at c5 c6
          rw [ep, cond_false, c5, Option.bind_some]
          simp only []
          rw [s2, Option.bind_some]
          simp only []
          rw [c6, Option.bind_some]
          simp only []
          have cl : cnt4 st (List.range n) ≤ n := by unfold cnt4; have := List.countP_le_length (p := fun t : Nat => decide ((obt st (t : Int)).State = 4)) (l := List.range n); rw [List.length_range] at this; exact this
          rw [w64_id (by omega) (by omega)]
          rcases s5 with ⟨rfl, c, A⟩ | ⟨rfl, rfl, rfl, _⟩
          · have lc := kd_of hn hJ'.kd A.c0 A.c1 A.kc
            have ca := cnt_ans A lc
            have e : (((cnt4 st' (List.range n) : Nat) : Int) == ((cnt4 st (List.range n) : Nat) : Int) - 1) = true := by simp; omega
            rw [if_pos rfl, e]
            exact next _ _ _ _ _ ((hJ'.answer hn s3 s4 hrt.1 hrt.2 A).up hn (by omega))
          · have e : (((cnt4 st' (List.range n) : Nat) : Int) == ((cnt4 st' (List.range n) : Nat) : Int) - 1) = false := by simp; omega
            rw [if_neg (by decide), e]
            exact next _ _ _ _ _ (hJ'.up hn (by omega))
    · have es : ((obt st t).State != 1) = true := by simpa using hs
      rw [es, cond_true]
      exact next _ _ _ _ _ (hJ.up hn (by omega))
/-- The rest is told. -/
theorem tell_l {n : Nat} (hn : 2 ≤ n ∧ n ≤ 7) {st : ref10_State} {v : List Int} {bl : List Bool} (S : ES st v) (kd : ∀ j, 0 ≤ j → j < 32 → (obt st j).Kind = kindAt n j) (lb : bl.length = n) : ∀ (m k x : Nat) (g : List Int), x + m = n → m < k → g.length + m ≤ 1000 → law15_EndpOnce.l7 n bl k ((x : Int), g, v) = some (g ++ (List.range' x m).filterMap (pf st bl), v) := by
  intro m
  induction m with
  | zero =>
    intro k x g h1 hk hg
    obtain ⟨k, rfl⟩ : ∃ q, k = q + 1 := ⟨k - 1, by omega⟩
    unfold law15_EndpOnce.l7
    rw [decide_eq_false (by omega)]
    simp
  | succ m ih =>
    intro k x g h1 hk hg
    obtain ⟨k, rfl⟩ : ∃ q, k = q + 1 := ⟨k - 1, by omega⟩
    have ew : w64 ((x : Int) + 1) = ((x + 1 : Nat) : Int) := w64_id (by omega) (by omega)
    have en : ((x : Int)).toNat = x := by omega
    unfold law15_EndpOnce.l7
    rw [decide_eq_true (by omega), cond_true, ew, getb (by omega) (by omega), Option.bind_some, st_fv hn S kd (by omega) (by omega), Option.bind_some, en]
    simp only []
    rw [List.range'_succ]
    obtain ⟨w1, w2⟩ := wd_at hn S kd (x := (x : Int)) (by omega) (by omega)
    cases eb : bl.getD x false with
    | false =>
      rw [cond_false, Option.bind_some]
      simp only []
      rw [cond_false, ih k (x + 1) g (by omega) (by omega) (by omega), List.filterMap_cons_none (by unfold pf; rw [eb]; simp)]
    | true =>
      rw [cond_true, Option.bind_some]
      simp only []
      by_cases e : (obt st x).State = 1
      · rw [show ((obt st x).State == 1) = true by simpa using e, cond_true, w1, Option.bind_some, w2, app_ok (by simp; omega), Option.bind_some, ih k (x + 1) _ (by omega) (by omega) (by simp; omega), List.filterMap_cons_some (by unfold pf; rw [if_pos ⟨eb, e⟩])]
        simp
      · rw [show ((obt st x).State == 1) = false by simpa using e, cond_false, ih k (x + 1) g (by omega) (by omega) (by omega), List.filterMap_cons_none (by unfold pf; rw [if_neg (fun z => e z.2)])]
def wt26 (st : ref10_State) (t : Nat) : Bool := decide ((obt st (t : Int)).State = 2 ∨ (obt st (t : Int)).State = 6)
theorem wait_l {n : Nat} (hn : 2 ≤ n ∧ n ≤ 7) {st : ref10_State} {v : List Int} (S : ES st v) (kd : ∀ j, 0 ≤ j → j < 32 → (obt st j).Kind = kindAt n j) : ∀ (m k x : Nat) (c : Int), x + m = n → m < k → 0 ≤ c → c + m ≤ 1000 → law15_EndpOnce.l8 n k ((x : Int), c, v) = some (c + (List.range' x m).countP (wt26 st), v) := by
  intro m
  induction m with
  | zero =>
    intro k x c h1 hk c0 c1
    obtain ⟨k, rfl⟩ : ∃ q, k = q + 1 := ⟨k - 1, by omega⟩
    unfold law15_EndpOnce.l8
    rw [decide_eq_false (by omega)]
    simp
  | succ m ih =>
    intro k x c h1 hk c0 c1
    obtain ⟨k, rfl⟩ : ∃ q, k = q + 1 := ⟨k - 1, by omega⟩
    have ew : w64 ((x : Int) + 1) = ((x + 1 : Nat) : Int) := w64_id (by omega) (by omega)
    have sf := st_fv hn S kd (x := (x : Int)) (by omega) (by omega)
    unfold law15_EndpOnce.l8
    rw [decide_eq_true (by omega), cond_true, ew, sf, Option.bind_some, w64_id (x := c + 1) (by omega) (by omega)]
    simp only []
    rw [sf, Option.bind_some]
    simp only []
    have er : (List.range' x (m + 1)).countP (wt26 st) = (if wt26 st x = true then 1 else 0) + (List.range' (x + 1) m).countP (wt26 st) := by
      rw [List.range'_succ, List.countP_cons]; omega
    rw [er]
    have cl : (bif (obt st x).State == 2 then (some (true, v)) else (some ((obt st x).State == 6, v))) = some (wt26 st x, v) := by
      unfold wt26
      by_cases e : (obt st x).State = 2
      · rw [show ((obt st x).State == 2) = true by simpa using e]; simp [e]
      · rw [show ((obt st x).State == 2) = false by simpa using e]
        by_cases e6 : (obt st x).State = 6 <;> simp [e6, e]
    rw [cl, Option.bind_some]
    simp only []
    cases ew : wt26 st x with
    | true =>
      rw [cond_true, ih k (x + 1) (c + 1) (by omega) (by omega) (by omega) (by omega), if_pos rfl]
      congr 2; push_cast; omega
    | false =>
      rw [cond_false, ih k (x + 1) c (by omega) (by omega) (by omega) (by omega), if_neg (by decide)]
      congr 2; push_cast; omega
theorem J.waits {n : Nat} (hn : 2 ≤ n ∧ n ≤ 7) {i : Int} {st : ref10_State} {v sent got : List Int} {bl : List Bool} (j : J n i st v sent got bl) : (List.range n).countP (wt26 st) = (msgs st (n + 3)).length := by
  have mem : ∀ t : Nat, t < n → wt26 st t = true → (obt st ((n : Int) + 3)).Wait = 1 := fun t ht h => by
    have h' : (obt st (t : Int)).State = 2 ∨ (obt st (t : Int)).State = 6 := of_decide_eq_true h
    have := J.mem hn j (J.mem_of hn j (t := (t : Int)) (by omega) (by omega) (by omega))
    omega
  unfold msgs
  by_cases hw : (obt st ((n : Int) + 3)).Wait = 1
  · rw [if_pos hw, List.length_map, List.countP_eq_length_filter]
    have nd1 : (((List.range n).filter (wt26 st)).map fun t : Nat => (t : Int)).Nodup := by
      refine List.Pairwise.map _ (fun a b h z => h ?_) (List.nodup_range.filter _)
      omega
    have nd2 := j.S.h.nodq ((n : Int) + 3) (by omega) (by omega)
    have P : (((List.range n).filter (wt26 st)).map fun t : Nat => (t : Int)).Perm (obt st ((n : Int) + 3)).Queue := by
      refine (List.perm_ext_iff_of_nodup nd1 nd2).2 fun a => ⟨fun h => ?_, fun h => ?_⟩
      · obtain ⟨t, h1, rfl⟩ := List.mem_map.1 h
        obtain ⟨h2, h3⟩ := List.mem_filter.1 h1
        have h' : (obt st (t : Int)).State = 2 ∨ (obt st (t : Int)).State = 6 := of_decide_eq_true h3
        have := List.mem_range.1 h2
        exact J.mem_of hn j (by omega) (by omega) (by omega)
      · have := J.mem hn j h
        refine List.mem_map.2 ⟨a.toNat, List.mem_filter.2 ⟨List.mem_range.2 (by omega), ?_⟩, by omega⟩
        unfold wt26
        rw [show ((a.toNat : Nat) : Int) = a by omega]
        exact decide_eq_true (by omega)
    have := P.length_eq
    rw [List.length_map] at this
    exact this
  · rw [if_neg hw]
    exact List.countP_eq_zero.2 fun t ht h => hw (mem t (List.mem_range.1 ht) h)
theorem getI {l : List Int} {t : Nat} (h1 : t < l.length) : at_ l (t : Int) = some l[t] := by
  unfold at_
  rw [decide_eq_true (by omega), cond_true, Int.toNat_natCast, List.getElem?_eq_getElem h1]
/-- How often it was sent. -/
theorem occ_l (sent got : List Int) (x : Nat) (hx : x < got.length) (hs : sent.length ≤ 1000) : ∀ (m k y : Nat) (c : Int), y + m = sent.length → m < k → 0 ≤ c → c + m ≤ 1000 → law15_EndpOnce.l10 sent got (x : Int) k ((y : Int), c) = some (c + (sent.drop y).count got[x]) := by
  intro m
  induction m with
  | zero =>
    intro k y c h1 hk c0 c1
    obtain ⟨k, rfl⟩ : ∃ q, k = q + 1 := ⟨k - 1, by omega⟩
    unfold law15_EndpOnce.l10
    rw [decide_eq_false (by omega), List.drop_eq_nil_of_le (by omega)]
    simp
  | succ m ih =>
    intro k y c h1 hk c0 c1
    obtain ⟨k, rfl⟩ : ∃ q, k = q + 1 := ⟨k - 1, by omega⟩
    have ew : w64 ((y : Int) + 1) = ((y + 1 : Nat) : Int) := w64_id (by omega) (by omega)
    unfold law15_EndpOnce.l10
    rw [decide_eq_true (by omega), cond_true, ew, getI (by omega), Option.bind_some, getI hx, Option.bind_some, w64_id (x := c + 1) (by omega) (by omega), List.drop_eq_getElem_cons (by omega : y < sent.length), List.count_cons]
    cases e : (sent[y] == got[x]) with
    | true =>
      rw [cond_true, ih k (y + 1) (c + 1) (by omega) (by omega) (by omega) (by omega), if_pos rfl]
      congr 1; push_cast; omega
    | false =>
      rw [cond_false, ih k (y + 1) c (by omega) (by omega) (by omega) (by omega), if_neg (by decide)]
      congr 1
theorem first_l (got : List Int) (nd : got.Nodup) (x : Nat) (hx : x < got.length) (hl : got.length ≤ 1000) : ∀ (m k y : Nat), y + m = x → m < k → law15_EndpOnce.l11 got (x : Int) k (y : Int) = some (Brk.nx ()) := by
  intro m
  induction m with
  | zero =>
    intro k y h1 hk
    obtain ⟨k, rfl⟩ : ∃ q, k = q + 1 := ⟨k - 1, by omega⟩
    unfold law15_EndpOnce.l11
    rw [decide_eq_false (by omega)]; rfl
  | succ m ih =>
    intro k y h1 hk
    obtain ⟨k, rfl⟩ : ∃ q, k = q + 1 := ⟨k - 1, by omega⟩
    have ew : w64 ((y : Int) + 1) = ((y + 1 : Nat) : Int) := w64_id (by omega) (by omega)
    have ne : (got[y]'(by omega) == got[x]) = false := by
      rw [beq_eq_false_iff_ne]
      intro z
      exact List.pairwise_iff_getElem.1 nd y x (by omega) hx (by omega) z
    unfold law15_EndpOnce.l11
    rw [decide_eq_true (by omega), cond_true, ew, getI (by omega), Option.bind_some, getI hx, Option.bind_some, ne, cond_false]
    exact ih k (y + 1) (by omega) (by omega)
theorem once_l (sent got : List Int) (hs : sent.length ≤ 1000) (hg : got.length ≤ 1000) (h : ∀ a, got.count a ≤ sent.count a) (h1 : ∀ a, sent.count a ≤ 1) : ∀ (m k x : Nat), x + m = got.length → m + 1001 < k → law15_EndpOnce.l9 sent got k (x : Int) = some (Brk.nx ()) := by
  have nd : got.Nodup := List.nodup_iff_count.2 fun a => Nat.le_trans (h a) (h1 a)
  intro m
  induction m with
  | zero =>
    intro k x hx hk
    obtain ⟨k, rfl⟩ : ∃ q, k = q + 1 := ⟨k - 1, by omega⟩
    unfold law15_EndpOnce.l9
    rw [decide_eq_false (by omega)]; rfl
  | succ m ih =>
    intro k x hx hk
    obtain ⟨k, rfl⟩ : ∃ q, k = q + 1 := ⟨k - 1, by omega⟩
    have ew : w64 ((x : Int) + 1) = ((x + 1 : Nat) : Int) := w64_id (by omega) (by omega)
    have o := occ_l sent got x (by omega) hs sent.length k 0 0 (by omega) (by omega) (by decide) (by omega)
    have f := first_l got nd x (by omega) hg x k 0 (by omega) (by omega)
    have one : sent.count (got[x]'(by omega)) = 1 := by
      have m0 := List.count_pos_iff.2 (List.getElem_mem (l := got) (n := x) (by omega))
      have := h (got[x]'(by omega))
      have := h1 (got[x]'(by omega))
      omega
    rw [List.drop_zero, one] at o
    unfold law15_EndpOnce.l9
    rw [decide_eq_true (by omega), cond_true, ew]
    erw [o]
    rw [Option.bind_some]
    erw [f]
    exact ih k (x + 1) (by omega) (by omega)
theorem fill_l (n : Nat) (hn : n ≤ 7) : ∀ (m k x : Nat) (l : List Int), x + m = n → m < k → l.length = n → ∃ r, law15_EndpOnce.l1 n k ((x : Int), l) = some r := by
  intro m
  induction m with
  | zero =>
    intro k x l h1 hk hl
    obtain ⟨k, rfl⟩ : ∃ q, k = q + 1 := ⟨k - 1, by omega⟩
    unfold law15_EndpOnce.l1
    rw [decide_eq_false (by omega)]; exact ⟨_, rfl⟩
  | succ m ih =>
    intro k x l h1 hk hl
    obtain ⟨k, rfl⟩ : ∃ q, k = q + 1 := ⟨k - 1, by omega⟩
    have ew : w64 ((x : Int) + 1) = ((x + 1 : Nat) : Int) := w64_id (by omega) (by omega)
    unfold law15_EndpOnce.l1
    rw [decide_eq_true (by omega), cond_true, ew, getI (by omega), Option.bind_some]
    exact ih k (x + 1) _ (by omega) (by omega) (by rw [List.length_set]; exact hl)
theorem ok (a0 : Int) (a1 : List law15_Deed) (w0 : (Lit.int .i64 a0).wf = true) (w1 : ∀ x ∈ a1, wf_law15_Deed x) : ∃ k, law15_EndpOnce.f k a0 a1 = some true := by
  refine ⟨2000, ?_⟩
  have hu : law15_up.f 2000 = some true := by decide +kernel
  unfold law15_EndpOnce.f
  rw [hu, Option.bind_some]
  by_cases h1 : 2 ≤ a0 ∧ a0 ≤ 7 ∧ a1.length ≤ 120
  · have e : (decide (a0 < 2) || decide (7 < a0) || decide (120 < (a1.length : Int))) = false := by simp; omega
    obtain ⟨n, rfl⟩ : ∃ n : Nat, a0 = n := ⟨a0.toNat, by omega⟩
    have hn : 2 ≤ n ∧ n ≤ 7 := by omega
    obtain ⟨t, hB, F, K⟩ := boot_ok (n := n) (by omega)
    have E := bootE_ok (n := n) (by omega) hB
    obtain ⟨w, hw, hiw⟩ := words_ok F.wf (k := 2000) (by decide)
    have kd : ∀ j, 0 ≤ j → j < 32 → (obt t j).Kind = kindAt n j := K
    have nO : ∀ i, 0 ≤ i → i < 32 → (obt t i).On = -1 := fun i i0 i1 => (F.que i i0 i1).2.1
    have nG : ∀ i, 0 ≤ i → i < 32 → (obt t i).Owing = -1 := fun i i0 i1 => (F.ext i i0 i1).1
    have S : ES t w := by
      refine ⟨F.wf, hiw, ⟨fun c c0 c1 k g => ?_, fun c c0 c1 k g => ?_, fun c c0 c1 k g => ?_, fun c c0 c1 k g => ?_, fun c c0 c1 k g => ?_⟩, fun o o0 o1 k q => (E o o0 o1).2.1⟩
      · rw [nG c c0 c1] at g; omega
      · rw [(E c c0 c1).1] at g; omega
      · rw [(E c c0 c1).2.2 k] at g; omega
      · rw [nO c c0 c1] at g; omega
      · exact .inr (.inl ((E c c0 c1).2.2 k))
    have S1 : ∀ x : Nat, x < n → (obt t (x : Int)).State = 1 := fun x hx => (E x (by omega) (by omega)).2.2 (kd_t hn kd (by omega) (by omega))
    have bf : ∀ x : Nat, (List.replicate n false).getD x false = false := fun x => by
      rw [List.getD, List.getElem?_replicate]; split <;> rfl
    have j0 : J n 0 t w [] [] (List.replicate n false) := by
      refine ⟨S, kd, fun x x0 x1 on => ?_, List.length_replicate, fun x hx b => ?_, fun x hx s => ?_, fun a => ?_, fun a => by simp, fun m hm => (by cases hm), by simp⟩
      · rw [nO x x0 (by omega)] at on; omega
      · rw [bf] at b; cases b
      · rw [S1 x hx] at s; omega
      · have p0 : pend n t (List.replicate n false) = [] := by
          unfold pend
          exact List.filterMap_eq_nil_iff.2 fun x _ => by unfold pf; rw [bf]; simp
        have m0 : msgs t (n + 3) = [] := by unfold msgs; rw [(E _ (by omega) (by omega)).2.1]; rfl
        rw [p0, m0]; rfl
    obtain ⟨st', v', sent, got, bl, hr, j⟩ := loop_ok hn a1 w1 h1.2.2 a1.length 2000 0 t w [] [] _ (by decide) (by omega) (by omega) (by omega) j0
    have gl := j.gl
    have ll := j.ln
    have m1 : mk_ false (n : Int) = some (List.replicate n false) := by
      unfold mk_
      rw [decide_eq_true (by omega), decide_eq_true (by omega), Bool.and_true, cond_true, Int.toNat_natCast]
    have m2 : mk_ (0 : Int) (n : Int) = some (List.replicate n 0) := by
      unfold mk_
      rw [decide_eq_true (by omega), decide_eq_true (by omega), Bool.and_true, cond_true, Int.toNat_natCast]
    obtain ⟨r1, f1⟩ := fill_l n hn.2 n 2000 0 (List.replicate n 0) (by omega) (by omega) List.length_replicate
    have t7 := tell_l hn j.S j.kd j.lb n 2000 0 got (by omega) (by omega) (by omega)
    have t8 := wait_l hn j.S j.kd n 2000 0 0 (by omega) (by omega) (by decide) (by omega)
    rw [← List.range_eq_range'] at t7 t8
    rw [J.waits hn j] at t8
    have P := j.perm
    have pl := P.length_eq
    rw [List.length_append, List.length_append] at pl
    have o9 := once_l sent (got ++ pend n st' bl) (by omega) (by rw [List.length_append]; omega) (fun a => by have := j.pm a; rw [List.count_append]; omega) j.nd (got ++ pend n st' bl).length 2000 0 (by omega) (by rw [List.length_append]; omega)
    rw [e, cond_false, hB, Option.bind_some, hw, Option.bind_some, m1, Option.bind_some, m2, Option.bind_some]
    erw [f1]
    rw [Option.bind_some, hr, Option.bind_some]
    simp only [Brk.go]
    erw [t7]
    rw [Option.bind_some]
    simp only []
    erw [t8]
    rw [Option.bind_some]
    simp only []
    have el : w64 (((got ++ pend n st' bl).length : Int) + (0 + ((msgs st' (n + 3)).length : Int))) = (sent.length : Int) := by
      rw [List.length_append, w64_id (by omega) (by omega)]; omega
    have el' := el
    unfold pend at el'
    erw [el', bne_self_eq_false, cond_false, o9]
    rfl
  · have e : (decide (a0 < 2) || decide (7 < a0) || decide (120 < (a1.length : Int))) = true := by
      rw [← Bool.not_eq_false]; simp; omega
    rw [e]; rfl

theorem own : ownKnob Try.prog.godebug = none := by kernel_rfl
theorem laidOut : laidOutB Try.prog = true := by kernel_rfl
set_option maxRecDepth 100000 in
theorem lifted (os : Os) (started : os.Started) (H : Type) (enc : TypeId × Value → H) :
    ReturnsInHanded {} Try.checked os 3 .any (Rows.endpOnceSpec.pre6 enc Try.prog Try.f3 Rows.endpOnceRow.domain false) (Rows.endpOnceSpec.post enc Try.prog Try.f3 false true false false) := by
  refine returnsInHanded_of_change (C := Try.checked) own started (by kernel_rfl) Try.func3
    (ChangeSpec.witness6 (enc := enc) (C := Try.checked) false ⟨#[], #[.int .i64 0, .slice none 0 0], []⟩ 8 (by kernel_rfl) (by kernel_rfl) (by kernel_rfl) (by kernel_rfl)) ?_
  intro W base args ds gs before hval0 hW hcnd _
  have hval : ∀ (j : Nat) t v, Try.f3.params[j]? = some t → args[j]? = some v → Value.okWide Try.prog W .any base t v := hval0
  have hW' := hW
  obtain ⟨p, q, hA0, hV, rfl, hfz, hnd⟩ := hW
  have hA : DataW.TrodAll enc Try.prog W 0 (fun _ => true) true Try.f3.params.toList args.toList ds p := hA0
  rw [Try.params3] at hA hval
  obtain ⟨v0, vs0, d0, ds0, p0, q0, hargs, rfl, rfl, h0, r0⟩ := trodAll_cons hA
  obtain ⟨v1, vs1, d1, ds1, p1, q1, rfl, rfl, rfl, h1, r1⟩ := trodAll_cons r0
  obtain ⟨rfl, rfl, rfl⟩ := trodAll_nil r1
  obtain rfl : args = #[v0, v1] := by cases args; simp_all
  obtain ⟨rfl, rfl⟩ := trodVars_none hV
  obtain ⟨a0, rfl, rfl, rfl, w0⟩ := open_int Try.underlying3 (hval 0 3 v0 rfl rfl) h0
  obtain ⟨a1, r1', w1, _⟩ := open_sl (K := ek_law15_Deed) pa_law15_Deed Try.underlying22 (by kernel_rfl) (hval 1 22 v1 rfl rfl) h1
  obtain ⟨k, hk⟩ := ok a0 a1 w0 w1
  refine (Ct.law (law15_EndpOnce.ct _ _ a0 a1 _ hk) (W := W) r1').mono fun e W' ⟨he, hg⟩ => ?_
  subst he
  exact ⟨_, rfl, law_post hW' laidOut (by kernel_rfl) hg (by kernel_rfl) Try.underlying4 rfl rfl⟩
theorem over : Rows.endpOnceRow.holds Try.pinned (OpenSpec.ofChange Rows.endpOnceSpec) :=
  OpenClaim.holds_of_wide 3 Try.f3 rfl rfl rfl rfl rfl rfl rfl ⟨rfl, rfl, rfl, rfl, rfl⟩ rfl rfl rfl rfl rfl (by kernel_rfl) Try.func3 (by kernel_rfl)
    (of_decide_eq_true (by kernel_rfl)) (by unfold Func.isWrapper; first | (rw [if_pos (by decide +kernel)]; kernel_rfl) | (rw [if_neg (by decide +kernel)]; exact ⟨rfl, rfl⟩))
    (fun os started H enc _ => lifted os started H enc)
theorem proved : Rows.EndpOnceSaid :=
  over
#print axioms proved
end Go.Proofs.Ytoccfjmgbcbbkaa.endpOnce
