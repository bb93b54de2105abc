/- The given statement 'NtfnKeeps' of the given program: whatever the input, the law answers true and the input reads as it did. On no condition. -/
import Derived.Test.YtehlmdihimmanaaFnNtfnKeeps2
import Derived.Test.YtehlmdihimmanaaSlLaw
import Derived.Test.YtehlmdihimmanaaP19SigNtfnKeeps
import Derived.Test.YtehlmdihimmanaaP19PickNtfnKeeps
import Derived.Test.YtehlmdihimmanaaRows
set_option linter.all false
namespace Go.Proofs.Ytehlmdihimmanaa.ntfnKeeps
open Go.ChangeShapes Go.WideShapes Go.ChangeAt Go.RowKit Go.Sl
def wf_law16_Deed (x : law16_Deed) : Prop := (fits .i64) x.What ∧ (fits .i64) x.T ∧ (fits .i64) x.B
theorem pa_law16_Deed : Parse Try.prog 54 (fun x : law16_Deed => [.int .i64 x.What, .int .i64 x.T, .int .i64 x.B]) wf_law16_Deed := by
  intro H enc w base sp hd n cs x h
  obtain ⟨xs, m, -, -, hl, hx, hf⟩ := DataW.trod_struct Try.underlying54 h
  rw [show Try.prog.cellsOf 54 = 3 by kernel_rfl] at hl
  obtain ⟨a0, e0, w0⟩ := parse_field (i := 0) (o := 0) (sz := 1) hx hf (parse_int Try.underlying3) rfl rfl rfl (by kernel_rfl)
  obtain ⟨a1, e1, w1⟩ := parse_field (i := 1) (o := 1) (sz := 1) hx hf (parse_int Try.underlying3) rfl rfl rfl (by kernel_rfl)
  obtain ⟨a2, e2, w2⟩ := parse_field (i := 2) (o := 2) (sz := 1) hx hf (parse_int Try.underlying3) rfl rfl rfl (by kernel_rfl)
  clear hf hx h
  match cs, hl with
  | [c0, c1, c2], _ =>
    simp at e0 e1 e2
    subst e0 e1 e2
    exact ⟨⟨a0, a1, a2⟩, rfl, w0, w1, w2⟩

open Go.Proofs
structure NK (n : Int) (s : List Int) (q : List Int) (w : Int) : Prop where
  g : Good s
  sm : Sm s
  iq : IsQ s (n + 4) q
  rg : ∀ t ∈ q, 0 ≤ t ∧ t < n
  nd : q.Nodup
  st : ∀ t, 0 ≤ t → t < n → fld s t 1 = if t ∈ q then 5 else 1
  wd : fld s (n + 4) 1 = w
  wr : 0 ≤ w ∧ w ≤ 65535
  wz : q ≠ [] → w = 0
section
variable {n w : Int} {s q : List Int}
theorem NK.rg' (h : NK n s q w) (hn : 1 ≤ n ∧ n ≤ 7) : ∀ x ∈ q, 0 ≤ x ∧ x < 32 := fun x hx => by have := h.rg x hx; omega
theorem NK.no (h : NK n s q w) (hn : 1 ≤ n ∧ n ≤ 7) : n + 4 ∉ q := fun z => by have := h.rg _ z; omega
theorem NK.poll (h : NK n s q w) (hn : 1 ≤ n ∧ n ≤ 7) : NK n (put s (n + 4) 1 0) q 0 := by
  have io : InObj (n + 4) 1 := ⟨by omega, by omega, by decide, by decide⟩
  have F := fun i f => fld_put h.g (n + 4) 1 0 i f (by decide)
  refine ⟨good_put h.g _ _ _, sm_put h.sm (by decide), h.iq.put h.g (by decide) (by omega) (by omega), h.rg, h.nd, fun t h1 h2 => ?_, ?_, by decide, fun _ => rfl⟩
  · rw [F, if_neg (by omega)]; exact h.st t h1 h2
  · rw [F, if_pos ⟨rfl, rfl, io, by decide⟩]
theorem NK.sig0 (h : NK n s [] w) (hn : 1 ≤ n ∧ n ≤ 7) {b : Int} (hb : 0 ≤ b ∧ b ≤ 65535) : NK n (put s (n + 4) 1 (bor .i64 w b)) [] (bor .i64 w b) := by
  have hl := bor_lt h.wr hb
  have io : InObj (n + 4) 1 := ⟨by omega, by omega, by decide, by decide⟩
  have F := fun i f => fld_put h.g (n + 4) 1 (bor .i64 w b) i f (by omega)
  refine ⟨good_put h.g _ _ _, sm_put h.sm (by omega), h.iq.put h.g (by omega) (by omega) (by omega), h.rg, h.nd, fun t h1 h2 => ?_, ?_, hl, fun q => absurd rfl q⟩
  · rw [F, if_neg (by omega)]; exact h.st t h1 h2
  · rw [F, if_pos ⟨rfl, rfl, io, hl.1⟩]
theorem NK.sig1 {t : Int} {l : List Int} (h : NK n s (t :: l) w) (hn : 1 ≤ n ∧ n ≤ 7) {b : Int} (hb : 0 ≤ b ∧ b ≤ 65535) : NK n (wakeTo (popTo s (n + 4) t) t b 0) l 0 ∧ fld (wakeTo (popTo s (n + 4) t) t b 0) t 3 = b ∧ 0 ≤ t ∧ t < n ∧ t ∉ l := by
  have ho : 0 ≤ n + 4 ∧ n + 4 < 32 := by omega
  have hr := h.rg' hn
  have ht := h.rg t List.mem_cons_self
  have ht2 : 0 ≤ t ∧ t < 32 := by omega
  have hto : t ≠ n + 4 := by omega
  have hnd := List.nodup_cons.1 h.nd
  have P := fld_popTo h.g h.iq ho hr hto
  have gp := good_popTo h.g (n + 4) t
  have F := fld_wakeTo gp (w := b) (b := 0) (t := t) (by omega) (by decide) ht2
  have hz := h.wz (by simp)
  refine ⟨⟨good_wakeTo gp _ _ _, sm_wakeTo (sm_popTo h.sm _ _) (by omega) (by decide), (h.iq.pop h.g ho hr (h.no hn) h.nd).wake gp (by omega) (by decide) ht2 hto, fun x hx => h.rg x (List.mem_cons_of_mem _ hx), hnd.2, fun i h1 h2 => ?_, ?_, by decide, fun _ => rfl⟩, ?_, ht.1, ht.2, hnd.1⟩
  · rw [F]
    by_cases e : i = t
    · subst e
      rw [if_pos ⟨rfl, rfl⟩, if_neg hnd.1]
    · rw [if_neg (by omega), if_neg (by omega), if_neg (by omega), if_neg (by omega), P, if_neg (by omega), if_neg (by omega), if_neg (by omega), h.st i h1 h2]
      simp only [List.mem_cons, e, false_or]
  · rw [F, if_neg (by omega), if_neg (by omega), if_neg (by omega), if_neg (by omega), P, if_neg (by omega), if_neg (by omega), if_neg (by omega), h.wd, hz]
  · rw [F, if_neg (by omega), if_pos ⟨rfl, rfl⟩]
theorem NK.block (h : NK n s q 0) (hn : 1 ≤ n ∧ n ≤ 7) {t : Int} (h1 : 0 ≤ t) (h2 : t < n) (ht : fld s t 1 = 1) : NK n (blockTo s (n + 4) t 5) (q ++ [t]) 0 ∧ fld (blockTo s (n + 4) t 5) t 1 = 5 := by
  have ho : 0 ≤ n + 4 ∧ n + 4 < 32 := by omega
  have hr := h.rg' hn
  have ht2 : 0 ≤ t ∧ t < 32 := by omega
  have htq : t ∉ q := fun z => by have := h.st t h1 h2; rw [if_pos z] at this; omega
  have hnd : (q ++ [t]).Nodup := by
    rw [List.nodup_append]
    refine ⟨h.nd, by simp, fun a ha b hb => ?_⟩
    rw [List.mem_singleton] at hb; subst hb
    intro e; subst e; exact htq ha
  have F := fld_blockTo h.g (x := 5) h.iq ho ht2 (by decide) hr
  have P := fld_pushTo h.g h.iq ho ht2 hr
  refine ⟨⟨good_blockTo h.g _ _ _, sm_blockTo h.sm ht2.2 ho.2 (by decide), h.iq.block h.g ho ht2 (by decide) hr (h.no hn) (by omega) hnd, ?_, hnd, fun i h3 h4 => ?_, ?_, by decide, fun _ => rfl⟩, ?_⟩
  · intro x hx
    rcases List.mem_append.1 hx with z | z
    · exact h.rg x z
    · rw [List.mem_singleton] at z; omega
  · rw [F]
    by_cases e : i = t
    · subst e; rw [if_pos ⟨rfl, rfl⟩, if_pos (by simp)]
    · rw [if_neg (by omega), if_neg (by omega), P, if_neg (by omega), if_neg (by omega), if_neg (by omega), if_neg (by omega), h.st i h3 h4]
      simp only [List.mem_append, List.mem_singleton, e, or_false]
  · rw [F, if_neg (by omega), if_neg (by omega), P, if_neg (by omega), if_neg (by omega), if_neg (by omega), if_neg (by omega), h.wd]
  · rw [F, if_pos ⟨rfl, rfl⟩]
end
theorem at_set {α : Type} {l : List α} {i : Int} (h0 : 0 ≤ i) (h1 : i < (l.length : Int)) (v : α) (j : Int) : at_ (l.set i.toNat v) j = if j = i then some v else at_ l j := by
  unfold at_
  by_cases e : j = i
  · subst e
    rw [if_pos rfl, decide_eq_true h0, cond_true, List.getElem?_set_self (by omega)]
  · rw [if_neg e]
    by_cases q : 0 ≤ j
    · rw [decide_eq_true q, cond_true, cond_true, List.getElem?_set_ne (by omega)]
    · rw [decide_eq_false q, cond_false, cond_false]
theorem l2_ok {n : Int} {s : List Int} (g : Good s) (hn : 1 ≤ n ∧ n ≤ 7) : ∀ (m k : Nat) (i : Int) (xs : List Bool), 0 ≤ i → i ≤ n → n - i = m → m < k → (xs.length : Int) = n → (∀ j, 0 ≤ j → j < i → at_ xs j = some (fld s j 1 == 5)) → ∃ ws, law16_NtfnKeeps.l2 n k (i, s, xs) = some (n, n, false, ws, s) ∧ ∀ j, 0 ≤ j → j < n → at_ ws j = some (fld s j 1 == 5) := by
  intro m
  induction m with
  | zero =>
    intro k i xs h0 h1 h2 hk hl hx
    obtain ⟨k, rfl⟩ : ∃ q, k = q + 1 := ⟨k - 1, by omega⟩
    obtain rfl : i = n := by omega
    unfold law16_NtfnKeeps.l2
    rw [decide_eq_false (by omega), cond_false]
    exact ⟨xs, rfl, hx⟩
  | succ m ih =>
    intro k i xs h0 h1 h2 hk hl hx
    obtain ⟨k, rfl⟩ : ∃ q, k = q + 1 := ⟨k - 1, by omega⟩
    unfold law16_NtfnKeeps.l2
    obtain ⟨y, hy, -⟩ := at_some h0 (by omega : i < (xs.length : Int))
    rw [decide_eq_true (by omega), cond_true, state_ok g, Option.bind_some]
    simp only [hy, Option.bind_some]
    rw [w64_id (by omega) (by omega)]
    refine ih k (i + 1) _ (by omega) (by omega) (by omega) (by omega) (by simpa using hl) fun j h3 h4 => ?_
    rw [at_set h0 (by omega)]
    by_cases e : j = i
    · rw [if_pos e, e]
    · rw [if_neg e]; exact hx j h3 (by omega)
theorem l3_no {n : Int} {s s' : List Int} {ws : List Bool} (g : Good s') (hn : 1 ≤ n ∧ n ≤ 7) (hw : ∀ j, 0 ≤ j → j < n → at_ ws j = some (fld s j 1 == 5)) : ∀ (m k : Nat) (i out : Int), 0 ≤ i → i ≤ n → n - i = m → m < k → (∀ j, i ≤ j → j < n → ¬ (fld s j 1 = 5 ∧ fld s' j 1 = 1)) → law16_NtfnKeeps.l3 n ws k (i, out, s') = some (out, n, n, false, s') := by
  intro m
  induction m with
  | zero =>
    intro k i out h0 h1 h2 hk hx
    obtain ⟨k, rfl⟩ : ∃ q, k = q + 1 := ⟨k - 1, by omega⟩
    obtain rfl : i = n := by omega
    unfold law16_NtfnKeeps.l3
    rw [decide_eq_false (by omega), cond_false]
  | succ m ih =>
    intro k i out h0 h1 h2 hk hx
    obtain ⟨k, rfl⟩ : ∃ q, k = q + 1 := ⟨k - 1, by omega⟩
    unfold law16_NtfnKeeps.l3
    have hb := hx i (Int.le_refl _) (by omega)
    have key : (bif (fld s i 1 == 5) then ((VM.run plainI (endp_State.f i) s').bind fun p => match p with | (t56, s58) => some (t56 == 1, s58)) else (some (false, s'))) = some (false, s') := by
      by_cases e : fld s i 1 = 5
      · have e1 : (fld s i 1 == 5) = true := by simpa using e
        have e2 : (fld s' i 1 == 1) = false := by
          have : ¬ fld s' i 1 = 1 := fun z => hb ⟨e, z⟩
          simpa using this
        rw [e1, cond_true, state_ok g, Option.bind_some]
        simp only [e2]
      · have e1 : (fld s i 1 == 5) = false := by simpa using e
        rw [e1]; rfl
    rw [decide_eq_true (by omega), cond_true, hw i h0 (by omega), Option.bind_some, key, Option.bind_some]
    simp only [cond_false]
    rw [w64_id (by omega) (by omega)]
    exact ih k (i + 1) out (by omega) (by omega) (by omega) (by omega) fun j h3 h4 => hx j (by omega) h4
theorem l3_one {n : Int} {s s' : List Int} {ws : List Bool} (g : Good s') (sm : Sm s') (hn : 1 ≤ n ∧ n ≤ 7) (hw : ∀ j, 0 ≤ j → j < n → at_ ws j = some (fld s j 1 == 5)) {t : Int} (ht : 0 ≤ t ∧ t < n) (h5 : fld s t 1 = 5) (h1' : fld s' t 1 = 1) (ho : ∀ j, 0 ≤ j → j < n → j ≠ t → ¬ (fld s j 1 = 5 ∧ fld s' j 1 = 1)) (hb : 0 ≤ fld s' t 3 ∧ fld s' t 3 ≤ 65535) : ∀ (m k : Nat) (i out : Int), 0 ≤ i → i ≤ t → n - i = m → m < k → law16_NtfnKeeps.l3 n ws k (i, out, s') = some (bor .i64 out (fld s' t 3), n, n, false, s') := by
  intro m
  induction m with
  | zero => intro k i out h0 h1 h2 hk; omega
  | succ m ih =>
    intro k i out h0 h1 h2 hk
    obtain ⟨k, rfl⟩ : ∃ q, k = q + 1 := ⟨k - 1, by omega⟩
    unfold law16_NtfnKeeps.l3
    by_cases e : i = t
    · subst e
      have e1 : (fld s i 1 == 5) = true := by simpa using h5
      have e2 : (fld s' i 1 == 1) = true := by simpa using h1'
      have hat := raw_at g sm (i := i) (f := 3) ⟨by omega, by omega, by decide, by decide⟩
      rw [decide_eq_true (by omega), cond_true, hw i h0 (by omega), Option.bind_some, e1, cond_true, state_ok g, Option.bind_some]
      simp only [e2, Option.bind_some, cond_true]
      rw [w64_id (x := 8 * i) (by omega) (by omega), w64_id (x := 480 + 8 * i) (by omega) (by omega), w64_id (x := 480 + 8 * i + 3) (by omega) (by omega), hat, Option.bind_some, w64_id (x := i + 1) (by omega) (by omega), w64_id (x := fld s' i 3) (by omega) (by omega)]
      exact l3_no g hn hw m k (i + 1) _ (by omega) (by omega) (by omega) (by omega) fun j h3 h4 => ho j (by omega) h4 (by omega)
    · have hb' := ho i h0 (by omega) e
      have key : (bif (fld s i 1 == 5) then ((VM.run plainI (endp_State.f i) s').bind fun p => match p with | (t56, s58) => some (t56 == 1, s58)) else (some (false, s'))) = some (false, s') := by
        by_cases e : fld s i 1 = 5
        · have e1 : (fld s i 1 == 5) = true := by simpa using e
          have e2 : (fld s' i 1 == 1) = false := by
            have : ¬ fld s' i 1 = 1 := fun z => hb' ⟨e, z⟩
            simpa using this
          rw [e1, cond_true, state_ok g, Option.bind_some]
          simp only [e2]
        · have e1 : (fld s i 1 == 5) = false := by simpa using e
          rw [e1]; rfl
      rw [decide_eq_true (by omega), cond_true, hw i h0 (by omega), Option.bind_some, key, Option.bind_some]
      simp only [cond_false]
      rw [w64_id (by omega) (by omega)]
      exact ih k (i + 1) out (by omega) (by omega) (by omega) (by omega)
theorem bor_nat (a b : Nat) (ha : a < 65536) (hb : b < 65536) : bor .i64 (a : Int) (b : Int) = ((a ||| b : Nat) : Int) ∧ a ||| b < 65536 := ⟨bor_i64 a b (by omega) (by omega), Nat.or_lt_two_pow (n := 16) (by omega) (by omega)⟩
/-- What came in, what was told. -/
structure Bits (i o w : Int) : Prop where
  e : ∃ a b c : Nat, i = (a : Int) ∧ o = (b : Int) ∧ w = (c : Int) ∧ a < 65536 ∧ b < 65536 ∧ c < 65536 ∧ a = b ||| c
theorem Bits.told {i o w : Int} (h : Bits i o w) : Bits i (bor .i64 o w) 0 := by
  obtain ⟨a, b, c, rfl, rfl, rfl, h1, h2, h3, h4⟩ := h.e
  obtain ⟨e, l⟩ := bor_nat b c h2 h3
  exact ⟨a, b ||| c, 0, rfl, e, rfl, h1, l, by decide, by rw [h4]; simp⟩
theorem Bits.word {i o w x : Int} (h : Bits i o w) (hx : 0 ≤ x ∧ x ≤ 65535) : Bits (bor .i64 i x) o (bor .i64 w x) := by
  obtain ⟨a, b, c, rfl, rfl, rfl, h1, h2, h3, h4⟩ := h.e
  obtain ⟨d, rfl⟩ := Int.eq_ofNat_of_zero_le hx.1
  obtain ⟨e1, l1⟩ := bor_nat a d h1 (by omega)
  obtain ⟨e2, l2⟩ := bor_nat c d h3 (by omega)
  exact ⟨a ||| d, b, c ||| d, e1, rfl, e2, l1, h2, l2, by rw [h4, Nat.or_assoc]⟩
theorem Bits.out {i o x : Int} (h : Bits i o 0) (hx : 0 ≤ x ∧ x ≤ 65535) : Bits (bor .i64 i x) (bor .i64 o x) 0 := by
  obtain ⟨a, b, c, rfl, rfl, hc, h1, h2, h3, h4⟩ := h.e
  have : c = 0 := by omega
  subst this
  obtain ⟨d, rfl⟩ := Int.eq_ofNat_of_zero_le hx.1
  obtain ⟨e1, l1⟩ := bor_nat a d h1 (by omega)
  obtain ⟨e2, l2⟩ := bor_nat b d h2 (by omega)
  exact ⟨a ||| d, b ||| d, 0, e1, e2, rfl, l1, l2, by decide, by rw [h4]; simp⟩
theorem Bits.none {i o w : Int} (h : Bits i o w) : Bits i (bor .i64 o 0) w := by
  obtain ⟨a, b, c, rfl, rfl, rfl, h1, h2, h3, h4⟩ := h.e
  obtain ⟨e, l⟩ := bor_nat b 0 h2 (by decide)
  exact ⟨a, b ||| 0, c, rfl, e, rfl, h1, l, h3, by rw [h4]; simp⟩
theorem loop_ok (n : Int) (hn : 1 ≤ n ∧ n ≤ 7) (a1 : List law16_Deed) (hw : ∀ x ∈ a1, wf_law16_Deed x) (hl : a1.length ≤ 120) : ∀ (m k : Nat) (i inn out w : Int) (s q : List Int), 0 ≤ i → i ≤ a1.length → (a1.length : Int) - i = m → m + 100 < k → NK n s q w → Bits inn out w → ∃ i' o' s' q' w', law16_NtfnKeeps.l1 n a1 k (i, out, inn, s) = some (Brk.nx (i', o', s')) ∧ NK n s' q' w' ∧ Bits i' o' w' := by
  intro m
  induction m with
  | zero =>
    intro k i inn out w s q h0 h1 h2 hk hs hb
    obtain ⟨k, rfl⟩ : ∃ q, k = q + 1 := ⟨k - 1, by omega⟩
    unfold law16_NtfnKeeps.l1
    rw [decide_eq_false (by omega)]
    exact ⟨_, _, _, _, _, rfl, hs, hb⟩
  | succ m ih =>
    intro k i inn out w s q h0 h1 h2 hk hs hb
    obtain ⟨k, rfl⟩ : ∃ q, k = q + 1 := ⟨k - 1, by omega⟩
    unfold law16_NtfnKeeps.l1
    rw [decide_eq_true (by omega), cond_true]
    obtain ⟨x, hx, hm⟩ := at_some h0 (by omega : i < (a1.length : Int))
    have wf := hw x hm
    have hp : law10_Pick.f x.What 4 = some (pick x.What 4) := pick_ok wf.1 (by decide) (by decide)
    have hpt : law10_Pick.f x.T n = some (pick x.T n) := pick_ok wf.2.1 (by omega) (by omega)
    have hpb : law10_Pick.f x.B 65536 = some (pick x.B 65536) := pick_ok wf.2.2 (by decide) (by decide)
    have hr := pick_lt x.What (n := 4) (by decide)
    have hrt := pick_lt x.T (n := n) (by omega)
    have hrb := pick_lt x.B (n := 65536) (by decide)
    have e1 : w64 (i + 1) = i + 1 := w64_id (by omega) (by omega)
    have eo : w64 (n + 4) = n + 4 := w64_id (by omega) (by omega)
    simp only [hx, hp, hpt, hpb, Option.bind_some, e1, eo]
    generalize pick x.What 4 = p at hr
    generalize pick x.T n = t at hrt
    generalize pick x.B 65536 = b at hrb
    have hb16 : 0 ≤ b ∧ b ≤ 65535 := by omega
    have ho : 0 ≤ n + 4 ∧ n + 4 < 32 := by omega
    have next := fun inn out w s q (hs : NK n s q w) (hb : Bits inn out w) => ih k (i + 1) inn out w s q (by omega) (by omega) (by omega) (by omega) hs hb
    have hwm : fld s (n + 4) 1 % 65536 = w := by rw [hs.wd]; have := hs.wr; omega
    by_cases hp2 : p < 2
    · have hmk : mk_ false n = some (List.replicate n.toNat false) := by
        unfold mk_; rw [decide_eq_true (by omega), decide_eq_true (by omega)]; rfl
      obtain ⟨ws, hws, hwa⟩ := l2_ok hs.g hn n.toNat k 0 (List.replicate n.toNat false) (by decide) (by omega) (by omega) (by omega) (by simp; omega) (fun j h3 h4 => by omega)
      rw [decide_eq_true hp2, cond_true, hmk, Option.bind_some, hws, Option.bind_some]
      simp only []
      rw [signal_q hs.g hs.iq ho (hs.rg' hn) hb16, Option.bind_some]
      simp only [Option.isSome_none, cond_false]
      cases q with
      | nil =>
        have h' := hs.sig0 hn hb16
        simp only [hwm]
        rw [l3_no h'.g hn hwa n.toNat k 0 out (by decide) (by omega) (by omega) (by omega) (fun j h3 h4 z => by have := hs.st j h3 h4; simp at this; omega), Option.bind_some]
        exact next _ _ _ _ _ h' (hb.word hb16)
      | cons u l =>
        obtain ⟨h', h3', hu1, hu2, hul⟩ := hs.sig1 hn hb16
        have hz := hs.wz (by simp)
        have hsu : fld s u 1 = 5 := by rw [hs.st u hu1 hu2, if_pos List.mem_cons_self]
        have hsu' := h'.st u hu1 hu2
        rw [if_neg hul] at hsu'
        have key := l3_one h'.g h'.sm hn hwa ⟨hu1, hu2⟩ hsu hsu' (fun j q1 q2 q3 z => by
          have a1 := hs.st j q1 q2
          have a2 := h'.st j q1 q2
          by_cases e : j ∈ l
          · rw [if_pos e] at a2; omega
          · rw [if_neg (by simp [q3, e])] at a1; omega) (by rw [h3']; exact hb16) n.toNat k 0 out (by decide) hu1 (by omega) (by omega)
        simp only []
        rw [key, Option.bind_some, h3']
        subst hz
        exact next _ _ _ _ _ h' (hb.out hb16)
    · rw [decide_eq_false hp2, cond_false]
      have ht2 : 0 ≤ t ∧ t < 32 := by omega
      by_cases hpe : p = 2
      · have e2 : (p == 2) = true := by simpa using hpe
        rw [e2, cond_true, state_ok hs.g, Option.bind_some]
        simp only [Option.bind_some]
        by_cases hst : fld s t 1 = 1
        · have e3 : (fld s t 1 == 1) = true := by simpa using hst
          rw [e3, cond_true, wait_ok hs.g ho ht2, hwm, Option.bind_some]
          by_cases hw0 : w = 0
          · subst hw0
            obtain ⟨h', h5⟩ := hs.block hn hrt.1 hrt.2 hst
            simp only [if_true, Option.isSome_none, Bool.false_and, Bool.or_self, cond_false, state_ok h'.g, Option.bind_some, h5]
            show ∃ i' o' s' q' w', (bif (false != ((5 : Int) == 1)) then _ else _) = _ ∧ _
            exact next _ _ _ _ _ h' hb.none
          · have h' := hs.poll hn
            have e4 : (w == 0) = false := by simpa using hw0
            have htn := h'.st t hrt.1 hrt.2
            have hto : t ∉ q := fun z => by have := hs.st t hrt.1 hrt.2; rw [if_pos z] at this; omega
            rw [if_neg hto] at htn
            simp only [if_neg hw0, Option.isSome_none, Bool.true_and, Bool.false_or, e4, cond_false, state_ok h'.g, Option.bind_some, htn]
            show ∃ i' o' s' q' w', (bif (true != ((1 : Int) == 1)) then _ else _) = _ ∧ _
            exact next _ _ _ _ _ h' hb.told
        · have e3 : (fld s t 1 == 1) = false := by simpa using hst
          have e5 : (p == 3) = false := by simp; omega
          rw [e3, cond_false, e5, cond_false]
          exact next _ _ _ _ _ hs hb
      · have e2 : (p == 2) = false := by simpa using hpe
        have e5 : (p == 3) = true := by simp; omega
        rw [e2, cond_false, Option.bind_some]
        simp only [cond_false, e5, cond_true]
        rw [poll_ok hs.g ho, hwm, Option.bind_some]
        exact next _ _ _ _ _ (hs.poll hn) hb.told
def initB (n : Int) : Bool := match (ref10_Boot.f 2000 n).bind fun t => ref10_State_Words.f 2000 t with
  | some s => goodB s && smB s && (fld s (n + 4) 1 == 0) && (fld s (n + 4) 2 == 0) && (fld s (n + 4) 3 == 0) && (List.range n.toNat).all fun i => fld s i 1 == 1
  | none => false
theorem init_1 : initB 1 = true := by decide +kernel
theorem init_2 : initB 2 = true := by decide +kernel
theorem init_3 : initB 3 = true := by decide +kernel
theorem init_4 : initB 4 = true := by decide +kernel
theorem init_5 : initB 5 = true := by decide +kernel
theorem init_6 : initB 6 = true := by decide +kernel
theorem init_7 : initB 7 = true := by decide +kernel
theorem init_n {n : Int} (hn : 1 ≤ n ∧ n ≤ 7) : initB n = true := by
  rcases (by omega : n = 1 ∨ n = 2 ∨ n = 3 ∨ n = 4 ∨ n = 5 ∨ n = 6 ∨ n = 7) with rfl | rfl | rfl | rfl | rfl | rfl | rfl
  · exact init_1
  · exact init_2
  · exact init_3
  · exact init_4
  · exact init_5
  · exact init_6
  · exact init_7
theorem ok (a0 : Int) (a1 : List law16_Deed) (w0 : (Lit.int .i64 a0).wf = true) (w1 : ∀ x ∈ a1, wf_law16_Deed x) : ∃ k, law16_NtfnKeeps.f k a0 a1 = some true := by
  refine ⟨2000, ?_⟩
  have hu : law16_up.f 2000 = some true := by decide +kernel
  unfold law16_NtfnKeeps.f
  rw [hu, Option.bind_some]
  by_cases h1 : 1 ≤ a0 ∧ a0 ≤ 7 ∧ a1.length ≤ 120
  · have e : (decide (a0 < 1) || decide (7 < a0) || decide (120 < (a1.length : Int))) = false := by simp; omega
    have hn : 1 ≤ a0 ∧ a0 ≤ 7 := ⟨h1.1, h1.2.1⟩
    rw [e, cond_false]
    have hi := init_n hn
    unfold initB at hi
    cases hB : ref10_Boot.f 2000 a0 with
    | none => simp [hB] at hi
    | some t =>
      simp only [hB, Option.bind_some] at hi ⊢
      cases hW : ref10_State_Words.f 2000 t with
      | none => simp [hW] at hi
      | some s =>
        simp only [hW, Option.bind_some] at hi ⊢
        simp only [Bool.and_eq_true, beq_iff_eq, List.all_eq_true, List.mem_range] at hi
        obtain ⟨⟨⟨⟨⟨i1, i2⟩, i3⟩, i4⟩, i5⟩, i6⟩ := hi
        have h0 : NK a0 s [] 0 := ⟨good_of i1, sm_of i2, ⟨i4, i5, trivial⟩, by simp, by simp, fun t h3 h4 => by
          have := i6 t.toNat (by omega)
          rw [show ((t.toNat : Nat) : Int) = t by omega] at this
          simpa using this, i3, by decide, fun q => absurd rfl q⟩
        obtain ⟨i', o', s', q', w', h2, h3, h4⟩ := loop_ok a0 hn a1 w1 h1.2.2 a1.length 2000 0 0 0 0 s [] (by decide) (by omega) (by omega) (by omega) h0 ⟨0, 0, 0, rfl, rfl, rfl, by decide, by decide, by decide, rfl⟩
        rw [h2, Option.bind_some]
        show (VM.run plainI (ntfn_Poll.f (w64 (a0 + 4))) s').bind _ = _
        have hwm : fld s' (a0 + 4) 1 % 65536 = w' := by rw [h3.wd]; have := h3.wr; omega
        rw [w64_id (by omega) (by omega), poll_ok h3.g (by omega), hwm, Option.bind_some]
        obtain ⟨a, b, c, e1, e2, e3, l1, l2, l3, e4⟩ := h4.told.e
        have : i' = bor .i64 o' w' := by
          have hc : c = 0 := by omega
          rw [e1, e2, e4, hc]; simp
        simp [this]
  · have e : (decide (a0 < 1) || decide (7 < a0) || decide (120 < (a1.length : Int))) = true := by
      rw [← Bool.not_eq_false]; simp; omega
    rw [e]; rfl

theorem own : ownKnob Try.prog.godebug = none := by kernel_rfl
theorem laidOut : laidOutB Try.prog = true := by kernel_rfl
set_option maxRecDepth 100000 in
theorem lifted (os : Os) (started : os.Started) (H : Type) (enc : TypeId × Value → H) :
    ReturnsInHanded {} Try.checked os 6 .any (Rows.ntfnKeepsSpec.pre6 enc Try.prog Try.f6 Rows.ntfnKeepsRow.domain false) (Rows.ntfnKeepsSpec.post enc Try.prog Try.f6 false true false false) := by
  refine returnsInHanded_of_change (C := Try.checked) own started (by kernel_rfl) Try.func6
    (ChangeSpec.witness6 (enc := enc) (C := Try.checked) false ⟨#[], #[.int .i64 0, .slice none 0 0], []⟩ 8 (by kernel_rfl) (by kernel_rfl) (by kernel_rfl) (by kernel_rfl)) ?_
  intro W base args ds gs before hval0 hW hcnd _
  have hval : ∀ (j : Nat) t v, Try.f6.params[j]? = some t → args[j]? = some v → Value.okWide Try.prog W .any base t v := hval0
  have hW' := hW
  obtain ⟨p, q, hA0, hV, rfl, hfz, hnd⟩ := hW
  have hA : DataW.TrodAll enc Try.prog W 0 (fun _ => true) true Try.f6.params.toList args.toList ds p := hA0
  rw [Try.params6] at hA hval
  obtain ⟨v0, vs0, d0, ds0, p0, q0, hargs, rfl, rfl, h0, r0⟩ := trodAll_cons hA
  obtain ⟨v1, vs1, d1, ds1, p1, q1, rfl, rfl, rfl, h1, r1⟩ := trodAll_cons r0
  obtain ⟨rfl, rfl, rfl⟩ := trodAll_nil r1
  obtain rfl : args = #[v0, v1] := by cases args; simp_all
  obtain ⟨rfl, rfl⟩ := trodVars_none hV
  obtain ⟨a0, rfl, rfl, rfl, w0⟩ := open_int Try.underlying3 (hval 0 3 v0 rfl rfl) h0
  obtain ⟨a1, r1', w1, _⟩ := open_sl (K := ek_law16_Deed) pa_law16_Deed Try.underlying52 (by kernel_rfl) (hval 1 52 v1 rfl rfl) h1
  obtain ⟨k, hk⟩ := ok a0 a1 w0 w1
  refine (Ct.law (law16_NtfnKeeps.ct _ _ a0 a1 _ hk) (W := W) r1').mono fun e W' ⟨he, hg⟩ => ?_
  subst he
  exact ⟨_, rfl, law_post hW' laidOut (by kernel_rfl) hg (by kernel_rfl) Try.underlying4 rfl rfl⟩
theorem over : Rows.ntfnKeepsRow.holds Try.pinned (OpenSpec.ofChange Rows.ntfnKeepsSpec) :=
  OpenClaim.holds_of_wide 6 Try.f6 rfl rfl rfl rfl rfl rfl rfl ⟨rfl, rfl, rfl, rfl, rfl⟩ rfl rfl rfl rfl rfl (by kernel_rfl) Try.func6 (by kernel_rfl)
    (of_decide_eq_true (by kernel_rfl)) (by unfold Func.isWrapper; first | (rw [if_pos (by decide +kernel)]; kernel_rfl) | (rw [if_neg (by decide +kernel)]; exact ⟨rfl, rfl⟩))
    (fun os started H enc _ => lifted os started H enc)
theorem proved : Rows.NtfnKeepsSaid :=
  over
#print axioms proved
end Go.Proofs.Ytehlmdihimmanaa.ntfnKeeps
