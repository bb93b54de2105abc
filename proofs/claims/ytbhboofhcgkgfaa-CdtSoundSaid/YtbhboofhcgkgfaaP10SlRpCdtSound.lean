/- Plain laws of what CdtSound reaches, part P10SlRp. On no condition. -/
import Derived.Test.YtbhboofhcgkgfaaP10SlPlCdtSound
import Derived.Test.YtbhboofhcgkgfaaFnCdtSound0
import Derived.Test.YtbhboofhcgkgfaaFnCdtSound1
set_option linter.all false
/-! One slot in another one's place, and leaves: the program's words are the state's. -/
set_option linter.unusedVariables false
namespace Go.Proofs
open Go.Sl
theorem goodU_move {s : List Int} (g : GoodU s) (a b : Int) (hb : 0 ≤ b ∧ b < 96) : GoodU (moveTo s a b) := by
  unfold moveTo
  have r1 := sget_rg s a 1
  have r3 := sget_rg s a 3
  have r4 := sget_rg s a 4
  split
  · exact goodU_clear (goodU_beside (goodU_sput (goodU_sput (goodU_sput g _ _ _ (by omega)) _ _ _ (by omega)) _ _ _ (by omega)) _ _ _ (by omega) (by omega)) _
  · exact g
theorem goodU_adopt (b : Int) (hb : 0 ≤ b ∧ b < 96) : ∀ (l : List Int) {s : List Int}, GoodU s → GoodU (adopt s b l)
  | [], s, g => g
  | c :: r, s, g => goodU_adopt b hb r (goodU_sput g c 1 b (by omega))
theorem goodU_replace {s : List Int} (g : GoodU s) (a b : Int) (l : List Int) (hb : 0 ≤ b ∧ b < 96) : GoodU (replaceTo s a b l) := by
  unfold replaceTo
  have g1 := goodU_adopt b hb l (goodU_move g a b hb)
  have r := sget_rg (adopt (moveTo s a b) b l) a 2
  exact goodU_sput (goodU_sput g1 _ _ _ (by omega)) _ _ _ (by decide)
theorem adopt_l (b : Int) (hb : 0 ≤ b ∧ b < 96) (l : List Int) (hl : l.length ≤ 1000) : ∀ (m k : Nat) (i : Int) (s : List Int), GoodU s → 0 ≤ i → i ≤ l.length → (l.length : Int) - i = m → m < k → VM.run plainI (cdt_Replace.l2 b l k i) s = some ((), adopt s b (l.drop i.toNat)) := by
  intro m
  induction m with
  | zero =>
    intro k i s g h0 h1 h2 hk
    obtain ⟨k, rfl⟩ : ∃ q, k = q + 1 := ⟨k - 1, by omega⟩
    unfold cdt_Replace.l2
    rw [decide_eq_false (by omega), cond_false, List.drop_eq_nil_of_le (by omega)]; rfl
  | succ m ih =>
    intro k i s g h0 h1 h2 hk
    obtain ⟨k, rfl⟩ : ∃ q, k = q + 1 := ⟨k - 1, by omega⟩
    unfold cdt_Replace.l2
    have hx : at_ l i = some (l[i.toNat]'(by omega)) := by unfold at_; rw [decide_eq_true h0, cond_true, List.getElem?_eq_getElem]
    rw [decide_eq_true (by omega), cond_true, runB, runO, hx, Option.map_some, Option.bind_some, runB, sput_ok g.1 _ _ _ (by omega), Option.bind_some, w64_id (by omega) (by omega)]
    simp only []
    rw [ih k (i + 1) _ (goodU_sput g _ _ _ (by omega)) (by omega) (by omega) (by omega) (by omega), List.drop_eq_getElem_cons (show i.toNat < l.length by omega), show (i + 1).toNat = i.toNat + 1 by omega]
    rfl
def repBad (s : List Int) (a b : Int) : Int := if ¬ (InSlot a 0 ∧ InSlot b 0) then 2 else if a = b ∨ sget s b 1 ≠ -1 ∨ sget s b 2 ≠ -1 then 10 else 0
theorem replace_ok {s : List Int} (g : GoodU s) (a b : Int) {k : Nat} (hk : 1100 ≤ k) {l : List Int} (hl : l.length ≤ 96) (hK : InSlot a 0 → InSlot b 0 → VM.run plainI (cdt_Kids.f k a) (moveTo s a b) = some (l, moveTo s a b)) : VM.run plainI (cdt_Replace.f k a b) s = some (eN' (repBad s a b), if repBad s a b = 0 then replaceTo s a b l else s) := by
  unfold cdt_Replace.f
  rw [runB, runO, sthere_ok, Option.map_some, Option.bind_some, runB]
  by_cases h1 : InSlot a 0
  · by_cases h2 : InSlot b 0
    · have r1 := h1.rg
      have r2 := h2.rg
      have hK := hK h1 h2
      rw [decide_eq_true h1, Bool.not_true, runC, cond_false, runB, runO, sthere_ok, Option.map_some, Option.bind_some, decide_eq_true h2, Bool.not_true, runR, Option.bind_some, runC, cond_false, runB]
      by_cases e0 : a = b
      · have hb : repBad s a b = 10 := by unfold repBad; rw [if_neg (fun q => q ⟨h1, h2⟩), if_pos (.inl e0)]
        have e : (a == b) = true := by simpa using e0
        rw [hb, e, runC, cond_true, runR, Option.bind_some, runB, runC, cond_true, runR, Option.bind_some]; rfl
      · have e : (a == b) = false := by simpa using e0
        rw [e, runC, cond_false, runB, parent_ok g.1, Option.bind_some, runR, Option.bind_some, runB, runC]
        simp only []
        by_cases c1 : sget s b 1 = -1
        · have e1 : (sget s b 1 != -1) = false := by simpa using c1
          rw [e1, cond_false, runB, sget_ok g.1, Option.bind_some, runR, Option.bind_some, runC]
          simp only []
          by_cases c2 : sget s b 2 = -1
          · have e2 : (sget s b 2 != -1) = false := by simpa using c2
            have hb : repBad s a b = 0 := by
              unfold repBad; rw [if_neg (fun q => q ⟨h1, h2⟩), if_neg]
              rintro (z | z | z)
              · exact e0 z
              · exact z c1
              · exact z c2
            rw [e2, cond_false, runB, parent_ok g.1, Option.bind_some, runB, hb, if_pos rfl]
            simp only []
            have mv : VM.run plainI (bif sget s a 1 != -1 then ((cdt_Parent.f a).bind fun t29 => (cdt_put.f b 1 t29).bind fun _ => (cdt_get.f a 3).bind fun t34 => (cdt_put.f b 3 t34).bind fun _ => (cdt_get.f a 4).bind fun t39 => (cdt_put.f b 4 t39).bind fun _ => (cdt_beside.f a b b).bind fun _ => (cdt_clear.f a).bind fun _ => VM.ret ()) else (VM.ret ())) s = some ((), moveTo s a b) := by
              rw [runC]
              unfold moveTo
              by_cases c3 : sget s a 1 = -1
              · have e3 : (sget s a 1 != -1) = false := by simpa using c3
                rw [e3, cond_false, if_neg (fun z => z c3)]; rfl
              · have e3 : (sget s a 1 != -1) = true := by simpa using c3
                have q1 := sget_rg s a 1
                have q3 := sget_rg s a 3
                have q4 := sget_rg s a 4
                have g1 := goodU_sput g b 1 (sget s a 1) (by omega)
                have g2 := goodU_sput g1 b 3 (sget s a 3) (by omega)
                have g3 := goodU_sput g2 b 4 (sget s a 4) (by omega)
                have w3 : sget (sput s b 1 (sget s a 1)) a 3 = sget s a 3 := by rw [sget_sput g.1.1 _ _ _ _ _ q1, if_neg (fun z => e0 z.2.1.symm)]
                have w4 : sget (sput (sput s b 1 (sget s a 1)) b 3 (sget s a 3)) a 4 = sget s a 4 := by rw [sget_sput g1.1.1 _ _ _ _ _ q3, if_neg (fun z => e0 z.2.1.symm), sget_sput g.1.1 _ _ _ _ _ q1, if_neg (fun z => e0 z.2.1.symm)]
                rw [e3, cond_true, if_pos c3, runB, parent_ok g.1, Option.bind_some, runB]
                simp only []
                rw [sput_ok g.1 _ _ _ (by omega), Option.bind_some, runB]
                simp only []
                rw [sget_ok g1.1, w3, Option.bind_some, runB]
                simp only []
                rw [sput_ok g1.1 _ _ _ (by omega), Option.bind_some, runB]
                simp only []
                rw [sget_ok g2.1, w4, Option.bind_some, runB]
                simp only []
                rw [sput_ok g2.1 _ _ _ (by omega), Option.bind_some, runB]
                simp only []
                rw [beside_ok g3 _ _ _ (by omega) (by omega), Option.bind_some, runB]
                simp only []
                rw [clear_ok (goodU_beside g3 _ _ _ (by omega) (by omega)), Option.bind_some]; rfl
            have gm := goodU_move g a b r2
            have ga := goodU_adopt b r2 l gm
            have qa := sget_rg (adopt (moveTo s a b) b l) a 2
            have gb := goodU_sput ga b 2 (sget (adopt (moveTo s a b) b l) a 2) (by omega)
            rw [mv, Option.bind_some, runB]
            simp only []
            rw [hK, Option.bind_some, runB]
            simp only []
            rw [adopt_l b r2 l (by omega) l.length k 0 _ gm (by decide) (by omega) (by omega) (by omega), Option.bind_some, runB]
            simp only [Int.toNat_zero, List.drop_zero]
            rw [sget_ok ga.1, Option.bind_some, runB]
            simp only []
            rw [sput_ok ga.1 _ _ _ (by omega), Option.bind_some, runB]
            simp only []
            rw [sput_ok gb.1 _ _ _ (by decide), Option.bind_some]; rfl
          · have e2 : (sget s b 2 != -1) = true := by simpa using c2
            have hb : repBad s a b = 10 := by unfold repBad; rw [if_neg (fun q => q ⟨h1, h2⟩), if_pos (.inr (.inr c2))]
            rw [e2, cond_true, hb]; rfl
        · have e1 : (sget s b 1 != -1) = true := by simpa using c1
          have hb : repBad s a b = 10 := by unfold repBad; rw [if_neg (fun q => q ⟨h1, h2⟩), if_pos (.inr (.inl c1))]
          rw [e1, cond_true, runR, Option.bind_some, hb]; rfl
    · have hb : repBad s a b = 2 := by unfold repBad; rw [if_pos (fun q => h2 q.2)]
      rw [decide_eq_true h1, Bool.not_true, runC, cond_false, runB, runO, sthere_ok, Option.map_some, Option.bind_some, decide_eq_false h2, Bool.not_false, runR, Option.bind_some, hb]; rfl
  · have hb : repBad s a b = 2 := by unfold repBad; rw [if_pos (fun q => h1 q.1)]
    rw [decide_eq_false h1, Bool.not_false, runC, cond_true, runR, Option.bind_some, hb]; rfl
/-- Of any words. -/
theorem replace_any {s : List Int} (g : GoodU s) (a b : Int) {k : Nat} (hk : 1100 ≤ k) : ∃ r s', VM.run plainI (cdt_Replace.f k a b) s = some (r, s') ∧ GoodU s' := by
  by_cases c : InSlot a 0 ∧ InSlot b 0
  · have r2 := c.2.rg
    have gm := goodU_move g a b r2
    obtain ⟨l, e, hl, _⟩ := kids_any gm.1 a (k := k) (by omega)
    refine ⟨_, _, replace_ok g a b hk hl (fun _ _ => e), ?_⟩
    split
    · exact goodU_replace g a b l r2
    · exact g
  · refine ⟨_, _, replace_ok g a b hk (l := []) (by simp) (fun z1 z2 => absurd ⟨z1, z2⟩ c), ?_⟩
    have hb : repBad s a b = 2 := by unfold repBad; rw [if_pos c]
    rw [hb, if_neg (by decide)]; exact g
/-! The state's. -/
theorem rep_l2 (a b : Int) : ∀ (m k : Nat) (i : Int) (l : List Int), l.length ≤ 1000 → 0 ≤ i → i ≤ l.length → (l.length : Int) - i = m → m < k → ref10_State_Replace.l2 a b k (i, l) = some (l.take i.toNat ++ rep a b (l.drop i.toNat)) := by
  intro m
  induction m with
  | zero =>
    intro k i l hl h0 h1 h2 hk
    obtain ⟨k, rfl⟩ : ∃ q, k = q + 1 := ⟨k - 1, by omega⟩
    unfold ref10_State_Replace.l2
    rw [decide_eq_false (by omega), cond_false, List.drop_eq_nil_of_le (by omega), List.take_of_length_le (by omega)]
    show _ = some (l ++ [])
    rw [List.append_nil]
  | succ m ih =>
    intro k i l hl h0 h1 h2 hk
    obtain ⟨k, rfl⟩ : ∃ q, k = q + 1 := ⟨k - 1, by omega⟩
    unfold ref10_State_Replace.l2
    have hlt : i.toNat < l.length := by omega
    have hx : at_ l i = some l[i.toNat] := by unfold at_; rw [decide_eq_true h0, cond_true, List.getElem?_eq_getElem]
    rw [decide_eq_true (by omega), cond_true, hx, Option.bind_some, Option.bind_some, w64_id (by omega) (by omega)]
    have ei : (i + 1).toNat = i.toNat + 1 := by omega
    have key : l.take i.toNat ++ rep a b (l.drop i.toNat) = l.take i.toNat ++ [rp a b l[i.toNat]] ++ rep a b (l.drop (i.toNat + 1)) := by
      rw [List.drop_eq_getElem_cons hlt, List.append_assoc]; rfl
    rw [key]
    by_cases e : l[i.toNat] = a
    · have e1 : (l[i.toNat] == a) = true := by simpa using e
      rw [e1, cond_true, ih k (i + 1) (l.set i.toNat b) (by simpa using hl) (by omega) (by simp; omega) (by simp; omega) (by omega), ei]
      have t1 : (l.set i.toNat b).take (i.toNat + 1) = l.take i.toNat ++ [b] := by
        rw [List.take_succ_eq_append_getElem (by simpa using hlt), List.take_set_of_le (by omega), List.getElem_set_self]
      have t2 : (l.set i.toNat b).drop (i.toNat + 1) = l.drop (i.toNat + 1) := List.drop_set_of_lt (by omega)
      rw [t1, t2]
      unfold rp
      rw [if_pos e]
    · have e1 : (l[i.toNat] == a) = false := by simpa using e
      rw [e1, cond_false, ih k (i + 1) l hl (by omega) (by omega) (by omega) (by omega), ei, List.take_succ_eq_append_getElem hlt]
      unfold rp
      rw [if_neg e]
theorem rep_l3 (b : Int) (hb : 0 ≤ b ∧ b < 96) (L : List Int) (hL : ∀ y ∈ L, 0 ≤ y ∧ y < 96) (hl : L.length ≤ 1000) : ∀ (m k : Nat) (i : Int) (S : List ref10_Slot), S.length = 96 → (S.getD b.toNat default).Kids = L → 0 ≤ i → i ≤ L.length → (L.length : Int) - i = m → m < k → ∃ S', ref10_State_Replace.l3 b k (i, S) = some S' ∧ S'.length = 96 ∧ ∀ x, 0 ≤ x → S'.getD x.toNat default = if x ∈ L.drop i.toNat then ({ S.getD x.toNat default with Parent := b } : ref10_Slot) else S.getD x.toNat default := by
  intro m
  induction m with
  | zero =>
    intro k i S hS hK h0 h1 h2 hk
    obtain ⟨k, rfl⟩ : ∃ q, k = q + 1 := ⟨k - 1, by omega⟩
    unfold ref10_State_Replace.l3
    rw [at_getD hb.1 (by rw [hS]; omega), Option.bind_some, hK, decide_eq_false (by omega), cond_false, List.drop_eq_nil_of_le (by omega)]
    exact ⟨S, rfl, hS, fun x _ => by rw [if_neg (fun z => by cases z)]⟩
  | succ m ih =>
    intro k i S hS hK h0 h1 h2 hk
    obtain ⟨k, rfl⟩ : ∃ q, k = q + 1 := ⟨k - 1, by omega⟩
    unfold ref10_State_Replace.l3
    have hlt : i.toNat < L.length := by omega
    have hx : at_ L i = some L[i.toNat] := by unfold at_; rw [decide_eq_true h0, cond_true, List.getElem?_eq_getElem]
    have hy := hL _ (List.getElem_mem hlt)
    rw [at_getD hb.1 (by rw [hS]; omega), Option.bind_some, hK, decide_eq_true (by omega), cond_true, Option.bind_some, hK, hx, Option.bind_some, at_getD hy.1 (by rw [hS]; omega), Option.bind_some, w64_id (by omega) (by omega)]
    generalize hc : L[i.toNat] = c at hy
    have G := fun x (hx : 0 ≤ x) => sg_set hS hy hx ({ S.getD c.toNat default with Parent := b } : ref10_Slot)
    obtain ⟨S', e, l', p⟩ := ih k (i + 1) (S.set c.toNat ({ S.getD c.toNat default with Parent := b } : ref10_Slot)) (by simp [hS]) (by
      rw [G b hb.1]
      split
      · rename_i q; rw [← q]; exact hK
      · exact hK) (by omega) (by omega) (by omega) (by omega)
    refine ⟨S', e, l', fun x x0 => ?_⟩
    rw [p x x0, G x x0, show (i + 1).toNat = i.toNat + 1 by omega, List.drop_eq_getElem_cons hlt, hc]
    by_cases q : x = c
    · rw [if_pos q, if_pos (show x ∈ c :: _ by rw [q]; exact List.mem_cons_self), q]
      split <;> rfl
    · rw [if_neg q]
      by_cases q2 : x ∈ L.drop (i.toNat + 1)
      · rw [if_pos q2, if_pos (List.mem_cons_of_mem _ q2)]
      · rw [if_neg q2, if_neg]
        intro z
        rcases List.mem_cons.1 z with z | z
        · exact q z
        · exact q2 z
theorem ch_kids {s : List Int} {l : List Int} (hr : ∀ x ∈ l, 0 ≤ x ∧ x < 96) (hn : l.Nodup) (h : ∀ x ∈ l, sget s x 3 = nextOf l x - 1) : ∀ x, x = hd l - 1 → Ch s x l := by
  have key : ∀ (q : List Int), (∀ x ∈ q, 0 ≤ x ∧ x < 96) → q.Nodup → (∀ x ∈ q, sget s x 3 = nextOf q x - 1) → Ch s (hd q - 1) q := by
    intro q
    induction q with
    | nil => intro _ _ _; exact rfl
    | cons c r ih =>
      intro hr hn h
      have hn2 := List.nodup_cons.1 hn
      have hc := hr c List.mem_cons_self
      refine ⟨by show c + 1 - 1 = c; omega, hc.1, hc.2, ?_⟩
      have e := h c List.mem_cons_self
      have e2 : nextOf (c :: r) c = hd r := by show (if c = c then hd r else _) = _; rw [if_pos rfl]
      rw [e, e2]
      refine ih (fun x hx => hr x (List.mem_cons_of_mem _ hx)) hn2.2 fun x hx => ?_
      rw [h x (List.mem_cons_of_mem _ hx)]
      show (if x = c then hd r else nextOf r x) - 1 = _
      rw [if_neg (fun z => hn2.1 (by rw [← z]; exact hx))]
  rintro x rfl
  exact key l hr hn h
theorem kids_tw {P : Int → Int} {K : Int → List Int} (t : Tree P K) {v : List Int} (g : Good v) (w : TW P K v) {i : Int} (hi : 0 ≤ i ∧ i < 96) {k : Nat} (hk : 100 ≤ k) : VM.run plainI (cdt_Kids.f k i) v = some (K i, v) := by
  have hr : ∀ x ∈ K i, 0 ≤ x ∧ x < 96 := fun x hx => by have := t.kid i hi.1 hi.2 x hx; omega
  refine kidsw_ok g (ch_kids hr (t.nod i hi.1 hi.2) (fun x hx => ?_) _ ?_) (t.klen hi.1 hi.2) hk
  · have hx2 := t.kid i hi.1 hi.2 x hx
    rw [w x 3 hx2.1 hx2.2.1 (by decide) (by decide)]
    unfold slw
    rw [if_neg (by decide), if_neg (by decide), hx2.2.2, if_pos hi.1, if_pos rfl]
  · rw [w i 2 hi.1 hi.2 (by decide) (by decide)]; rfl
theorem kids_moved {P : Int → Int} {K : Int → List Int} (t : Tree P K) {v : List Int} (g : GoodU v) (w : TW P K v) {a b : Int} (ha : 0 ≤ a ∧ a < 96) (hb : 0 ≤ b ∧ b < 96) (hne : a ≠ b) (hPb : P b = -1) (hKb : K b = []) {k : Nat} (hk : 100 ≤ k) : VM.run plainI (cdt_Kids.f k a) (moveTo v a b) = some (K a, moveTo v a b) := by
  have hr : ∀ x ∈ K a, 0 ≤ x ∧ x < 96 := fun x hx => by have := t.kid a ha.1 ha.2 x hx; omega
  have ia := t.irr a ha.1 ha.2
  by_cases hp : 0 ≤ P a
  · have pa := t.par a ha.1 ha.2
    have M := fun x f => sget_moveTo t g.1.1 w ha hb hne rfl hp hKb x f
    have hrp : ∀ x ∈ K (P a), 0 ≤ x ∧ x < 96 := fun x hx => by have := t.kid (P a) hp pa.2 x hx; omega
    refine kidsw_ok (goodU_move g a b hb).1 (ch_kids hr (t.nod a ha.1 ha.2) (fun x hx => ?_) _ ?_) (t.klen ha.1 ha.2) hk
    · have hx2 := t.kid a ha.1 ha.2 x hx
      have xa : a ≠ x := fun z => by rw [← z] at hx2; exact ia hx2.2.2
      have xb : b ≠ x := fun z => by rw [← z, hPb] at hx2; omega
      have W : sget v x 3 = nextOf (K a) x - 1 := by
        rw [w x 3 hx2.1 hx2.2.1 (by decide) (by decide)]
        unfold slw
        rw [if_neg (by decide), if_neg (by decide), hx2.2.2, if_pos ha.1, if_pos rfl]
      have nq : ¬ prv 0 (K (P a)) a - 1 = x := fun z => by
        have : x ∈ K (P a) := prv_mem hx2.1 (x := a) (a := 0) (by omega) (by omega)
        have := (t.kid (P a) hp pa.2 x this).2.2
        rw [hx2.2.2] at this; exact ia this.symm
      rw [M, if_neg (fun z => xa z.1), if_neg (by omega)]
      split
      · rw [if_neg (fun z => nq z.2.1), if_neg (by omega), if_neg (fun z => xb z.1), if_neg (by omega)]; exact W
      · rw [if_neg (by omega), if_neg (by omega), if_neg (fun z => xb z.1), if_neg (by omega)]; exact W
    · have W : sget v a 2 = hd (K a) - 1 := by rw [w a 2 ha.1 ha.2 (by decide) (by decide)]; rfl
      rw [M, if_neg (by omega), if_neg (by omega)]
      split
      · rw [if_neg (by omega), if_neg (by omega), if_neg (by omega), if_neg (by omega)]; exact W
      · rw [if_neg (fun z => ia z.2.1), if_neg (by omega), if_neg (by omega), if_neg (by omega)]; exact W
  · have g1 : sget v a 1 = P a := by rw [w a 1 ha.1 ha.2 (by decide) (by decide)]; unfold slw; rw [if_pos rfl]; omega
    have pa := (t.par a ha.1 ha.2).1
    have e : moveTo v a b = v := by unfold moveTo; rw [if_neg (by omega)]
    rw [e]
    exact kids_tw t g.1 w ha hk
theorem replace_pl {st : ref10_State} (h : WF st) {v : List Int} (hv : IsW st v) (a b : Int) {k : Nat} (hk : 1100 ≤ k) : ∃ n st' v', ref10_State_Replace.f k st a b = some (n, st') ∧ VM.run plainI (cdt_Replace.f k a b) v = some (eN' n, v') ∧ 0 ≤ n ∧ n ≤ 14 ∧ WF st' ∧ IsW st' v' ∧ Rest st st' ∧
    (n ≠ 0 → st' = st) ∧ (n = 0 → InSlot a 0 ∧ InSlot b 0 ∧ a ≠ b ∧ Pst st b = -1 ∧ Kst st b = [] ∧ SlIs st' (rP (Pst st) a b) (rK (Pst st) (Kst st) a b) (Cst st)) := by
  have g := hv.good h
  have t := tree_st h
  have w := tw_st h hv
  by_cases h1 : InSlot a 0
  · by_cases h2 : InSlot b 0
    · have r1 := h1.rg
      have r2 := h2.rg
      have hp := Pst_sget h hv r2
      have pr := h.par b r2.1 r2.2
      have k2 : sget v b 2 = hd (slt st b).Kids - 1 := by rw [w b 2 r2.1 r2.2 (by decide) (by decide)]; rfl
      have kr := hd_rg (n := 96) (by decide) (kids_rg h r2.1 r2.2)
      have kz : hd (slt st b).Kids = 0 ↔ (slt st b).Kids = [] := by
        cases hK : (slt st b).Kids with
        | nil => exact ⟨fun _ => rfl, fun _ => rfl⟩
        | cons c r =>
          have := kids_rg h r2.1 r2.2 c (by rw [hK]; exact List.mem_cons_self)
          exact ⟨fun z => by have : c + 1 = 0 := z; omega, fun z => by cases z⟩
      unfold ref10_State_Replace.f
      rw [rslot_ok, rslot_ok, Option.bind_some, Option.bind_some, decide_eq_true h1, decide_eq_true h2]
      simp only [Bool.not_true, Bool.or_false, cond_false]
      rw [at_slot h.ls r2]
      by_cases c : a = b ∨ sget v b 1 ≠ -1 ∨ sget v b 2 ≠ -1
      · have hb : repBad v a b = 10 := by unfold repBad; rw [if_neg (fun q => q ⟨h1, h2⟩), if_pos c]
        obtain ⟨r, s', e, _⟩ := replace_any g a b hk
        have e' : VM.run plainI (cdt_Replace.f k a b) v = some (eN' 10, v) := by
          have gm := goodU_move g a b r2
          obtain ⟨l, el, hl, _⟩ := kids_any gm.1 a (k := k) (by omega)
          rw [replace_ok g a b hk hl (fun _ _ => el), hb, if_neg (by decide)]
        rw [e']
        have key : ((bif a == b then some true else (some (slt st b)).bind fun x14 => some (decide (0 ≤ x14.Parent))).bind fun c12 => bif c12 then some true else (some (slt st b)).bind fun x26 => some (decide (0 < (x26.Kids.length : Int)))) = some true := by
          by_cases e0 : a = b
          · have : (a == b) = true := by simpa using e0
            rw [this]; rfl
          · have e1 : (a == b) = false := by simpa using e0
            rw [e1, cond_false, Option.bind_some, Option.bind_some]
            by_cases c1 : 0 ≤ (slt st b).Parent
            · rw [decide_eq_true c1]; rfl
            · rw [decide_eq_false c1, cond_false, Option.bind_some, decide_eq_true]
              rcases c with q | q | q
              · exact absurd q e0
              · omega
              · have : (slt st b).Kids ≠ [] := fun z => by have := kz.2 z; omega
                have := List.length_pos_iff.2 this; omega
        rw [← Option.bind_assoc, key, Option.bind_some, cond_true]
        exact ⟨10, st, v, rfl, rfl, by decide, by decide, h, hv, Rest.refl st, fun _ => rfl, fun z => absurd z (by decide)⟩
      · have e0 : a ≠ b := fun z => c (.inl z)
        have c1 : (slt st b).Parent = -1 := by
          rcases Int.lt_or_le (slt st b).Parent 0 with q | q
          · omega
          · exact absurd (.inr (.inl (by omega))) c
        have c2 : (slt st b).Kids = [] := by
          refine kz.1 ?_
          rcases Int.lt_or_le (hd (slt st b).Kids) 1 with q | q
          · omega
          · exact absurd (.inr (.inr (by omega))) c
        have hb : repBad v a b = 0 := by unfold repBad; rw [if_neg (fun q => q ⟨h1, h2⟩), if_neg c]
        rw [replace_ok g a b hk (t.klen r1.1 r1.2) (fun _ _ => kids_moved t g w r1 r2 e0 c1 c2 (by omega)), hb, if_pos rfl]
        have e1 : (a == b) = false := by simpa using e0
        rw [e1, cond_false, Option.bind_some, c1, Option.bind_some, decide_eq_false (by decide), cond_false, Option.bind_some, c2, Option.bind_some]
        simp only [List.length_nil]
        rw [decide_eq_false (by decide), cond_false, at_slot h.ls r1, Option.bind_some]
        have pa := h.par a r1.1 r1.2
        have ia := h.irr a r1.1 r1.2
        have pab : (slt st a).Parent ≠ b := fun z => by have := h.all a r1.1 r1.2 (by omega); rw [z, c2] at this; cases this
        -- the parent's list
        obtain ⟨S1, hS1, l1, p1⟩ : ∃ S1, (bif decide (0 ≤ (slt st a).Parent) then ((at_ st.Slots (slt st a).Parent).bind fun x43 => (app ([]) x43.Kids).bind fun zs51 => (ref10_State_Replace.l2 a b k (0, zs51)).bind fun qv53_e2 => (at_ st.Slots (slt st a).Parent).bind fun x64 => some (st.Slots.set (slt st a).Parent.toNat ({ x64 with Kids := qv53_e2 } : ref10_Slot))) else (some st.Slots)) = some S1 ∧ S1.length = 96 ∧ ∀ i, 0 ≤ i → S1.getD i.toNat default = if i = (slt st a).Parent then ({ slt st i with Kids := rep a b (slt st i).Kids } : ref10_Slot) else slt st i := by
          by_cases q : 0 ≤ (slt st a).Parent
          · have hkl := t.klen q pa.2
            unfold Kst at hkl
            rw [decide_eq_true q, cond_true, at_slot h.ls ⟨q, pa.2⟩, Option.bind_some, app_ok (by simp; omega), Option.bind_some, List.nil_append, rep_l2 a b (slt st (slt st a).Parent).Kids.length k 0 _ (by omega) (by decide) (by omega) (by omega) (by omega), Option.bind_some, Option.bind_some]
            refine ⟨_, rfl, by simp [h.ls], fun i i0 => ?_⟩
            rw [sg_set h.ls ⟨q, pa.2⟩ i0]
            split
            · rename_i e; rw [e]; simp
            · rfl
          · rw [decide_eq_false q]
            exact ⟨_, rfl, h.ls, fun i i0 => by rw [if_neg (by omega)]; rfl⟩
        rw [hS1, Option.bind_some]
        -- the two slots
        rw [at_getD r2.1 (by rw [l1]; omega), Option.bind_some, p1 b r2.1, if_neg (fun z => pab z.symm)]
        have l2 : (S1.set b.toNat ({ slt st b with Parent := (slt st a).Parent } : ref10_Slot)).length = 96 := by simp [l1]
        have p2 := fun i (i0 : 0 ≤ i) => sg_set l1 r2 i0 ({ slt st b with Parent := (slt st a).Parent } : ref10_Slot)
        generalize S1.set b.toNat ({ slt st b with Parent := (slt st a).Parent } : ref10_Slot) = S2 at l2 p2
        rw [at_getD r1.1 (by rw [l2]; omega), Option.bind_some, p2 a r1.1, if_neg e0, p1 a r1.1, if_neg (fun z => ia z.symm)]
        have l3 : (S2.set a.toNat ({ slt st a with Parent := -1 } : ref10_Slot)).length = 96 := by simp [l2]
        have p3 := fun i (i0 : 0 ≤ i) => sg_set l2 r1 i0 ({ slt st a with Parent := -1 } : ref10_Slot)
        generalize S2.set a.toNat ({ slt st a with Parent := -1 } : ref10_Slot) = S3 at l3 p3
        rw [at_getD r1.1 (by rw [l3]; omega), Option.bind_some, p3 a r1.1, if_pos rfl, at_getD r2.1 (by rw [l3]; omega), Option.bind_some, p3 b r2.1, if_neg (fun z => e0 z.symm), p2 b r2.1, if_pos rfl]
        simp only []
        have l4 : (S3.set b.toNat ({ slt st b with Parent := (slt st a).Parent, Kids := (slt st a).Kids } : ref10_Slot)).length = 96 := by simp [l3]
        have p4 := fun i (i0 : 0 ≤ i) => sg_set l3 r2 i0 ({ slt st b with Parent := (slt st a).Parent, Kids := (slt st a).Kids } : ref10_Slot)
        generalize S3.set b.toNat ({ slt st b with Parent := (slt st a).Parent, Kids := (slt st a).Kids } : ref10_Slot) = S4 at l4 p4
        rw [at_getD r1.1 (by rw [l4]; omega), Option.bind_some, p4 a r1.1, if_neg e0, p3 a r1.1, if_pos rfl]
        simp only []
        have l5 : (S4.set a.toNat ({ slt st a with Parent := -1, Kids := [] } : ref10_Slot)).length = 96 := by simp [l4]
        have p5 := fun i (i0 : 0 ≤ i) => sg_set l4 r1 i0 ({ slt st a with Parent := -1, Kids := [] } : ref10_Slot)
        generalize S4.set a.toNat ({ slt st a with Parent := -1, Kids := [] } : ref10_Slot) = S5 at l5 p5
        obtain ⟨S6, e6, l6, p6⟩ := rep_l3 b r2 (slt st a).Kids (kids_rg h r1.1 r1.2) (by have := t.klen r1.1 r1.2; unfold Kst at this; omega) (slt st a).Kids.length k 0 S5 l5 (by rw [p5 b r2.1, if_neg (fun z => e0 z.symm), p4 b r2.1, if_pos rfl]) (by decide) (by omega) (by omega) (by have := t.klen r1.1 r1.2; unfold Kst at this; omega)
        rw [e6, Option.bind_some]
        simp only [Int.toNat_zero, List.drop_zero] at p6
        have S : SlIs ({ st with Slots := S6 } : ref10_State) (rP (Pst st) a b) (rK (Pst st) (Kst st) a b) (Cst st) := by
          have na : a ∉ (slt st a).Kids := fun z => ia (h.kid a r1.1 r1.2 a z).2.2
          have nb : b ∉ (slt st a).Kids := fun z => by have := (h.kid a r1.1 r1.2 b z).2.2; omega
          have E : ∀ i, 0 ≤ i → slt ({ st with Slots := S6 } : ref10_State) i = if i ∈ (slt st a).Kids then ({ (if i = a then ({ slt st a with Parent := -1, Kids := [] } : ref10_Slot) else if i = b then ({ slt st b with Parent := (slt st a).Parent, Kids := (slt st a).Kids } : ref10_Slot) else if i = (slt st a).Parent then ({ slt st i with Kids := rep a b (slt st i).Kids } : ref10_Slot) else slt st i) with Parent := b } : ref10_Slot) else (if i = a then ({ slt st a with Parent := -1, Kids := [] } : ref10_Slot) else if i = b then ({ slt st b with Parent := (slt st a).Parent, Kids := (slt st a).Kids } : ref10_Slot) else if i = (slt st a).Parent then ({ slt st i with Kids := rep a b (slt st i).Kids } : ref10_Slot) else slt st i) := fun i i0 => by
            have e5 : S5.getD i.toNat default = (if i = a then ({ slt st a with Parent := -1, Kids := [] } : ref10_Slot) else if i = b then ({ slt st b with Parent := (slt st a).Parent, Kids := (slt st a).Kids } : ref10_Slot) else if i = (slt st a).Parent then ({ slt st i with Kids := rep a b (slt st i).Kids } : ref10_Slot) else slt st i) := by
              rw [p5 i i0]
              by_cases q : i = a
              · rw [if_pos q, if_pos q]
              · rw [if_neg q, if_neg q, p4 i i0]
                by_cases q2 : i = b
                · rw [if_pos q2, if_pos q2]
                · rw [if_neg q2, if_neg q2, p3 i i0, if_neg q, p2 i i0, if_neg q2, p1 i i0]
            have := p6 i i0
            rw [e5] at this
            exact this
          have mem : ∀ i, 0 ≤ i → i < 96 → (i ∈ (slt st a).Kids ↔ (slt st i).Parent = a) := fun i i0 i1 => ⟨fun z => (h.kid a r1.1 r1.2 i z).2.2, fun z => by have := h.all i i0 i1 (by omega); rwa [z] at this⟩
          refine ⟨l6, fun i i0 i1 => ?_, fun i i0 i1 => ?_, fun i i0 i1 => ?_⟩
          · rw [E i i0]; unfold rP Pst
            by_cases q : i = b
            · have hm : i ∉ (slt st a).Kids := fun z => nb (by rw [q] at z; exact z)
              have qa : ¬ i = a := fun z => e0 (z.symm.trans q)
              simp only [if_neg hm, if_neg qa, if_pos q]
            · by_cases q2 : i = a
              · have hm : i ∉ (slt st a).Kids := fun z => na (by rw [q2] at z; exact z)
                simp only [if_neg hm, if_pos q2, if_neg q]
              · by_cases q3 : (slt st i).Parent = a
                · simp only [if_pos ((mem i i0 i1).2 q3), if_pos q3, if_neg q, if_neg q2]
                · have hm : i ∉ (slt st a).Kids := fun z => q3 ((mem i i0 i1).1 z)
                  simp only [if_neg hm, if_neg q3, if_neg q, if_neg q2]
                  split <;> rfl
          · rw [E i i0]; unfold rK Kst Pst
            by_cases q : i = b
            · have hm : i ∉ (slt st a).Kids := fun z => nb (by rw [q] at z; exact z)
              have qa : ¬ i = a := fun z => e0 (z.symm.trans q)
              simp only [if_neg hm, if_neg qa, if_pos q]
            · by_cases q2 : i = a
              · have hm : i ∉ (slt st a).Kids := fun z => na (by rw [q2] at z; exact z)
                simp only [if_neg hm, if_pos q2, if_neg q]
              · by_cases q3 : i = (slt st a).Parent
                · simp only [if_neg q, if_neg q2, if_pos q3]; split <;> rfl
                · simp only [if_neg q, if_neg q2, if_neg q3]; split <;> rfl
          · rw [E i i0]; unfold Cst
            have : (if i = a then ({ slt st a with Parent := -1, Kids := [] } : ref10_Slot) else if i = b then ({ slt st b with Parent := (slt st a).Parent, Kids := (slt st a).Kids } : ref10_Slot) else if i = (slt st a).Parent then ({ slt st i with Kids := rep a b (slt st i).Kids } : ref10_Slot) else slt st i).Cap = (slt st i).Cap := by
              by_cases q2 : i = a
              · rw [if_pos q2, q2]
              · rw [if_neg q2]
                by_cases q : i = b
                · rw [if_pos q, q]
                · rw [if_neg q]; split <;> rfl
            split
            · exact this
            · exact this
        have t' := t.replace r1 r2 e0 c1 c2
        have w' := TW.replace t hv.len w r1 r2 e0 c1 c2
        exact ⟨0, _, _, rfl, rfl, by decide, by decide, h.slots S t' h.cap rfl rfl rfl, hv.slots h S t' rfl rfl rfl ((SLow.refl h hv).replace a b _ r2) w' (fun _ _ _ => rfl), ⟨rfl, rfl, rfl⟩, fun z => absurd rfl z, fun _ => ⟨h1, h2, e0, c1, c2, S⟩⟩
    · have hb : repBad v a b = 2 := by unfold repBad; rw [if_pos (fun q => h2 q.2)]
      rw [replace_ok g a b hk (l := []) (by simp) (fun _ z => absurd z h2), hb]
      unfold ref10_State_Replace.f
      rw [rslot_ok, rslot_ok, Option.bind_some, Option.bind_some, decide_eq_false h2, Bool.not_false, Bool.or_true, cond_true]
      exact ⟨2, st, v, rfl, rfl, by decide, by decide, h, hv, Rest.refl st, fun _ => rfl, fun z => absurd z (by decide)⟩
  · have hb : repBad v a b = 2 := by unfold repBad; rw [if_pos (fun q => h1 q.1)]
    rw [replace_ok g a b hk (l := []) (by simp) (fun z => absurd z h1), hb]
    unfold ref10_State_Replace.f
    rw [rslot_ok, rslot_ok, Option.bind_some, Option.bind_some, decide_eq_false h1, Bool.not_false, Bool.true_or, cond_true]
    exact ⟨2, st, v, rfl, rfl, by decide, by decide, h, hv, Rest.refl st, fun _ => rfl, fun z => absurd z (by decide)⟩
theorem rleaf_l {st : ref10_State} (h : WF st) {v : List Int} (hv : IsW st v) : ∀ (m k : Nat) (n x : Int), 0 ≤ n → n + m = 96 → m < k → 0 ≤ x → x < 96 → ref10_State_Leaf.l1 st k (n, x) = some (leafN v m x)
  | 0, k, n, x, h0, h1, hk, x0, x1 => by
    obtain ⟨k, rfl⟩ : ∃ q, k = q + 1 := ⟨k - 1, by omega⟩
    unfold ref10_State_Leaf.l1
    rw [decide_eq_false (by omega)]; rfl
  | m + 1, k, n, x, h0, h1, hk, x0, x1 => by
    obtain ⟨k, rfl⟩ : ∃ q, k = q + 1 := ⟨k - 1, by omega⟩
    unfold ref10_State_Leaf.l1
    have k2 : sget v x 2 = hd (slt st x).Kids - 1 := by rw [tw_st h hv x 2 x0 x1 (by decide) (by decide)]; rfl
    have kr := kids_rg h x0 x1
    rw [decide_eq_true (by omega), cond_true, at_slot h.ls ⟨x0, x1⟩, Option.bind_some]
    cases hK : (slt st x).Kids with
    | nil =>
      rw [hK] at k2
      have k2 : sget v x 2 = 0 - 1 := k2
      show (some (decide (0 < ((([] : List Int).length : Nat) : Int)))).bind _ = _
      rw [decide_eq_false (by decide), Option.bind_some, cond_false]
      show _ = some (if sget v x 2 = -1 then x else _)
      rw [if_pos (by omega)]
    | cons c r =>
      rw [hK] at k2
      have k2 : sget v x 2 = c + 1 - 1 := k2
      have hc := kr c (by rw [hK]; exact List.mem_cons_self)
      rw [decide_eq_true (by simp only [List.length_cons]; omega), Option.bind_some, cond_true, Option.bind_some, hK]
      have a0 : at_ (c :: r) 0 = some c := rfl
      rw [a0, Option.bind_some, w64_id (by omega) (by omega), rleaf_l h hv m k (n + 1) c (by omega) (by omega) (by omega) hc.1 hc.2]
      show _ = some (if sget v x 2 = -1 then x else leafN v m (sget v x 2))
      rw [if_neg (by omega), k2, show c + 1 - 1 = c by omega]
theorem leaf_pl {st : ref10_State} (h : WF st) {v : List Int} (hv : IsW st v) (i : Int) {k : Nat} (hk : 100 ≤ k) : ref10_State_Leaf.f k st i = some (if InSlot i 0 then leafN v 96 i else -1) ∧ VM.run plainI (cdt_Leaf.f k i) v = some (if InSlot i 0 then leafN v 96 i else -1, v) := by
  refine ⟨?_, leaf_ok (hv.good h).1 i hk⟩
  unfold ref10_State_Leaf.f
  rw [rslot_ok, Option.bind_some]
  by_cases c : InSlot i 0
  · rw [decide_eq_true c, if_pos c, Bool.not_true, cond_false, rleaf_l h hv 96 k 0 i (by decide) (by decide) (by omega) c.1 c.2.1]; rfl
  · rw [decide_eq_false c, if_neg c]; rfl
end Go.Proofs
