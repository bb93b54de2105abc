/- Plain laws of what CdtSound reaches, part P10WordsF. On no condition. -/
import Derived.Test.YtbhboofhcgkgfaaP10WordsOCdtSound
set_option linter.all false
/-! All words of a state: the whole. -/
set_option linter.unusedVariables false
namespace Go.Proofs
open Go.Sl
theorem own0 {o : ref10_Obj} (K : o.Kind = 0) (f : Int) : own o f = if f = 0 then 0 else 0 := by unfold own; simp [K]
theorem own1 {o : ref10_Obj} (K : o.Kind = 1) (f : Int) : own o f = if f = 0 then 1 else if f = 1 then o.Size else if f = 2 then o.Used else 0 := by unfold own; simp [K]
theorem own2 {o : ref10_Obj} (K : o.Kind = 2) (f : Int) : own o f = if f = 0 then 2 else if f = 1 then o.First else if f = 2 then o.Radix else 0 := by unfold own; simp [K]
theorem own3 {o : ref10_Obj} (K : o.Kind = 3) (f : Int) : own o f = if f = 0 then 3 else if f = 1 then o.Wait else 0 := by unfold own; simp [K]
theorem own4 {o : ref10_Obj} (K : o.Kind = 4) (f : Int) : own o f = if f = 0 then 4 else if f = 1 then o.Word else 0 := by unfold own; simp [K]
theorem own5 {o : ref10_Obj} (K : o.Kind = 5) (f : Int) : own o f = if f = 0 then 5 else if f = 1 then o.State else if f = 2 then o.Owing + 1 else if f = 3 then o.Word else if f = 4 then o.Badge else if f = 5 then o.Prio + 256 * (o.On + 1) else if f = 6 then o.Owes + 1 else capWord o.Root := by unfold own; simp [K]
theorem own6 {o : ref10_Obj} (K : o.Kind = 6) (f : Int) : own o f = if f = 0 then 6 else if f = 1 then o.In + 1 else if f = 2 then o.Page else 0 := by unfold own; simp [K]
theorem own7 {o : ref10_Obj} (K : o.Kind = 7) (f : Int) : own o f = if f = 0 then 7 else if 1 ≤ f ∧ f ≤ 4 then pgw o (f - 1) else 0 := by unfold own; simp [K]
theorem own8 {o : ref10_Obj} (K : o.Kind = 8) (f : Int) : own o f = if f = 0 then 8 else if f = 1 then o.Bound + 1 else if f = 2 then o.Badge else if f = 3 then o.Mask else 0 := by unfold own; simp [K]
theorem eqa (a b c : Int) : (a + b = a + c) = (b = c) := by apply propext; omega
theorem eqc (a b : Int) : (a = a + b) = (b = 0) := by apply propext; omega
theorem eqb (a b : Int) : (a + b = a) = (b = 0) := by apply propext; omega
def OI (st : ref10_State) (i : Int) (b q : List Int) : Prop :=
  (∀ j : Int, 0 ≤ j → j < 480 ∨ 736 ≤ j → q.getD j.toNat 0 = b.getD j.toNat 0) ∧ ∀ s f, 0 ≤ s → s < 32 → 0 ≤ f → f < 8 → q.getD (480 + 8 * s + f).toNat 0 = if f = 2 ∧ (obt st s).Kind = 5 ∧ 0 ≤ (obt st s).On then (if (obt st s).On < i then ob st s 2 else 0) else if s < i then ob st s f else 0
set_option maxHeartbeats 2000000 in
theorem objs_ok {st : ref10_State} (h : WF st) (b : List Int) : ∀ (m k : Nat) (i : Int) (q : List Int), 0 ≤ i → i ≤ 32 → 32 - i = m → m + 100 < k → q.length = 738 → OI st i b q → ∃ q', ref10_State_Words.l4 st k (i, q) = some q' ∧ q'.length = 738 ∧ OI st 32 b q' := by
  intro m
  induction m with
  | zero =>
    intro k i q h0 h1 h2 hk hq hI
    obtain ⟨k, rfl⟩ : ∃ z, k = z + 1 := ⟨k - 1, by omega⟩
    obtain rfl : i = 32 := by omega
    unfold ref10_State_Words.l4
    rw [decide_eq_false (by omega), cond_false]
    exact ⟨q, rfl, hq, hI⟩
  | succ m ih =>
    intro k i q h0 h1 h2 hk hq hI
    obtain ⟨k, rfl⟩ : ∃ z, k = z + 1 := ⟨k - 1, by omega⟩
    have hi : 0 ≤ i ∧ i < 32 := by omega
    have hx : at_ st.Objs i = some (obt st i) := at_getD h0 (by rw [h.lo]; omega)
    have hw := h.obj i h0 hi.2
    have hqr := fun y hy => h.que i h0 hi.2 y hy
    have hqk := h.qk i h0 hi.2
    have hne : ∀ y ∈ (obt st i).Queue, 0 ≤ y ∧ y < 32 ∧ y ≠ i := fun y hy => by
      obtain ⟨y1, y2, y3, y4, y5⟩ := hqr y hy
      have := hqk (List.ne_nil_of_mem hy)
      refine ⟨y1, y2, fun e => ?_⟩
      rw [e] at y3; omega
    have hqn := nodup_len 32 (h.nodq i h0 hi.2) (fun y hy => ⟨(hne y hy).1, (hne y hy).2.1⟩)
    -- what follows the object's own words
    have cont : ∀ q5 : List Int, q5.length = 738 → (∀ j : Int, 0 ≤ j → q5.getD j.toNat 0 = if 480 + 8 * i ≤ j ∧ j < 488 + 8 * i then own (obt st i) (j - (480 + 8 * i)) + (if j = 480 + 8 * i + 2 ∧ (obt st i).Kind = 5 then q.getD j.toNat 0 else 0) else q.getD j.toNat 0) →
        ∃ q', ((ref10_State_Words.l7 i (obt st i) k (0, q5)).bind fun qv5_e7 => ref10_State_Words.l4 st k (w64 (i + 1), qv5_e7)) = some q' ∧ q'.length = 738 ∧ OI st 32 b q' := by
      intro q5 l5 G
      obtain ⟨q', e2, l2, g2, g3⟩ := queue_ok i (obt st i) hi hqn hne (obt st i).Queue [] 0 k q5 rfl rfl (by omega) l5 (h.nodq i h0 hi.2) (fun y hy => by
        obtain ⟨y1, y2, y3, y4, y5⟩ := hqr y hy
        have := (hne y hy).2.2
        rw [G _ (by omega), if_neg (by omega), hI.2 y 2 y1 y2 (by decide) (by decide), if_pos ⟨rfl, y3, by omega⟩, if_neg (by omega)])
      rw [e2, Option.bind_some]
      try simp only []
      rw [w64_id (by omega) (by omega)]
      refine ih k (i + 1) q' (by omega) (by omega) (by omega) (by omega) l2 ⟨fun j hj hj2 => ?_, fun s f s1 s2 f1 f2 => ?_⟩
      · rw [g2 j hj hj2, G j hj, if_neg (by omega)]; exact hI.1 j hj hj2
      · rw [g3 s f s1 s2 f1 f2, G _ (by omega)]
        have hIs := hI.2 s f s1 s2 f1 f2
        by_cases c : f = 2 ∧ s ∈ (obt st i).Queue
        · obtain ⟨y1, y2, y3, y4, y5⟩ := hqr s c.2
          rw [if_pos c, if_pos ⟨c.1, y3, by omega⟩, if_pos (by omega)]
          unfold ob
          rw [if_pos ⟨rfl, y3, by omega⟩, y4]
        · rw [if_neg c]
          by_cases e : s = i
          · subst e
            rw [if_pos (show 480 + 8 * s ≤ 480 + 8 * s + f ∧ 480 + 8 * s + f < 488 + 8 * s by omega), show 480 + 8 * s + f - (480 + 8 * s) = f by omega]
            by_cases k5 : f = 2 ∧ (obt st s).Kind = 5
            · have hq0 : (obt st s).Queue = [] := by
                rcases Classical.em ((obt st s).Queue = []) with z | z
                · exact z
                · have := hqk z; omega
              obtain ⟨rfl, k5⟩ := k5
              rw [if_neg (fun z => z.2.2.2 hq0), if_neg (fun z => z.2.2 hq0), if_pos ⟨by omega, k5⟩, hIs]
              have eo : own (obt st s) 2 = (obt st s).Owing + 1 := by
                unfold own; simp [k5]
              rw [eo]
              by_cases on : 0 ≤ (obt st s).On
              · have hm := h.onq s h0 hi.2 k5 on
                have hon := hw.on
                have how := (h.que _ on hon.2 s hm).2.2.2.2
                rw [if_pos ⟨rfl, k5, on⟩, how]
                have hno : (obt st s).On ≠ s := fun z => by rw [z] at hm; exact c ⟨rfl, hm⟩
                by_cases lt : (obt st s).On < s
                · rw [if_pos lt, if_pos ⟨rfl, k5, on⟩, if_pos (by omega)]; omega
                · rw [if_neg lt, if_pos ⟨rfl, k5, on⟩, if_neg (by omega)]; rfl
              · rw [if_neg (fun z => on z.2.2), if_neg (by omega), if_neg (fun z => on z.2.2), if_pos (by omega)]
                unfold ob
                rw [if_neg (fun z => on z.2.2), if_neg (fun z => z.2 hq0), if_neg (by omega), eo]; omega
            · have eR : (if f = 2 ∧ (obt st s).Kind = 5 ∧ 0 ≤ (obt st s).On then (if (obt st s).On < s + 1 then ob st s 2 else 0) else if s < s + 1 then ob st s f else 0) = ob st s f := by
                rw [if_neg (fun z => k5 ⟨z.1, z.2.1⟩), if_pos (by omega)]
              have eo : ob st s f = if f = 2 ∧ (obt st s).Queue ≠ [] then hd (obt st s).Queue else if f = 3 ∧ (obt st s).Queue ≠ [] then la (obt st s).Queue else own (obt st s) f := by
                unfold ob; rw [if_neg (fun z => k5 ⟨z.1, z.2.1⟩)]
              rw [eR, eo]
              by_cases c2 : f = 2 ∧ (obt st s).Queue ≠ []
              · rw [if_pos ⟨c2.1, rfl, rfl, c2.2⟩, if_pos c2]
              · rw [if_neg (fun z => c2 ⟨z.1, z.2.2.2⟩), if_neg c2]
                by_cases c3 : f = 3 ∧ (obt st s).Queue ≠ []
                · rw [if_pos ⟨c3.1, rfl, c3.2⟩, if_pos c3]
                · rw [if_neg (fun z => c3 ⟨z.1, z.2.2⟩), if_neg c3, if_neg (fun z => k5 ⟨by omega, z.2⟩)]; omega
          · rw [if_neg (fun z => e z.2.1), if_neg (fun z => e z.2.1), if_neg (by omega), hIs]
            by_cases k5 : f = 2 ∧ (obt st s).Kind = 5 ∧ 0 ≤ (obt st s).On
            · rw [if_pos k5, if_pos k5]
              have hno : (obt st s).On ≠ i := fun z => by
                have hm := h.onq s s1 s2 k5.2.1 k5.2.2
                rw [z] at hm; exact c ⟨k5.1, hm⟩
              by_cases lt : (obt st s).On < i
              · rw [if_pos lt, if_pos (by omega)]
              · rw [if_neg lt, if_neg (by omega)]
            · rw [if_neg k5, if_neg k5]
              by_cases lt : s < i
              · rw [if_pos lt, if_pos (by omega)]
              · rw [if_neg lt, if_neg (by omega)]
    have hz : ∀ f, 0 ≤ f → f < 8 → ¬ (f = 2 ∧ (obt st i).Kind = 5) → q.getD (480 + 8 * i + f).toNat 0 = 0 := fun f f1 f2 hf => by
      rw [hI.2 i f h0 hi.2 f1 f2, if_neg (fun z => hf ⟨z.1, z.2.1⟩), if_neg (by omega)]
    have hc2 : 0 ≤ q.getD (480 + 8 * i + 2).toNat 0 ∧ q.getD (480 + 8 * i + 2).toNat 0 ≤ 32 := by
      rw [hI.2 i 2 h0 hi.2 (by decide) (by decide)]
      by_cases c : (obt st i).Kind = 5 ∧ 0 ≤ (obt st i).On
      · rw [if_pos ⟨rfl, c⟩]
        split
        · unfold ob
          rw [if_pos ⟨rfl, c⟩]
          exact nextOf_rg (by decide) _ fun y hy => by
            have := h.que _ c.2 hw.on.2 y hy; omega
        · decide
      · rw [if_neg (fun z => c z.2), if_neg (by omega)]; decide
    unfold ref10_State_Words.l4
    rw [decide_eq_true (by omega), cond_true, hx, Option.bind_some]
    have p0 : w64 (480 + w64 (8 * i)) = 480 + 8 * i := by rw [w64_id (x := 8 * i) (by omega) (by omega), w64_id (by omega) (by omega)]
    have p1 : w64 (480 + 8 * i + 1) = 480 + 8 * i + 1 := w64_id (by omega) (by omega)
    have p2 : w64 (480 + 8 * i + 2) = 480 + 8 * i + 2 := w64_id (by omega) (by omega)
    have p3 : w64 (480 + 8 * i + 3) = 480 + 8 * i + 3 := w64_id (by omega) (by omega)
    have p4 : w64 (480 + 8 * i + 4) = 480 + 8 * i + 4 := w64_id (by omega) (by omega)
    have p5 : w64 (480 + 8 * i + 5) = 480 + 8 * i + 5 := w64_id (by omega) (by omega)
    have p6 : w64 (480 + 8 * i + 6) = 480 + 8 * i + 6 := w64_id (by omega) (by omega)
    have p7 : w64 (480 + 8 * i + 7) = 480 + 8 * i + 7 := w64_id (by omega) (by omega)
    have A : ∀ (q' : List Int) (c : Int), q'.length = 738 → 0 ≤ c → c < 8 → at_ q' (480 + 8 * i + c) = some (q'.getD (480 + 8 * i + c).toNat 0) := fun q' c z c0 c1 => rd_at z (by omega)
    have A0 : at_ q (480 + 8 * i) = some (q.getD (480 + 8 * i).toNat 0) := rd_at hq (by omega)
    have S : ∀ (q' : List Int) (c v j : Int), q'.length = 738 → 0 ≤ c → c < 8 → 0 ≤ j → (q'.set (480 + 8 * i + c).toNat v).getD j.toNat 0 = if j = 480 + 8 * i + c then v else q'.getD j.toNat 0 := fun q' c v j z c0 c1 hj => set_at z _ _ _ (by omega) hj
    have S0 : ∀ (v j : Int), 0 ≤ j → (q.set (480 + 8 * i).toNat v).getD j.toNat 0 = if j = 480 + 8 * i then v else q.getD j.toNat 0 := fun v j hj => set_at hq _ _ _ (by omega) hj
    obtain ⟨w1, w2, w3, w4, w5, w6, w7, w8, w9, w10, w11, w12, w13, w14, w15, w16, w17, w18, w19, w20⟩ := hw
    have v1 : wu64 (obt st i).Kind = (obt st i).Kind := wu64_id (by omega) (by omega)
    have z0 := hz 0 (by decide) (by decide) (by omega)
    rw [Int.add_zero] at z0
    have z1 := hz 1 (by decide) (by decide) (by omega)
    have z3 := hz 3 (by decide) (by decide) (by omega)
    have z4 := hz 4 (by decide) (by decide) (by omega)
    have z5 := hz 5 (by decide) (by decide) (by omega)
    have z6 := hz 6 (by decide) (by decide) (by omega)
    have z7 := hz 7 (by decide) (by decide) (by omega)
    simp only [p0, p1, p2, p3, p4, p5, p6, p7, A0, Option.bind_some, v1]
    have fin : ∀ q5 : List Int, q5.length = 738 → (∀ j : Int, 0 ≤ j → ¬ (480 + 8 * i ≤ j ∧ j < 488 + 8 * i) → q5.getD j.toNat 0 = q.getD j.toNat 0) → (∀ f, 0 ≤ f → f < 8 → q5.getD (480 + 8 * i + f).toNat 0 = own (obt st i) f + (if f = 2 ∧ (obt st i).Kind = 5 then q.getD (480 + 8 * i + 2).toNat 0 else 0)) →
        ∃ q', ((ref10_State_Words.l7 i (obt st i) k (0, q5)).bind fun qv5_e7 => ref10_State_Words.l4 st k (w64 (i + 1), qv5_e7)) = some q' ∧ q'.length = 738 ∧ OI st 32 b q' := fun q5 l5 a1 a2 => cont q5 l5 fun j hj => by
      by_cases c : 480 + 8 * i ≤ j ∧ j < 488 + 8 * i
      · rw [if_pos c]
        have := a2 (j - (480 + 8 * i)) (by omega) (by omega)
        rw [show 480 + 8 * i + (j - (480 + 8 * i)) = j by omega] at this
        rw [this]
        by_cases d : j = 480 + 8 * i + 2
        · subst d
          rw [show 480 + 8 * i + 2 - (480 + 8 * i) = 2 by omega]
          simp only [true_and]
        · rw [if_neg (fun z => d (by omega)), if_neg (fun z => d z.1)]
      · rw [if_neg c]; exact a1 j hj c
    rcases (by omega : (obt st i).Kind = 0 ∨ (obt st i).Kind = 1 ∨ (obt st i).Kind = 2 ∨ (obt st i).Kind = 3 ∨ (obt st i).Kind = 4 ∨ (obt st i).Kind = 5 ∨ (obt st i).Kind = 6 ∨ (obt st i).Kind = 7 ∨ (obt st i).Kind = 8) with K | K | K | K | K | K | K | K | K
    · simp only [K, show ((0 : Int) == 1) = false from rfl, show ((0 : Int) == 2) = false from rfl, show ((0 : Int) == 3) = false from rfl, show ((0 : Int) == 4) = false from rfl, show ((0 : Int) == 5) = false from rfl, show ((0 : Int) == 6) = false from rfl, show ((0 : Int) == 7) = false from rfl, show ((0 : Int) == 8) = false from rfl, cond_false, cond_true, Option.bind_some]
      refine fin _ (by simp only [List.length_set, hq]) (fun j hj c => ?_) (fun f f1 f2 => ?_)
      · rw [S0 _ _ hj, if_neg (by omega)]
      · rw [own0 K, if_neg (show ¬ (f = 2 ∧ (obt st i).Kind = 5) by omega), S0 _ _ (by omega)]
        rcases (by omega : f = 0 ∨ f = 1 ∨ f = 2 ∨ f = 3 ∨ f = 4 ∨ f = 5 ∨ f = 6 ∨ f = 7) with rfl | rfl | rfl | rfl | rfl | rfl | rfl | rfl
        all_goals simp [-List.getD_eq_getElem?_getD, eqa, eqb, eqc, hz 2 (by decide) (by decide) (by omega), z1, z3, z4, z5, z6, z7]
    · simp only [K, show ((1 : Int) == 1) = true from rfl, show ((1 : Int) == 2) = false from rfl, show ((1 : Int) == 3) = false from rfl, show ((1 : Int) == 4) = false from rfl, show ((1 : Int) == 5) = false from rfl, show ((1 : Int) == 6) = false from rfl, show ((1 : Int) == 7) = false from rfl, show ((1 : Int) == 8) = false from rfl, cond_false, cond_true, Option.bind_some]
      rw [A _ 1 (by simp only [List.length_set, hq]) (by decide) (by decide), Option.bind_some, A _ 2 (by simp only [List.length_set, hq]) (by decide) (by decide), Option.bind_some]
      rw [wu64_id (x := (obt st i).Size) (by omega) (by omega), wu64_id (x := (obt st i).Used) (by omega) (by omega)]
      refine fin _ (by simp only [List.length_set, hq]) (fun j hj c => ?_) (fun f f1 f2 => ?_)
      · rw [S _ 2 _ _ (by simp only [List.length_set, hq]) (by decide) (by decide) hj, S _ 1 _ _ (by simp only [List.length_set, hq]) (by decide) (by decide) hj, S0 _ _ hj, if_neg (by omega), if_neg (by omega), if_neg (by omega)]
      · rw [own1 K, if_neg (show ¬ (f = 2 ∧ (obt st i).Kind = 5) by omega), S _ 2 _ _ (by simp only [List.length_set, hq]) (by decide) (by decide) (by omega), S _ 1 _ _ (by simp only [List.length_set, hq]) (by decide) (by decide) (by omega), S0 _ _ (by omega)]
        rcases (by omega : f = 0 ∨ f = 1 ∨ f = 2 ∨ f = 3 ∨ f = 4 ∨ f = 5 ∨ f = 6 ∨ f = 7) with rfl | rfl | rfl | rfl | rfl | rfl | rfl | rfl
        all_goals simp [-List.getD_eq_getElem?_getD, eqa, eqb, eqc, hz 2 (by decide) (by decide) (by omega), z1, z3, z4, z5, z6, z7]
    · simp only [K, show ((2 : Int) == 1) = false from rfl, show ((2 : Int) == 2) = true from rfl, show ((2 : Int) == 3) = false from rfl, show ((2 : Int) == 4) = false from rfl, show ((2 : Int) == 5) = false from rfl, show ((2 : Int) == 6) = false from rfl, show ((2 : Int) == 7) = false from rfl, show ((2 : Int) == 8) = false from rfl, cond_false, cond_true, Option.bind_some]
      rw [A _ 1 (by simp only [List.length_set, hq]) (by decide) (by decide), Option.bind_some, A _ 2 (by simp only [List.length_set, hq]) (by decide) (by decide), Option.bind_some]
      rw [wu64_id (x := (obt st i).First) (by omega) (by omega), wu64_id (x := (obt st i).Radix) (by omega) (by omega)]
      refine fin _ (by simp only [List.length_set, hq]) (fun j hj c => ?_) (fun f f1 f2 => ?_)
      · rw [S _ 2 _ _ (by simp only [List.length_set, hq]) (by decide) (by decide) hj, S _ 1 _ _ (by simp only [List.length_set, hq]) (by decide) (by decide) hj, S0 _ _ hj, if_neg (by omega), if_neg (by omega), if_neg (by omega)]
      · rw [own2 K, if_neg (show ¬ (f = 2 ∧ (obt st i).Kind = 5) by omega), S _ 2 _ _ (by simp only [List.length_set, hq]) (by decide) (by decide) (by omega), S _ 1 _ _ (by simp only [List.length_set, hq]) (by decide) (by decide) (by omega), S0 _ _ (by omega)]
        rcases (by omega : f = 0 ∨ f = 1 ∨ f = 2 ∨ f = 3 ∨ f = 4 ∨ f = 5 ∨ f = 6 ∨ f = 7) with rfl | rfl | rfl | rfl | rfl | rfl | rfl | rfl
        all_goals simp [-List.getD_eq_getElem?_getD, eqa, eqb, eqc, hz 2 (by decide) (by decide) (by omega), z1, z3, z4, z5, z6, z7]
    · simp only [K, show ((3 : Int) == 1) = false from rfl, show ((3 : Int) == 2) = false from rfl, show ((3 : Int) == 3) = true from rfl, show ((3 : Int) == 4) = false from rfl, show ((3 : Int) == 5) = false from rfl, show ((3 : Int) == 6) = false from rfl, show ((3 : Int) == 7) = false from rfl, show ((3 : Int) == 8) = false from rfl, cond_false, cond_true, Option.bind_some]
      rw [A _ 1 (by simp only [List.length_set, hq]) (by decide) (by decide), Option.bind_some]
      rw [wu64_id (x := (obt st i).Wait) (by omega) (by omega)]
      refine fin _ (by simp only [List.length_set, hq]) (fun j hj c => ?_) (fun f f1 f2 => ?_)
      · rw [S _ 1 _ _ (by simp only [List.length_set, hq]) (by decide) (by decide) hj, S0 _ _ hj, if_neg (by omega), if_neg (by omega)]
      · rw [own3 K, if_neg (show ¬ (f = 2 ∧ (obt st i).Kind = 5) by omega), S _ 1 _ _ (by simp only [List.length_set, hq]) (by decide) (by decide) (by omega), S0 _ _ (by omega)]
        rcases (by omega : f = 0 ∨ f = 1 ∨ f = 2 ∨ f = 3 ∨ f = 4 ∨ f = 5 ∨ f = 6 ∨ f = 7) with rfl | rfl | rfl | rfl | rfl | rfl | rfl | rfl
        all_goals simp [-List.getD_eq_getElem?_getD, eqa, eqb, eqc, hz 2 (by decide) (by decide) (by omega), z1, z3, z4, z5, z6, z7]
    · simp only [K, show ((4 : Int) == 1) = false from rfl, show ((4 : Int) == 2) = false from rfl, show ((4 : Int) == 3) = false from rfl, show ((4 : Int) == 4) = true from rfl, show ((4 : Int) == 5) = false from rfl, show ((4 : Int) == 6) = false from rfl, show ((4 : Int) == 7) = false from rfl, show ((4 : Int) == 8) = false from rfl, cond_false, cond_true, Option.bind_some]
      rw [A _ 1 (by simp only [List.length_set, hq]) (by decide) (by decide), Option.bind_some]
      rw [wu64_id (x := (obt st i).Word) (by omega) (by omega)]
      refine fin _ (by simp only [List.length_set, hq]) (fun j hj c => ?_) (fun f f1 f2 => ?_)
      · rw [S _ 1 _ _ (by simp only [List.length_set, hq]) (by decide) (by decide) hj, S0 _ _ hj, if_neg (by omega), if_neg (by omega)]
      · rw [own4 K, if_neg (show ¬ (f = 2 ∧ (obt st i).Kind = 5) by omega), S _ 1 _ _ (by simp only [List.length_set, hq]) (by decide) (by decide) (by omega), S0 _ _ (by omega)]
        rcases (by omega : f = 0 ∨ f = 1 ∨ f = 2 ∨ f = 3 ∨ f = 4 ∨ f = 5 ∨ f = 6 ∨ f = 7) with rfl | rfl | rfl | rfl | rfl | rfl | rfl | rfl
        all_goals simp [-List.getD_eq_getElem?_getD, eqa, eqb, eqc, hz 2 (by decide) (by decide) (by omega), z1, z3, z4, z5, z6, z7]
    · simp only [K, show ((5 : Int) == 1) = false from rfl, show ((5 : Int) == 2) = false from rfl, show ((5 : Int) == 3) = false from rfl, show ((5 : Int) == 4) = false from rfl, show ((5 : Int) == 5) = true from rfl, show ((5 : Int) == 6) = false from rfl, show ((5 : Int) == 7) = false from rfl, show ((5 : Int) == 8) = false from rfl, cond_false, cond_true, Option.bind_some]
      rw [A _ 1 (by simp only [List.length_set, hq]) (by decide) (by decide), Option.bind_some, A _ 2 (by simp only [List.length_set, hq]) (by decide) (by decide), Option.bind_some, Option.bind_some, A _ 3 (by simp only [List.length_set, hq]) (by decide) (by decide), Option.bind_some, A _ 4 (by simp only [List.length_set, hq]) (by decide) (by decide), Option.bind_some, A _ 5 (by simp only [List.length_set, hq]) (by decide) (by decide), Option.bind_some, A _ 6 (by simp only [List.length_set, hq]) (by decide) (by decide), Option.bind_some, word_ok w14, Option.bind_some, A _ 7 (by simp only [List.length_set, hq]) (by decide) (by decide), Option.bind_some]
      rw [wu64_id (x := (obt st i).State) (by omega) (by omega), wu64_id (x := (obt st i).Word) (by omega) (by omega), wu64_id (x := (obt st i).Badge) (by omega) (by omega), w64_id (x := (obt st i).Owing + 1) (by omega) (by omega), wu64_id (x := (obt st i).Owing + 1) (by omega) (by omega), w64_id (x := (obt st i).Owes + 1) (by omega) (by omega), wu64_id (x := (obt st i).Owes + 1) (by omega) (by omega), w64_id (x := (obt st i).On + 1) (by omega) (by omega), w64_id (x := 256 * ((obt st i).On + 1)) (by omega) (by omega), w64_id (x := (obt st i).Prio + 256 * ((obt st i).On + 1)) (by omega) (by omega), wu64_id (x := (obt st i).Prio + 256 * ((obt st i).On + 1)) (by omega) (by omega)]
      rw [S _ 1 _ _ (by simp only [List.length_set, hq]) (by decide) (by decide) (by omega), S0 _ _ (by omega), if_neg (by omega), if_neg (by omega), wu64_id (x := q.getD (480 + 8 * i + 2).toNat 0 + ((obt st i).Owing + 1)) (by omega) (by omega)]
      refine fin _ (by simp only [List.length_set, hq]) (fun j hj c => ?_) (fun f f1 f2 => ?_)
      · rw [S _ 7 _ _ (by simp only [List.length_set, hq]) (by decide) (by decide) hj, S _ 6 _ _ (by simp only [List.length_set, hq]) (by decide) (by decide) hj, S _ 5 _ _ (by simp only [List.length_set, hq]) (by decide) (by decide) hj, S _ 4 _ _ (by simp only [List.length_set, hq]) (by decide) (by decide) hj, S _ 3 _ _ (by simp only [List.length_set, hq]) (by decide) (by decide) hj, S _ 2 _ _ (by simp only [List.length_set, hq]) (by decide) (by decide) hj, S _ 1 _ _ (by simp only [List.length_set, hq]) (by decide) (by decide) hj, S0 _ _ hj, if_neg (by omega), if_neg (by omega), if_neg (by omega), if_neg (by omega), if_neg (by omega), if_neg (by omega), if_neg (by omega), if_neg (by omega)]
      · rw [own5 K, S _ 7 _ _ (by simp only [List.length_set, hq]) (by decide) (by decide) (by omega), S _ 6 _ _ (by simp only [List.length_set, hq]) (by decide) (by decide) (by omega), S _ 5 _ _ (by simp only [List.length_set, hq]) (by decide) (by decide) (by omega), S _ 4 _ _ (by simp only [List.length_set, hq]) (by decide) (by decide) (by omega), S _ 3 _ _ (by simp only [List.length_set, hq]) (by decide) (by decide) (by omega), S _ 2 _ _ (by simp only [List.length_set, hq]) (by decide) (by decide) (by omega), S _ 1 _ _ (by simp only [List.length_set, hq]) (by decide) (by decide) (by omega), S0 _ _ (by omega)]
        rcases (by omega : f = 0 ∨ f = 1 ∨ f = 2 ∨ f = 3 ∨ f = 4 ∨ f = 5 ∨ f = 6 ∨ f = 7) with rfl | rfl | rfl | rfl | rfl | rfl | rfl | rfl
        all_goals simp [-List.getD_eq_getElem?_getD, eqa, eqb, eqc, K, z1, z3, z4, z5, z6, z7]
        omega
    · simp only [K, show ((6 : Int) == 1) = false from rfl, show ((6 : Int) == 2) = false from rfl, show ((6 : Int) == 3) = false from rfl, show ((6 : Int) == 4) = false from rfl, show ((6 : Int) == 5) = false from rfl, show ((6 : Int) == 6) = true from rfl, show ((6 : Int) == 7) = false from rfl, show ((6 : Int) == 8) = false from rfl, cond_false, cond_true, Option.bind_some]
      rw [A _ 1 (by simp only [List.length_set, hq]) (by decide) (by decide), Option.bind_some, A _ 2 (by simp only [List.length_set, hq]) (by decide) (by decide), Option.bind_some]
      rw [w64_id (x := (obt st i).In + 1) (by omega) (by omega), wu64_id (x := (obt st i).In + 1) (by omega) (by omega), wu64_id (x := (obt st i).Page) (by omega) (by omega)]
      refine fin _ (by simp only [List.length_set, hq]) (fun j hj c => ?_) (fun f f1 f2 => ?_)
      · rw [S _ 2 _ _ (by simp only [List.length_set, hq]) (by decide) (by decide) hj, S _ 1 _ _ (by simp only [List.length_set, hq]) (by decide) (by decide) hj, S0 _ _ hj, if_neg (by omega), if_neg (by omega), if_neg (by omega)]
      · rw [own6 K, if_neg (show ¬ (f = 2 ∧ (obt st i).Kind = 5) by omega), S _ 2 _ _ (by simp only [List.length_set, hq]) (by decide) (by decide) (by omega), S _ 1 _ _ (by simp only [List.length_set, hq]) (by decide) (by decide) (by omega), S0 _ _ (by omega)]
        rcases (by omega : f = 0 ∨ f = 1 ∨ f = 2 ∨ f = 3 ∨ f = 4 ∨ f = 5 ∨ f = 6 ∨ f = 7) with rfl | rfl | rfl | rfl | rfl | rfl | rfl | rfl
        all_goals simp [-List.getD_eq_getElem?_getD, eqa, eqb, eqc, hz 2 (by decide) (by decide) (by omega), z1, z3, z4, z5, z6, z7]
    · simp only [K, show ((7 : Int) == 1) = false from rfl, show ((7 : Int) == 2) = false from rfl, show ((7 : Int) == 3) = false from rfl, show ((7 : Int) == 4) = false from rfl, show ((7 : Int) == 5) = false from rfl, show ((7 : Int) == 6) = false from rfl, show ((7 : Int) == 7) = true from rfl, show ((7 : Int) == 8) = false from rfl, cond_false, cond_true, Option.bind_some]
      obtain ⟨q6, e6, l6, g6⟩ := pages_ok i (obt st i) hi (h.obj i h0 hi.2) 4 k 0 (q.set (480 + 8 * i).toNat 7) (by decide) (by decide) (by decide) (by omega) (by simpa using hq)
      rw [e6, Option.bind_some]
      simp only [Option.bind_some]
      refine fin _ l6 (fun j hj c => ?_) (fun f f1 f2 => ?_)
      · rw [g6 j hj, if_neg (by omega), S0 _ _ hj, if_neg (by omega)]
      · rw [own7 K, if_neg (show ¬ (f = 2 ∧ (obt st i).Kind = 5) by omega), g6 _ (by omega), S0 _ _ (by omega)]
        by_cases e0 : f = 0
        · subst e0; rw [if_neg (by omega), if_pos (by omega), if_pos rfl]; rfl
        · rw [if_neg e0]
          by_cases e1 : 1 ≤ f ∧ f ≤ 4
          · rw [show 480 + 8 * i + f - (480 + 8 * i + 1) = f - 1 by omega, if_pos e1]
            unfold pgw
            by_cases e2 : 0 ≤ (obt st i).Pages.nth (f - 1)
            · rw [if_pos ⟨by omega, by omega, e2⟩, if_pos e2]; omega
            · rw [if_neg (fun z => e2 z.2.2), if_neg (by omega), if_neg e2, hz f f1 f2 (by omega)]; rfl
          · rw [if_neg e1, if_neg (by omega), if_neg (by omega), hz f f1 f2 (by omega)]; rfl
    · simp only [K, show ((8 : Int) == 1) = false from rfl, show ((8 : Int) == 2) = false from rfl, show ((8 : Int) == 3) = false from rfl, show ((8 : Int) == 4) = false from rfl, show ((8 : Int) == 5) = false from rfl, show ((8 : Int) == 6) = false from rfl, show ((8 : Int) == 7) = false from rfl, show ((8 : Int) == 8) = true from rfl, cond_false, cond_true, Option.bind_some]
      rw [A _ 1 (by simp only [List.length_set, hq]) (by decide) (by decide), Option.bind_some, A _ 2 (by simp only [List.length_set, hq]) (by decide) (by decide), Option.bind_some, A _ 3 (by simp only [List.length_set, hq]) (by decide) (by decide), Option.bind_some]
      rw [w64_id (x := (obt st i).Bound + 1) (by omega) (by omega), wu64_id (x := (obt st i).Bound + 1) (by omega) (by omega), wu64_id (x := (obt st i).Badge) (by omega) (by omega), wu64_id (x := (obt st i).Mask) (by omega) (by omega)]
      refine fin _ (by simp only [List.length_set, hq]) (fun j hj c => ?_) (fun f f1 f2 => ?_)
      · rw [S _ 3 _ _ (by simp only [List.length_set, hq]) (by decide) (by decide) hj, S _ 2 _ _ (by simp only [List.length_set, hq]) (by decide) (by decide) hj, S _ 1 _ _ (by simp only [List.length_set, hq]) (by decide) (by decide) hj, S0 _ _ hj, if_neg (by omega), if_neg (by omega), if_neg (by omega), if_neg (by omega)]
      · rw [own8 K, if_neg (show ¬ (f = 2 ∧ (obt st i).Kind = 5) by omega), S _ 3 _ _ (by simp only [List.length_set, hq]) (by decide) (by decide) (by omega), S _ 2 _ _ (by simp only [List.length_set, hq]) (by decide) (by decide) (by omega), S _ 1 _ _ (by simp only [List.length_set, hq]) (by decide) (by decide) (by omega), S0 _ _ (by omega)]
        rcases (by omega : f = 0 ∨ f = 1 ∨ f = 2 ∨ f = 3 ∨ f = 4 ∨ f = 5 ∨ f = 6 ∨ f = 7) with rfl | rfl | rfl | rfl | rfl | rfl | rfl | rfl
        all_goals simp [-List.getD_eq_getElem?_getD, eqa, eqb, eqc, hz 2 (by decide) (by decide) (by omega), z1, z3, z4, z5, z6, z7]
end Go.Proofs
