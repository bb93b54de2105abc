/- Plain laws of what is reached, parts P12DrvPl, P12Pick, P12DrvDo, P12Init, P12Boot. On no condition. -/
import Derived.Test.YtdmhpmnbcbjneaaPlDeriveLess1
import Derived.Test.YtdmhpmnbcbjneaaFnDeriveLess0
import Derived.Test.YtdmhpmnbcbjneaaFnDeriveLess1
import Derived.Test.YtdmhpmnbcbjneaaFnDeriveLess4
import Derived.Test.YtdmhpmnbcbjneaaFnDeriveLess2
import Derived.Test.YtdmhpmnbcbjneaaFr1
import Derived.Test.YtdmhpmnbcbjneaaPlDeriveLess0
set_option linter.all false
/-! Capabilities copied, minted, moved, mutated, deleted: the program's words are the state's. -/
set_option linter.unusedVariables false
namespace Go.Proofs
open Go.Sl
/-- Slots without a capability are alone; slots are in a tree. -/
structure DI (st : ref10_State) : Prop where
  nk : ∀ i, 0 ≤ i → i < 96 → (Cst st i).Kind = 0 → Pst st i = -1 ∧ Kst st i = []
  ac : ∃ r : Int → Nat, ∀ i, 0 ≤ i → i < 96 → 0 ≤ Pst st i → r (Pst st i) < r i
def within (c d : api_Cap) : Prop := c.Kind = d.Kind ∧ c.Obj = d.Obj ∧ bclr .i64 c.Rights d.Rights = 0 ∧ (d.Badge = 0 ∨ c.Badge = d.Badge)
theorem within_self {c : api_Cap} (h : CapMay c) : within c c := ⟨rfl, rfl, bclr_self h.2.2.1 h.2.2.2.1, .inr rfl⟩
theorem within_ok (c d : api_Cap) : ∃ b, rights_Within.f c d = some b ∧ (within c d → b = true) := by
  refine ⟨_, rfl, fun ⟨h1, h2, h3, h4⟩ => ?_⟩
  simp only [h1, h2, h3, beq_self_eq_true, Bool.true_and, Bool.or_eq_true, beq_iff_eq]
  exact h4
/-- No capability but those within one that was there. -/
def Le (st st' : ref10_State) : Prop := ∀ i, 0 ≤ i → i < 96 → (Cst st' i).Kind ≠ 0 → ∃ j, 0 ≤ j ∧ j < 96 ∧ (Cst st j).Kind ≠ 0 ∧ within (Cst st' i) (Cst st j)
theorem Le.refl {st : ref10_State} (h : WF st) : Le st st := fun i i0 i1 k => ⟨i, i0, i1, k, within_self (h.cap i i0 i1)⟩
def endsBad (st : ref10_State) (a b : Int) : Int := if ¬ (InSlot a 0 ∧ InSlot b 0) then 2 else if (Cst st a).Kind = 0 then 2 else if (Cst st b).Kind ≠ 0 then 8 else 0
theorem endsBad_rg (st : ref10_State) (a b : Int) : 0 ≤ endsBad st a b ∧ endsBad st a b ≤ 14 := by
  unfold endsBad; repeat' split
  all_goals decide
theorem ends_0 {st : ref10_State} {a b : Int} (h : endsBad st a b = 0) : InSlot a 0 ∧ InSlot b 0 ∧ (Cst st a).Kind ≠ 0 ∧ (Cst st b).Kind = 0 := by
  unfold endsBad at h
  split at h
  · cases h
  · rename_i c
    have c := Classical.not_not.1 c
    split at h
    · cases h
    · rename_i c2
      split at h
      · cases h
      · rename_i c3; exact ⟨c.1, c.2, c2, Classical.not_not.1 c3⟩
section
variable {st : ref10_State} (h : WF st)
include h
theorem rends_ok (a b : Int) : ref10_State_ends.f st a b = some (if endsBad st a b = 0 then Cst st a else noCap, endsBad st a b) := by
  unfold ref10_State_ends.f
  rw [rslot_ok, rslot_ok, Option.bind_some, Option.bind_some]
  by_cases ia : InSlot a 0
  · by_cases ib : InSlot b 0
    · rw [decide_eq_true ia, decide_eq_true ib]
      simp only [Bool.not_true, Bool.or_false, cond_false]
      rw [at_slot h.ls ia.rg, at_slot h.ls ib.rg, Option.bind_some, Option.bind_some]
      by_cases c : (Cst st a).Kind = 0
      · have hb : endsBad st a b = 2 := by unfold endsBad; rw [if_neg (fun q => q ⟨ia, ib⟩), if_pos c]
        have e : ((slt st a).Cap.Kind == 0) = true := by rw [beq_iff_eq]; exact c
        rw [e, cond_true, hb, if_neg (by decide)]; rfl
      · have e : ((slt st a).Cap.Kind == 0) = false := by rw [beq_eq_false_iff_ne]; exact c
        rw [e, cond_false]
        by_cases c2 : (Cst st b).Kind = 0
        · have hb : endsBad st a b = 0 := by unfold endsBad; rw [if_neg (fun q => q ⟨ia, ib⟩), if_neg c, if_neg (fun z => z c2)]
          have e : ((slt st b).Cap.Kind != 0) = false := by rw [bne_eq_false_iff_eq]; exact c2
          rw [e, cond_false, hb, if_pos rfl]; rfl
        · have hb : endsBad st a b = 8 := by unfold endsBad; rw [if_neg (fun q => q ⟨ia, ib⟩), if_neg c, if_pos c2]
          have e : ((slt st b).Cap.Kind != 0) = true := by rw [bne_iff_ne]; exact c2
          rw [e, cond_true, hb, if_neg (by decide)]; rfl
    · have hb : endsBad st a b = 2 := by unfold endsBad; rw [if_pos (fun q => ib q.2)]
      rw [decide_eq_false ib, Bool.not_false, Bool.or_true, cond_true, hb, if_neg (by decide)]; rfl
  · have hb : endsBad st a b = 2 := by unfold endsBad; rw [if_pos (fun q => ia q.1)]
    rw [decide_eq_false ia, Bool.not_false, Bool.true_or, cond_true, hb, if_neg (by decide)]; rfl
theorem dthere_ok (i : Int) : derive_there.f i = some (decide (InSlot i 0)) := by
  unfold derive_there.f
  rw [slot_ok]
  by_cases h : InSlot i 0 <;> simp [h]
variable {v : List Int} (hv : IsW st v)
include hv
theorem ends_pl (a b : Int) {k : Nat} (hk : 40 ≤ k) : ∃ c, VM.run plainI (derive_ends.f k a b) v = some ((c, eN' (endsBad st a b)), v) ∧ (endsBad st a b = 0 → c = Cst st a) := by
  refine ⟨if InSlot a 0 then Cst st a else noCap, ?_, fun z => by rw [if_pos (ends_0 z).1]⟩
  unfold derive_ends.f
  rw [runB, cap_pl h hv a hk, Option.bind_some, runB, runO, dthere_ok h, Option.map_some, Option.bind_some, runB]
  by_cases ia : InSlot a 0
  · rw [decide_eq_true ia]
    simp only [Bool.not_true, runC, cond_false, runB, runO, dthere_ok h, Option.map_some, Option.bind_some, runR, if_pos ia]
    by_cases ib : InSlot b 0
    · rw [decide_eq_true ib]
      simp only [Bool.not_true, Bool.false_or]
      by_cases c : (Cst st a).Kind = 0
      · have hb : endsBad st a b = 2 := by unfold endsBad; rw [if_neg (fun q => q ⟨ia, ib⟩), if_pos c]
        have e : ((slt st a).Cap.Kind == 0) = true := by rw [beq_iff_eq]; exact c
        rw [e, cond_true, hb]; rfl
      · have e : ((slt st a).Cap.Kind == 0) = false := by rw [beq_eq_false_iff_ne]; exact c
        rw [e, cond_false, cap_pl h hv b hk, Option.bind_some, if_pos ib]
        simp only []
        by_cases c2 : (Cst st b).Kind = 0
        · have hb : endsBad st a b = 0 := by unfold endsBad; rw [if_neg (fun q => q ⟨ia, ib⟩), if_neg c, if_neg (fun z => z c2)]
          have e : ((slt st b).Cap.Kind != 0) = false := by rw [bne_eq_false_iff_eq]; exact c2
          rw [e, cond_false, hb]; rfl
        · have hb : endsBad st a b = 8 := by unfold endsBad; rw [if_neg (fun q => q ⟨ia, ib⟩), if_neg c, if_pos c2]
          have e : ((slt st b).Cap.Kind != 0) = true := by rw [bne_iff_ne]; exact c2
          rw [e, cond_true, hb]; rfl
    · have hb : endsBad st a b = 2 := by unfold endsBad; rw [if_pos (fun q => ib q.2)]
      rw [decide_eq_false ib, hb]; rfl
  · have hb : endsBad st a b = 2 := by unfold endsBad; rw [if_pos (fun q => ia q.1)]
    rw [decide_eq_false ia, hb]
    simp only [Bool.not_false, runC, cond_true, runR, Option.bind_some, Bool.true_or, if_neg ia]
    rfl
end
/-- A capability within one that was there is put into an empty slot below it. -/
theorem DI.below {st st' : ref10_State} (h : WF st) (di : DI st) {a b : Int} (ha : 0 ≤ a ∧ a < 96) (hb : 0 ≤ b ∧ b < 96) (hne : b ≠ a) {c : api_Cap} (kb : (Cst st b).Kind = 0) (ka : (Cst st a).Kind ≠ 0) (kc : c.Kind ≠ 0) (S : SlIs st' (lP (Pst st) b a) (lK (Kst st) b a) (cC (Cst st) b c)) : DI st' := by
  obtain ⟨r, hr⟩ := di.ac
  obtain ⟨pb, kb'⟩ := di.nk b hb.1 hb.2 kb
  refine ⟨fun i i0 i1 k => ?_, fun i => if i = b then r a + 1 else r i, fun i i0 i1 p => ?_⟩
  · have k : (slt st' i).Cap.Kind = 0 := k
    rw [S.cap i i0 i1] at k
    unfold cC at k
    have ib : i ≠ b := fun e => by rw [if_pos e] at k; exact kc k
    rw [if_neg ib] at k
    have ia : i ≠ a := fun e => by rw [e] at k; exact ka k
    obtain ⟨q1, q2⟩ := di.nk i i0 i1 k
    show (slt st' i).Parent = -1 ∧ (slt st' i).Kids = []
    rw [S.par i i0 i1, S.kid i i0 i1]
    unfold lP lK
    rw [if_neg ib, if_neg ia]; exact ⟨q1, q2⟩
  · have p : 0 ≤ (slt st' i).Parent := p
    show (if (slt st' i).Parent = b then r a + 1 else r (slt st' i).Parent) < if i = b then r a + 1 else r i
    rw [S.par i i0 i1] at p ⊢
    unfold lP at p ⊢
    by_cases ib : i = b
    · rw [if_pos ib, if_pos ib, if_neg (fun z => hne z.symm)]; omega
    · rw [if_neg ib] at p
      simp only [if_neg ib]
      have : Pst st i ≠ b := fun z => by
        have m := h.all i i0 i1 p
        have m : i ∈ Kst st (Pst st i) := m
        rw [z, kb'] at m; cases m
      rw [if_neg this]; exact hr i i0 i1 p
theorem DI.replace {st st' : ref10_State} (h : WF st) (di : DI st) {a b : Int} (ha : 0 ≤ a ∧ a < 96) (hb : 0 ≤ b ∧ b < 96) (hne : a ≠ b) {c : api_Cap} (kc : c.Kind ≠ 0) (kb : Kst st b = []) (S : SlIs st' (rP (Pst st) a b) (rK (Pst st) (Kst st) a b) (cC (cC (Cst st) b c) a noCap)) : DI st' := by
  obtain ⟨r, hr⟩ := di.ac
  refine ⟨fun i i0 i1 k => ?_, fun i => if i = b then r a else r i, fun i i0 i1 p => ?_⟩
  · have k : (slt st' i).Cap.Kind = 0 := k
    rw [S.cap i i0 i1] at k
    unfold cC at k
    show (slt st' i).Parent = -1 ∧ (slt st' i).Kids = []
    rw [S.par i i0 i1, S.kid i i0 i1]
    by_cases ia : i = a
    · rw [ia, rP_a hne, rK_a hne]; exact ⟨rfl, rfl⟩
    · rw [if_neg ia] at k
      have ib : i ≠ b := fun e => by rw [if_pos e] at k; exact kc k
      rw [if_neg ib] at k
      obtain ⟨q1, q2⟩ := di.nk i i0 i1 k
      have ip : i ≠ Pst st a := fun z => by
        have m := h.all a ha.1 ha.2 (by show 0 ≤ Pst st a; omega)
        have m : a ∈ Kst st (Pst st a) := m
        rw [← z, q2] at m; cases m
      rw [rP_o ib ia, rK_o ib ia ip, q1, if_neg (by omega)]; exact ⟨rfl, q2⟩
  · have p : 0 ≤ (slt st' i).Parent := p
    show (if (slt st' i).Parent = b then r a else r (slt st' i).Parent) < if i = b then r a else r i
    rw [S.par i i0 i1] at p ⊢
    have nb : ∀ j, 0 ≤ j → j < 96 → 0 ≤ Pst st j → Pst st j ≠ b := fun j j0 j1 pj z => by
      have m := h.all j j0 j1 pj
      have m : j ∈ Kst st (Pst st j) := m
      rw [z, kb] at m; cases m
    by_cases ib : i = b
    · rw [ib, rP_b] at p ⊢
      rw [if_pos rfl, if_neg (nb a ha.1 ha.2 p)]; exact hr a ha.1 ha.2 p
    · by_cases ia : i = a
      · rw [ia, rP_a hne] at p; omega
      · rw [rP_o ib ia] at p ⊢
        rw [if_neg ib]
        by_cases q : Pst st i = a
        · rw [if_pos q, if_pos rfl]
          have := hr i i0 i1 (by rw [q]; exact ha.1)
          rw [q] at this; exact this
        · rw [if_neg q] at p ⊢
          rw [if_neg (nb i i0 i1 p)]; exact hr i i0 i1 p
theorem DI.del {st st' : ref10_State} (di : DI st) {a : Int} (D : Dl st st' a) : DI st' := by
  obtain ⟨r, hr⟩ := di.ac
  have S := D.slots
  refine ⟨fun i i0 i1 k => ?_, r, fun i i0 i1 p => ?_⟩
  · have k : (slt st' i).Cap.Kind = 0 := k
    rw [S.cap i i0 i1] at k
    show (slt st' i).Parent = -1 ∧ (slt st' i).Kids = []
    rw [S.par i i0 i1, S.kid i i0 i1]
    unfold cC at k
    unfold uP
    by_cases ia : i = a
    · rw [if_pos ia, ia]
      refine ⟨rfl, ?_⟩
      split
      · unfold uK
        split
        · rename_i e; rw [← e, D.kid]; rfl
        · exact D.kid
      · exact D.kid
    · rw [if_neg ia] at k ⊢
      obtain ⟨q1, q2⟩ := di.nk i i0 i1 k
      refine ⟨q1, ?_⟩
      split
      · unfold uK
        split
        · rename_i e; rw [← e, q2]; rfl
        · exact q2
      · exact q2
  · have p : 0 ≤ (slt st' i).Parent := p
    show r (slt st' i).Parent < r i
    rw [S.par i i0 i1] at p ⊢
    unfold uP at p ⊢
    split at p
    · omega
    · rename_i ia; rw [if_neg ia]; exact hr i i0 i1 p
theorem Le.one {st st' : ref10_State} (h : WF st) {a b : Int} (ha : 0 ≤ a ∧ a < 96) {c : api_Cap} (ka : (Cst st a).Kind ≠ 0) (w : within c (Cst st a)) {P : Int → Int} {K : Int → List Int} (S : SlIs st' P K (cC (Cst st) b c)) : Le st st' := fun i i0 i1 k => by
  have e : Cst st' i = cC (Cst st) b c i := S.cap i i0 i1
  rw [e] at k ⊢
  unfold cC at k ⊢
  by_cases ib : i = b
  · rw [if_pos ib] at k ⊢; exact ⟨a, ha.1, ha.2, ka, w⟩
  · rw [if_neg ib] at k ⊢; exact ⟨i, i0, i1, k, within_self (h.cap i i0 i1)⟩
theorem Le.mov {st st' : ref10_State} (h : WF st) {a b : Int} (ha : 0 ≤ a ∧ a < 96) {c : api_Cap} (ka : (Cst st a).Kind ≠ 0) (w : within c (Cst st a)) {P : Int → Int} {K : Int → List Int} (S : SlIs st' P K (cC (cC (Cst st) b c) a noCap)) : Le st st' := fun i i0 i1 k => by
  have e : Cst st' i = cC (cC (Cst st) b c) a noCap i := S.cap i i0 i1
  rw [e] at k ⊢
  unfold cC at k ⊢
  by_cases ia : i = a
  · rw [if_pos ia] at k; exact absurd rfl k
  · rw [if_neg ia] at k ⊢
    by_cases ib : i = b
    · rw [if_pos ib] at k ⊢; exact ⟨a, ha.1, ha.2, ka, w⟩
    · rw [if_neg ib] at k ⊢; exact ⟨i, i0, i1, k, within_self (h.cap i i0 i1)⟩
theorem Le.del {st st' : ref10_State} (h : WF st) {a : Int} (D : Dl st st' a) : Le st st' := fun i i0 i1 k => by
  have e : Cst st' i = cC (Cst st) a noCap i := D.slots.cap i i0 i1
  rw [e] at k ⊢
  unfold cC at k ⊢
  by_cases ia : i = a
  · rw [if_pos ia] at k; exact absurd rfl k
  · rw [if_neg ia] at k ⊢; exact ⟨i, i0, i1, k, within_self (h.cap i i0 i1)⟩
/-- What a deed comes to: the state's answer, the words, what is kept. -/
structure Dn (st st' : ref10_State) (v' : List Int) (n : Int) : Prop where
  n0 : 0 ≤ n
  n1 : n ≤ 14
  h : WF st'
  hv : IsW st' v'
  di : DI st'
  le : Le st st'
  rest : Rest st st'
section
variable {st : ref10_State} {v : List Int} (h : WF st) (hv : IsW st v) (di : DI st)
include h hv di
theorem Dn.same {n : Int} (n0 : 0 ≤ n) (n1 : n ≤ 14) : Dn st st v n := ⟨n0, n1, h, hv, di, Le.refl h, Rest.refl st⟩
theorem below_pl {a b : Int} {c : api_Cap} (he : endsBad st a b = 0) (hc : CapMay c) (kc : c.Kind ≠ 0) (w : within c (Cst st a)) {k : Nat} (hk : 100 ≤ k) : ∃ n st' v', ref10_State_below.f st a b c = some (n, st') ∧ VM.run plainI (derive_below.f k a b c) v = some (eN' n, v') ∧ Dn st st' v' n := by
  obtain ⟨ia, ib, ka, kb⟩ := ends_0 he
  have ra := ia.rg
  have rb := ib.rg
  obtain ⟨n, st1, v1, s1, s2, s3, s4, h1, hv1, rs, s8, s9, s10, _⟩ := link_pl h hv b a
  unfold ref10_State_below.f derive_below.f
  rw [s1, Option.bind_some, runB, s2, Option.bind_some]
  simp only []
  by_cases n0 : n = 0
  · subst n0
    obtain ⟨_, _, p1, ne, S⟩ := s9 rfl
    obtain ⟨q1, q2, q3⟩ := cset_pl h1 hv1 rb hc (k := k) (by omega)
    have z0 : eN' 0 = none := rfl
    simp only [beq_self_eq_true, cond_true, z0, Option.isSome_none, cond_false]
    rw [at_slot h1.ls rb, Option.bind_some, runB, q1, Option.bind_some]
    have C := cupd_is h1.ls rb c
    have S' : SlIs (cupd st1 b c) (lP (Pst st) b a) (lK (Kst st) b a) (cC (Cst st) b c) := ⟨C.len, fun i i0 i1 => by rw [C.par i i0 i1]; exact S.par i i0 i1, fun i i0 i1 => by rw [C.kid i i0 i1]; exact S.kid i i0 i1, fun i i0 i1 => by
      rw [C.cap i i0 i1]; unfold cC
      split
      · rfl
      · exact S.cap i i0 i1⟩
    exact ⟨0, cupd st1 b c, _, rfl, rfl, by decide, by decide, q2, q3, di.below h ra rb ne kb ka kc S', Le.one h ra ka w S', ⟨rs.ob, rs.ns, rs.no⟩⟩
  · have e : (n == 0) = false := by simpa using n0
    have z0 : eN' n = some n := if_neg n0
    have es := s8 n0
    subst es
    rw [e, cond_false, z0]
    have ev := hv1.uniq hv
    exact ⟨n, st1, v, rfl, by rw [ev]; simp only [Option.isSome_some, cond_true]; rw [z0]; rfl, Dn.same h hv di s3 s4⟩
theorem turn_pl {a b : Int} {c : api_Cap} (he : endsBad st a b = 0) (hc : CapMay c) (kc : c.Kind ≠ 0) (w : within c (Cst st a)) {k : Nat} (hk : 1200 ≤ k) : ∃ n st' v', ((ref10_State_Replace.f k st a b).bind fun (t19, p20) => bif t19 == 0 then ((at_ p20.Slots b).bind fun x28 => (at_ (p20.Slots.set b.toNat ({ x28 with Cap := c } : ref10_Slot)) a).bind fun x36 => some (t19, ({ p20 with Slots := (p20.Slots.set b.toNat ({ x28 with Cap := c } : ref10_Slot)).set a.toNat ({ x36 with Cap := (⟨0, 0, 0, 0, 0, 0⟩ : api_Cap) } : ref10_Slot) } : ref10_State))) else (some (t19, p20))) = some (n, st') ∧ VM.run plainI (derive_turn.f k a b c) v = some (eN' n, v') ∧ Dn st st' v' n := by
  obtain ⟨ia, ib, ka, kb⟩ := ends_0 he
  have ra := ia.rg
  have rb := ib.rg
  obtain ⟨n, st1, v1, s1, s2, s3, s4, h1, hv1, rs, s8, s9⟩ := replace_pl h hv a b (k := k) (by omega)
  unfold derive_turn.f
  rw [s1, Option.bind_some, runB, s2, Option.bind_some]
  simp only []
  by_cases n0 : n = 0
  · subst n0
    obtain ⟨_, _, ne, p1, k1, S⟩ := s9 rfl
    obtain ⟨q1, q2, q3⟩ := cset_pl h1 hv1 rb hc (k := k) (by omega)
    obtain ⟨r1, r2, r3⟩ := cset_pl q2 q3 ra noCap_may (k := k) (by omega)
    have z0 : eN' 0 = none := rfl
    have C := cupd_is h1.ls rb c
    have D := cupd_is q2.ls ra noCap
    simp only [beq_self_eq_true, cond_true, z0, Option.isSome_none, cond_false]
    rw [at_slot h1.ls rb, Option.bind_some, runB, q1, Option.bind_some]
    simp only [Option.isSome_none, cond_false]
    have r1' : VM.run plainI (cspace_Set.f k a (⟨0, 0, 0, 0, 0, 0⟩ : api_Cap)) (cset v1 b c) = some (none, cset (cset v1 b c) a noCap) := r1
    rw [runB, r1', Option.bind_some]
    have ea : at_ (st1.Slots.set b.toNat ({ slt st1 b with Cap := c } : ref10_Slot)) a = some (slt (cupd st1 b c) a) := at_slot q2.ls ra
    rw [ea, Option.bind_some]
    have S' : SlIs (cupd (cupd st1 b c) a noCap) (rP (Pst st) a b) (rK (Pst st) (Kst st) a b) (cC (cC (Cst st) b c) a noCap) := ⟨D.len, fun i i0 i1 => by rw [D.par i i0 i1]; show (slt (cupd st1 b c) i).Parent = _; rw [C.par i i0 i1]; exact S.par i i0 i1, fun i i0 i1 => by rw [D.kid i i0 i1]; show (slt (cupd st1 b c) i).Kids = _; rw [C.kid i i0 i1]; exact S.kid i i0 i1, fun i i0 i1 => by
      rw [D.cap i i0 i1]; unfold cC
      split
      · rfl
      · show (slt (cupd st1 b c) i).Cap = _
        rw [C.cap i i0 i1]; unfold cC
        split
        · rfl
        · exact S.cap i i0 i1⟩
    exact ⟨0, cupd (cupd st1 b c) a noCap, _, rfl, rfl, by decide, by decide, r2, r3, di.replace h ra rb ne kc k1 S', Le.mov h ra ka w S', ⟨rs.ob, rs.ns, rs.no⟩⟩
  · have e : (n == 0) = false := by simpa using n0
    have z0 : eN' n = some n := if_neg n0
    have es := s8 n0
    subst es
    rw [e, cond_false, z0]
    have ev := hv1.uniq hv
    exact ⟨n, st1, v, rfl, by rw [ev]; simp only [Option.isSome_some, cond_true]; rw [z0]; rfl, Dn.same h hv di s3 s4⟩
theorem eOf_eN (n : Int) : eOf n = eN' n := rfl
theorem may_parts {c : api_Cap} {R B : Int} (hc : CapMay c) (hk : c.Kind ≠ 0) (hR : 0 ≤ R ∧ R ≤ 7) (hB : B = c.Badge ∨ (c.Kind = 3 ∨ c.Kind = 4) ∧ 0 ≤ B ∧ B ≤ 65535) : CapMay ⟨c.Kind, R, c.Obj, B, c.Guard, c.Bits⟩ := by
  unfold CapMay at *
  simp only []
  refine ⟨hc.1, hc.2.1, hR.1, hR.2, hc.2.2.2.2.1, hc.2.2.2.2.2.1, by omega, by omega, hc.2.2.2.2.2.2.2.2.1, hc.2.2.2.2.2.2.2.2.2.1, fun z => absurd z hk, ?_, hc.2.2.2.2.2.2.2.2.2.2.2.2.1, hc.2.2.2.2.2.2.2.2.2.2.2.2.2.1, hc.2.2.2.2.2.2.2.2.2.2.2.2.2.2⟩
  have := hc.2.2.2.2.2.2.2.2.2.2.2.1
  omega
theorem copy_pl (a b m g : Int) {k : Nat} (hk : 1200 ≤ k) : ∃ n st' v', ref10_State_Derive.f k st a b m g false = some (n, st') ∧ VM.run plainI (derive_Copy.f k a b m) v = some (eN' n, v') ∧ Dn st st' v' n := by
  obtain ⟨k', rfl⟩ : ∃ q, k = q + 40 := ⟨k - 40, by omega⟩
  have er := endsBad_rg st a b
  obtain ⟨c, e1, ec⟩ := ends_pl h hv a b (k := k' + 40) (by omega)
  unfold ref10_State_Derive.f derive_Copy.f
  rw [rends_ok h, Option.bind_some, runB, e1, Option.bind_some]
  simp only []
  by_cases z : endsBad st a b = 0
  · have ec := ec z
    subst ec
    obtain ⟨ia, ib, ka, kb⟩ := ends_0 z
    have cm := h.cap a ia.rg.1 ia.rg.2
    have cm : CapMay (Cst st a) := cm
    rw [z, if_pos rfl]
    have z0 : eN' 0 = none := rfl
    simp only [bne_self_eq_false, cond_false, z0, Option.isSome_none]
    rw [rderive_ok, Option.bind_some, runB, runO, derive_ok, Option.map_some, Option.bind_some]
    simp only []
    by_cases d : drv (Cst st a) m = (⟨0, 0, 0, 0, 0, 0⟩, 1) ∨ drv (Cst st a) m = (⟨0, 0, 0, 0, 0, 0⟩, 5)
    · rcases d with d | d
      · rw [d]; exact ⟨1, st, v, rfl, rfl, Dn.same h hv di (by decide) (by decide)⟩
      · rw [d]; exact ⟨5, st, v, rfl, rfl, Dn.same h hv di (by decide) (by decide)⟩
    · obtain ⟨m0, k1, dd⟩ : (0 ≤ m ∧ m ≤ 7) ∧ (Cst st a).Kind ≠ 1 ∧ drv (Cst st a) m = (⟨(Cst st a).Kind, band .i64 (Cst st a).Rights m, (Cst st a).Obj, (Cst st a).Badge, (Cst st a).Guard, (Cst st a).Bits⟩, 0) := by
        unfold drv at d ⊢
        split at d
        · rename_i q
          split at d
          · exact absurd (.inr rfl) d
          · rename_i q2; exact ⟨⟨q.2.2.1, q.2.2.2⟩, q2, by rw [if_pos q, if_neg q2]⟩
        · exact absurd (.inl rfl) d
      have br := band_rg cm.2.2.1 cm.2.2.2.1 m0.1 m0.2
      obtain ⟨n, st', v', s1, s2, s3⟩ := below_pl h hv di z (c := ⟨(Cst st a).Kind, band .i64 (Cst st a).Rights m, (Cst st a).Obj, (Cst st a).Badge, (Cst st a).Guard, (Cst st a).Bits⟩) (may_parts h hv di cm ka br (.inl rfl)) ka ⟨rfl, rfl, bclr_in cm.2.2.1 cm.2.2.2.1 m0.1 m0.2, .inr rfl⟩ (k := k' + 40) (by omega)
      rw [dd]
      have z1 : eOf 0 = none := rfl
      simp only [z1, bne_self_eq_false, cond_false, Option.isSome_none]
      rw [s1, Option.bind_some, runB, s2, Option.bind_some]
      exact ⟨n, st', v', rfl, rfl, s3⟩
  · have e : (endsBad st a b != 0) = true := by simpa using z
    have z0 : eN' (endsBad st a b) = some (endsBad st a b) := if_neg z
    rw [e, cond_true, z0]
    exact ⟨endsBad st a b, st, v, rfl, by rw [z0]; rfl, Dn.same h hv di er.1 er.2⟩
theorem mint_pl (a b m g : Int) {k : Nat} (hk : 1200 ≤ k) : ∃ n st' v', ref10_State_Derive.f k st a b m g true = some (n, st') ∧ VM.run plainI (derive_Mint.f k a b m g) v = some (eN' n, v') ∧ Dn st st' v' n := by
  obtain ⟨k', rfl⟩ : ∃ q, k = q + 40 := ⟨k - 40, by omega⟩
  have er := endsBad_rg st a b
  obtain ⟨c, e1, ec⟩ := ends_pl h hv a b (k := k' + 40) (by omega)
  unfold ref10_State_Derive.f derive_Mint.f
  rw [rends_ok h, Option.bind_some, runB, e1, Option.bind_some]
  simp only []
  by_cases z : endsBad st a b = 0
  · have ec := ec z
    subst ec
    obtain ⟨ia, ib, ka, kb⟩ := ends_0 z
    have cm := h.cap a ia.rg.1 ia.rg.2
    have cm : CapMay (Cst st a) := cm
    rw [z, if_pos rfl]
    have z0 : eN' 0 = none := rfl
    simp only [bne_self_eq_false, cond_false, z0, Option.isSome_none, cond_true]
    rw [rmint_ok, Option.bind_some, runB, runO, mint_ok, Option.map_some, Option.bind_some]
    simp only []
    by_cases d : mnt (Cst st a) m g = (⟨0, 0, 0, 0, 0, 0⟩, 1) ∨ mnt (Cst st a) m g = (⟨0, 0, 0, 0, 0, 0⟩, 5) ∨ mnt (Cst st a) m g = (⟨0, 0, 0, 0, 0, 0⟩, 10)
    · rcases d with d | d | d
      · rw [d]; exact ⟨1, st, v, rfl, rfl, Dn.same h hv di (by decide) (by decide)⟩
      · rw [d]; exact ⟨5, st, v, rfl, rfl, Dn.same h hv di (by decide) (by decide)⟩
      · rw [d]; exact ⟨10, st, v, rfl, rfl, Dn.same h hv di (by decide) (by decide)⟩
    · obtain ⟨m0, g0, k1, b0, dd⟩ : (0 ≤ m ∧ m ≤ 7) ∧ (1 ≤ g ∧ g ≤ 65535) ∧ ((Cst st a).Kind = 3 ∨ (Cst st a).Kind = 4) ∧ (Cst st a).Badge = 0 ∧ mnt (Cst st a) m g = (⟨(Cst st a).Kind, band .i64 (Cst st a).Rights m, (Cst st a).Obj, g, (Cst st a).Guard, (Cst st a).Bits⟩, 0) := by
        unfold mnt at d ⊢
        split at d
        · rename_i q
          split at d
          · exact absurd (.inr (.inl rfl)) d
          · rename_i q2
            split at d
            · exact absurd (.inr (.inr rfl)) d
            · rename_i q3; exact ⟨⟨q.2.2.1, q.2.2.2.1⟩, q.2.2.2.2, by omega, by omega, by rw [if_pos q, if_neg q2, if_neg q3]⟩
        · exact absurd (.inl rfl) d
      have br := band_rg cm.2.2.1 cm.2.2.2.1 m0.1 m0.2
      obtain ⟨n, st', v', s1, s2, s3⟩ := below_pl h hv di z (c := ⟨(Cst st a).Kind, band .i64 (Cst st a).Rights m, (Cst st a).Obj, g, (Cst st a).Guard, (Cst st a).Bits⟩) (may_parts h hv di cm ka br (.inr ⟨k1, by omega, g0.2⟩)) ka ⟨rfl, rfl, bclr_in cm.2.2.1 cm.2.2.2.1 m0.1 m0.2, .inl b0⟩ (k := k' + 40) (by omega)
      rw [dd]
      have z1 : eOf 0 = none := rfl
      simp only [z1, bne_self_eq_false, cond_false, Option.isSome_none]
      rw [s1, Option.bind_some, runB, s2, Option.bind_some]
      exact ⟨n, st', v', rfl, rfl, s3⟩
  · have e : (endsBad st a b != 0) = true := by simpa using z
    have z0 : eN' (endsBad st a b) = some (endsBad st a b) := if_neg z
    rw [e, cond_true, z0]
    exact ⟨endsBad st a b, st, v, rfl, by rw [z0]; rfl, Dn.same h hv di er.1 er.2⟩
theorem move_pl (a b m g : Int) {k : Nat} (hk : 1200 ≤ k) : ∃ n st' v', ref10_State_Move.f k st a b m g false = some (n, st') ∧ VM.run plainI (derive_Move.f k a b) v = some (eN' n, v') ∧ Dn st st' v' n := by
  have er := endsBad_rg st a b
  obtain ⟨c, e1, ec⟩ := ends_pl h hv a b (k := k) (by omega)
  unfold ref10_State_Move.f derive_Move.f
  rw [rends_ok h, Option.bind_some, runB, e1, Option.bind_some]
  simp only []
  by_cases z : endsBad st a b = 0
  · have ec := ec z
    subst ec
    obtain ⟨ia, ib, ka, kb⟩ := ends_0 z
    have cm : CapMay (Cst st a) := h.cap a ia.rg.1 ia.rg.2
    rw [z, if_pos rfl]
    have z0 : eN' 0 = none := rfl
    simp only [bne_self_eq_false, cond_false, z0, Option.isSome_none, Option.bind_some, Brk.go]
    obtain ⟨n, st', v', s1, s2, s3⟩ := turn_pl h hv di z cm ka (within_self cm) hk
    rw [runB, s2, Option.bind_some]
    exact ⟨n, st', v', s1, rfl, s3⟩
  · have e : (endsBad st a b != 0) = true := by simpa using z
    have z0 : eN' (endsBad st a b) = some (endsBad st a b) := if_neg z
    rw [e, cond_true, z0]
    exact ⟨endsBad st a b, st, v, rfl, by rw [z0]; rfl, Dn.same h hv di er.1 er.2⟩
theorem mutate_pl (a b m g : Int) {k : Nat} (hk : 1200 ≤ k) : ∃ n st' v', ref10_State_Move.f k st a b m g true = some (n, st') ∧ VM.run plainI (derive_Mutate.f k a b m g) v = some (eN' n, v') ∧ Dn st st' v' n := by
  obtain ⟨k', rfl⟩ : ∃ q, k = q + 40 := ⟨k - 40, by omega⟩
  have er := endsBad_rg st a b
  obtain ⟨c, e1, ec⟩ := ends_pl h hv a b (k := k' + 40) (by omega)
  unfold ref10_State_Move.f derive_Mutate.f
  rw [rends_ok h, Option.bind_some, runB, e1, Option.bind_some]
  simp only []
  by_cases z : endsBad st a b = 0
  · have ec := ec z
    subst ec
    obtain ⟨ia, ib, ka, kb⟩ := ends_0 z
    have cm : CapMay (Cst st a) := h.cap a ia.rg.1 ia.rg.2
    obtain ⟨x, n, t1, t2, t3, t4⟩ := mutate_ok k' (Cst st a) m g
    rw [z, if_pos rfl]
    have z0 : eN' 0 = none := rfl
    simp only [bne_self_eq_false, cond_false, z0, Option.isSome_none, cond_true]
    rw [t2, Option.bind_some, runB, runO, t1, Option.map_some, Option.bind_some]
    simp only []
    by_cases n0 : n = 0
    · subst n0
      obtain ⟨k2, ex, xm⟩ := t4 rfl
      have kx : x.Kind ≠ 0 := by rw [ex]; exact ka
      have wx : within x (Cst st a) := by rw [ex]; exact ⟨rfl, rfl, bclr_self cm.2.2.1 cm.2.2.2.1, .inr rfl⟩
      obtain ⟨n, st', v', s1, s2, s3⟩ := turn_pl h hv di z xm kx wx (k := k' + 40) hk
      have z1 : eOf 0 = none := rfl
      simp only [z1, bne_self_eq_false, cond_false, Option.isSome_none, Option.bind_some, Brk.go]
      rw [runB, s2, Option.bind_some]
      exact ⟨n, st', v', s1, rfl, s3⟩
    · have e : (n != 0) = true := by simpa using n0
      have z1 : eOf n = some n := if_neg n0
      have z2 : eN' n = some n := if_neg n0
      rw [e, z1]
      exact ⟨n, st, v, rfl, by rw [z2]; rfl, Dn.same h hv di (by omega) (by omega)⟩
  · have e : (endsBad st a b != 0) = true := by simpa using z
    have z0 : eN' (endsBad st a b) = some (endsBad st a b) := if_neg z
    rw [e, cond_true, z0]
    exact ⟨endsBad st a b, st, v, rfl, by rw [z0]; rfl, Dn.same h hv di er.1 er.2⟩
theorem del_pl (a : Int) {k : Nat} (hk : 1200 ≤ k) : ∃ st' v', ref10_State_Delete.f k st a = some (delBad st a, st') ∧ VM.run plainI (derive_Delete.f k a) v = some (eN' (delBad st a), v') ∧ Dn st st' v' (delBad st a) ∧ (delBad st a = 0 → Dl st st' a) := by
  obtain ⟨st', s1, h', rs, s2, s3⟩ := rdel_ok h a (k := k) (by omega)
  refine ⟨st', ?_⟩
  unfold derive_Delete.f
  rw [runB, runO, dthere_ok h, Option.map_some, Option.bind_some]
  by_cases ia : InSlot a 0
  · have ra := ia.rg
    have t := tree_st h
    rw [decide_eq_true ia, Bool.not_true, runC, cond_false, runB, kids_tw t (hv.good h).1 (tw_st h hv) ra (by omega), Option.bind_some]
    simp only []
    by_cases c : Kst st a = []
    · have hb : delBad st a = 0 := by unfold delBad; rw [if_neg (fun q => q ia), if_neg (fun q => q c)]
      obtain ⟨D, st1, e1, h1, es⟩ := s3 hb
      obtain ⟨n, st1', v1, u1, u2, u3, u4, u5, u6, u7, u8, u9⟩ := unlink_pl h hv a (k := k) (by omega)
      have n0 := (u9 ia).1
      subst n0
      rw [e1] at u1
      have eq : st1' = st1 := ((Prod.mk.inj (Option.some.inj u1)).2).symm
      subst eq
      obtain ⟨q1, q2, q3⟩ := cset_pl u5 u6 ra noCap_may (k := k) (by omega)
      have q1' : VM.run plainI (cspace_Set.f k a (⟨0, 0, 0, 0, 0, 0⟩ : api_Cap)) v1 = some (none, cset v1 a noCap) := q1
      have z0 : eN' 0 = none := rfl
      rw [c, hb, runC]
      simp only [List.length_nil]
      rw [decide_eq_false (by decide), cond_false, runB, u2, Option.bind_some, z0]
      simp only [Option.isSome_none, cond_false]
      rw [runB, q1', Option.bind_some]
      exact ⟨_, by rw [← hb]; exact s1, rfl, ⟨by decide, by decide, h', by rw [es]; exact q3, di.del D, Le.del h D, rs⟩, fun _ => D⟩
    · have hb : delBad st a = 9 := by unfold delBad; rw [if_neg (fun q => q ia), if_pos c]
      have := List.length_pos_iff.2 c
      have es := s2 (by rw [hb]; decide)
      rw [decide_eq_true (by omega), hb]
      subst es
      exact ⟨v, by rw [← hb]; exact s1, rfl, Dn.same h hv di (by decide) (by decide), fun z => absurd z (by decide)⟩
  · have hb : delBad st a = 2 := by unfold delBad; rw [if_pos ia]
    have es := s2 (by rw [hb]; decide)
    rw [decide_eq_false ia, hb]
    subst es
    exact ⟨v, by rw [← hb]; exact s1, rfl, Dn.same h hv di (by decide) (by decide), fun z => absurd z (by decide)⟩
end
/-! The leaf. -/
theorem hd_kid {st : ref10_State} (h : WF st) {v : List Int} (hv : IsW st v) {x : Int} (hx : 0 ≤ x ∧ x < 96) : (sget v x 2 = -1 ↔ Kst st x = []) ∧ (Kst st x ≠ [] → 0 ≤ sget v x 2 ∧ sget v x 2 < 96 ∧ Pst st (sget v x 2) = x) := by
  have k2 : sget v x 2 = hd (Kst st x) - 1 := by rw [tw_st h hv x 2 hx.1 hx.2 (by decide) (by decide)]; rfl
  cases hK : Kst st x with
  | nil => rw [hK] at k2; exact ⟨⟨fun _ => rfl, fun _ => by rw [k2]; rfl⟩, fun z => absurd rfl z⟩
  | cons c r =>
    rw [hK] at k2
    have k2 : sget v x 2 = c + 1 - 1 := k2
    have hc := (tree_st h).kid x hx.1 hx.2 c (by rw [hK]; exact List.mem_cons_self)
    have e : sget v x 2 = c := by omega
    rw [e]
    exact ⟨⟨fun z => by omega, fun z => by cases z⟩, fun _ => hc⟩
theorem leaf_end {st : ref10_State} (h : WF st) {v : List Int} (hv : IsW st v) {r : Int → Nat} (hr : ∀ i, 0 ≤ i → i < 96 → 0 ≤ Pst st i → r (Pst st i) < r i) : ∀ (n : Nat) (x : Int) (vis : List Int), 0 ≤ x → x < 96 → vis.Nodup → (∀ y ∈ vis, 0 ≤ y ∧ y < 96 ∧ r y < r x) → 96 ≤ vis.length + n → 0 ≤ leafN v n x ∧ leafN v n x < 96 ∧ Kst st (leafN v n x) = [] ∧ r x ≤ r (leafN v n x) ∧ (0 ≤ Pst st x → 0 ≤ Pst st (leafN v n x)) ∧ (Kst st x ≠ [] → r x < r (leafN v n x) ∧ 0 ≤ Pst st (leafN v n x))
  | 0, x, vis, x0, x1, hn, hvis, hl => by
    exfalso
    have hx : x ∉ vis := fun z => Nat.lt_irrefl _ (hvis x z).2.2
    have := nodup_len 96 (List.nodup_cons.2 ⟨hx, hn⟩) (fun y hy => by
      rcases List.mem_cons.1 hy with z | z
      · rw [z]; exact ⟨x0, x1⟩
      · exact ⟨(hvis y z).1, (hvis y z).2.1⟩)
    simp only [List.length_cons] at this
    omega
  | n + 1, x, vis, x0, x1, hn, hvis, hl => by
    obtain ⟨k1, k2⟩ := hd_kid h hv ⟨x0, x1⟩
    unfold leafN
    by_cases c : sget v x 2 = -1
    · rw [if_pos c]
      exact ⟨x0, x1, k1.1 c, Nat.le_refl _, id, fun z => absurd (k1.1 c) z⟩
    · rw [if_neg c]
      obtain ⟨c0, c1, cp⟩ := k2 (fun z => c (k1.2 z))
      have lt := hr _ c0 c1 (by rw [cp]; exact x0)
      rw [cp] at lt
      have hx : x ∉ vis := fun z => Nat.lt_irrefl _ (hvis x z).2.2
      obtain ⟨a1, a2, a3, a4, a5, a6⟩ := leaf_end h hv hr n (sget v x 2) (x :: vis) c0 c1 (List.nodup_cons.2 ⟨hx, hn⟩) (fun y hy => by
        rcases List.mem_cons.1 hy with z | z
        · rw [z]; exact ⟨x0, x1, lt⟩
        · obtain ⟨z1, z2, z3⟩ := hvis y z; exact ⟨z1, z2, by omega⟩) (by simp only [List.length_cons]; omega)
      have pp := a5 (by rw [cp]; exact x0)
      exact ⟨a1, a2, a3, by omega, fun _ => pp, fun _ => ⟨by omega, pp⟩⟩
theorem one_pl {st : ref10_State} {v : List Int} (h : WF st) (hv : IsW st v) (di : DI st) (i : Int) {k : Nat} (hk : 1200 ≤ k) : ∃ is n st' v', ref10_State_One.f k st i = some (is, n, st') ∧ VM.run plainI (derive_One.f k i) v = some ((is, eN' n), v') ∧ Dn st st' v' n ∧ (¬ InSlot i 0 → is = false ∧ n = 2) ∧ (InSlot i 0 → n = 0 ∧ (is = true → ∃ L, 0 ≤ Pst st L ∧ Dl st st' L)) := by
  obtain ⟨r, hr⟩ := di.ac
  obtain ⟨l1, l2⟩ := leaf_pl h hv i (k := k) (by omega)
  unfold ref10_State_One.f derive_One.f
  rw [l1, Option.bind_some, runB, runO, dthere_ok h, Option.map_some, Option.bind_some]
  by_cases ia : InSlot i 0
  · have ra := ia.rg
    obtain ⟨a1, a2, a3, a4, a5, a6⟩ := leaf_end h hv hr 96 i [] ra.1 ra.2 List.nodup_nil (fun y hy => by cases hy) (by simp)
    rw [if_pos ia] at l2 ⊢
    rw [decide_eq_true ia, decide_eq_false (by omega), Bool.not_true, runC, cond_false, cond_false, runB, kids_tw (tree_st h) (hv.good h).1 (tw_st h hv) ra (by omega), Option.bind_some]
    simp only []
    by_cases c : Kst st i = []
    · have el : leafN v 96 i = i := by
        show leafN v (95 + 1) i = i
        unfold leafN
        rw [if_pos ((hd_kid h hv ra).1.2 c)]
      have e : (leafN v 96 i == i) = true := by simpa using el
      rw [e, c]
      exact ⟨false, 0, st, v, rfl, rfl, Dn.same h hv di (by decide) (by decide), fun z => absurd ia z, fun _ => ⟨rfl, fun z => by cases z⟩⟩
    · obtain ⟨b1, b2⟩ := a6 c
      have ne : leafN v 96 i ≠ i := fun z => by rw [z] at b1; omega
      have e : (leafN v 96 i == i) = false := by simpa using ne
      have hb : delBad st (leafN v 96 i) = 0 := by unfold delBad; rw [if_neg (fun q => q (InSlot.of ⟨a1, a2⟩ (by decide))), if_neg (fun q => q a3)]
      obtain ⟨st', v', s1, s2, s3, s4⟩ := del_pl h hv di (leafN v 96 i) hk
      rw [hb] at s1 s2 s3
      have el : (((Kst st i).length : Int) == 0) = false := by
        have := List.length_pos_iff.2 c
        simp; exact c
      rw [e, cond_false, s1, Option.bind_some, el, runC, cond_false, runB, l2, Option.bind_some, runB]
      simp only []
      rw [s2, Option.bind_some]
      exact ⟨true, 0, st', v', rfl, rfl, s3, fun z => absurd ia z, fun _ => ⟨rfl, fun _ => ⟨_, b2, s4 hb⟩⟩⟩
  · rw [if_neg ia, decide_eq_false ia]
    exact ⟨false, 2, st, v, rfl, rfl, Dn.same h hv di (by decide) (by decide), fun _ => ⟨rfl, rfl⟩, fun z => absurd z ia⟩
end Go.Proofs
/-! Draws. -/
set_option linter.unusedVariables false
namespace Go.Proofs
open Go.Sl
/-- What is drawn of n, n > 0. -/
def pick (c n : Int) : Int := if c < 0 then (-(c + 1)) % n else c % n
theorem pick_ok {c n : Int} (h : (Lit.int .i64 c).wf = true) (hn : 0 < n) (hn2 : n ≤ 9223372036854775807) : law10_Pick.f c n = some (pick c n) := by
  obtain ⟨h1, h2⟩ := fits_i64 h
  unfold law10_Pick.f pick
  have hc : chk (decide (n ≠ 0)) = some () := by unfold chk; rw [decide_eq_true (by omega)]; rfl
  by_cases q : c < 0
  · rw [decide_eq_true q, if_pos q, cond_true, hc, Option.bind_some, w64_id (x := c + 1) (by omega) (by omega), w64_id (by omega) (by omega), Int.tmod_eq_emod_of_nonneg (by omega)]
    congr 2; omega
  · rw [decide_eq_false q, if_neg q, cond_false, hc, Option.bind_some, Int.tmod_eq_emod_of_nonneg (by omega)]
theorem pick_lt (c : Int) {n : Int} (hn : 0 < n) : 0 ≤ pick c n ∧ pick c n < n := by
  unfold pick; split
  · exact ⟨Int.emod_nonneg _ (by omega), Int.emod_lt_of_pos _ hn⟩
  · exact ⟨Int.emod_nonneg _ (by omega), Int.emod_lt_of_pos _ hn⟩
end Go.Proofs
/-! A deed with capabilities. -/
set_option linter.unusedVariables false
namespace Go.Proofs
open Go.Sl
/-- What the state's deed comes to. -/
def refDo (k : Nat) (st : ref10_State) (x : law12_Deed) (p : Int) : Option (Int × Bool × ref10_State) :=
  if p = 0 ∨ p = 1 then (ref10_State_Derive.f k st x.A x.B x.M 0 false).bind fun (n, s) => some (n, false, s)
  else if p = 2 ∨ p = 3 then (ref10_State_Derive.f k st x.A x.B x.M x.N true).bind fun (n, s) => some (n, false, s)
  else if p = 4 then (ref10_State_Move.f k st x.A x.B 0 0 false).bind fun (n, s) => some (n, false, s)
  else if p = 5 then (ref10_State_Move.f k st x.A x.B x.M x.N true).bind fun (n, s) => some (n, false, s)
  else if p = 6 then (ref10_State_Delete.f k st x.A).bind fun (n, s) => some (n, false, s)
  else (ref10_State_One.f k st x.A).bind fun (is, n, s) => some (n, is, s)
theorem do_pl {st : ref10_State} {v : List Int} (h : WF st) (hv : IsW st v) (di : DI st) (x : law12_Deed) (wx : (Lit.int .i64 x.What).wf = true) {k : Nat} (hk : 1200 ≤ k) : ∃ n is st' v', refDo k st x (pick x.What 8) = some (n, is, st') ∧ VM.run plainI (law12_do.f k x) v = some ((eN' n, is), v') ∧ Dn st st' v' n := by
  have hp : law10_Pick.f x.What 8 = some (pick x.What 8) := pick_ok wx (by decide) (by decide)
  have hr := pick_lt x.What (n := 8) (by decide)
  unfold law12_do.f refDo
  rw [runB, runO, hp, Option.map_some, Option.bind_some]
  simp only []
  generalize pick x.What 8 = p at hr
  by_cases p0 : p = 0 ∨ p = 1
  · obtain ⟨n, st', v', s1, s2, s3⟩ := copy_pl h hv di x.A x.B x.M 0 hk
    have e : VM.run plainI (bif p == 0 then (VM.ret (p == 0)) else (VM.ret (p == 1))) v = some (true, v) := by rcases p0 with rfl | rfl <;> rfl
    refine ⟨n, false, st', v', by rw [if_pos p0, s1]; rfl, ?_, s3⟩
    rw [runB, runB, e, Option.bind_some]
    simp only [cond_true]
    rw [runB, s2, Option.bind_some, runR, Option.bind_some]
    rfl
  · have a0 : (p == 0) = false := by simp; omega
    have a1 : (p == 1) = false := by simp; omega
    have e : VM.run plainI (bif p == 0 then (VM.ret (p == 0)) else (VM.ret (p == 1))) v = some (false, v) := by rw [a0, a1]; rfl
    rw [if_neg p0, runB, runB, e, Option.bind_some]
    simp only [cond_false]
    by_cases p2 : p = 2 ∨ p = 3
    · obtain ⟨n, st', v', s1, s2, s3⟩ := mint_pl h hv di x.A x.B x.M x.N hk
      have e : VM.run plainI (bif p == 2 then (VM.ret (p == 2)) else (VM.ret (p == 3))) v = some (true, v) := by rcases p2 with rfl | rfl <;> rfl
      refine ⟨n, false, st', v', by rw [if_pos p2, s1]; rfl, ?_, s3⟩
      rw [runB, e, Option.bind_some]
      simp only [cond_true]
      rw [runB, s2, Option.bind_some, runR, Option.bind_some]
      rfl
    · have a2 : (p == 2) = false := by simp; omega
      have a3 : (p == 3) = false := by simp; omega
      have e : VM.run plainI (bif p == 2 then (VM.ret (p == 2)) else (VM.ret (p == 3))) v = some (false, v) := by rw [a2, a3]; rfl
      rw [if_neg p2, runB, e, Option.bind_some]
      simp only [cond_false]
      by_cases p4 : p = 4
      · obtain ⟨n, st', v', s1, s2, s3⟩ := move_pl h hv di x.A x.B 0 0 hk
        have e : (p == 4) = true := by simpa using p4
        refine ⟨n, false, st', v', by rw [if_pos p4, s1]; rfl, ?_, s3⟩
        rw [e, cond_true, runB, s2, Option.bind_some, runR, Option.bind_some]
        rfl
      · have e : (p == 4) = false := by simpa using p4
        rw [if_neg p4, e, cond_false]
        by_cases p5 : p = 5
        · obtain ⟨n, st', v', s1, s2, s3⟩ := mutate_pl h hv di x.A x.B x.M x.N hk
          have e : (p == 5) = true := by simpa using p5
          refine ⟨n, false, st', v', by rw [if_pos p5, s1]; rfl, ?_, s3⟩
          rw [e, cond_true, runB, s2, Option.bind_some, runR, Option.bind_some]
          rfl
        · have e : (p == 5) = false := by simpa using p5
          rw [if_neg p5, e, cond_false]
          by_cases p6 : p = 6
          · obtain ⟨st', v', s1, s2, s3, _⟩ := del_pl h hv di x.A hk
            have e : (p == 6) = true := by simpa using p6
            refine ⟨_, false, st', v', by rw [if_pos p6, s1]; rfl, ?_, s3⟩
            rw [e, cond_true, runB, s2, Option.bind_some, runR, Option.bind_some]
            rfl
          · obtain ⟨is, n, st', v', s1, s2, s3, _⟩ := one_pl h hv di x.A hk
            have e : (p == 6) = false := by simpa using p6
            refine ⟨n, is, st', v', by rw [if_neg p6, s1]; rfl, ?_, s3⟩
            rw [e, cond_false, runR, Option.bind_some]
            simp only [Brk.go]
            rw [runB, s2, Option.bind_some]
            rfl
/-- A boot state's slots without a capability are alone. -/
theorem di_fresh {st : ref10_State} (F : ∀ i, 0 ≤ i → i < 96 → (slt st i).Parent = -1 ∧ (slt st i).Kids = []) : DI st := ⟨fun i i0 i1 _ => F i i0 i1, fun _ => 0, fun i i0 i1 p => by
  have : Pst st i = -1 := (F i i0 i1).1
  omega⟩
end Go.Proofs
/-! States in which nothing is linked, blocked or mapped. -/
set_option linter.unusedVariables false
namespace Go.Proofs
open Go.Sl
def owB (o : ref10_Obj) : Bool := decide (0 ≤ o.Kind ∧ o.Kind ≤ 8) && decide (0 ≤ o.Size ∧ o.Size ≤ 1000000000000) && decide (0 ≤ o.Used ∧ o.Used ≤ o.Size) && decide (0 ≤ o.First ∧ o.First ≤ 1000) && decide (0 ≤ o.Radix ∧ o.Radix ≤ 5) && decide (0 ≤ o.Wait ∧ o.Wait ≤ 2) && decide (o.Word = 0) && decide (0 ≤ o.State ∧ o.State ≤ 6) && decide (o.Owing = -1) && decide (o.Badge = 0) && decide (0 ≤ o.Prio ∧ o.Prio < 256) && decide (o.On = -1) && decide (-1 ≤ o.Owes ∧ o.Owes < 32) && decide (CapMay o.Root) && decide (o.Pages = ⟨-1, -1, -1, -1⟩) && decide (o.Right = ⟨0, 0, 0, 0⟩) && decide (o.In = -1) && decide (0 ≤ o.Page ∧ o.Page < 4) && decide (o.Bound = -1) && decide (0 ≤ o.Mask ∧ o.Mask ≤ 1) && o.Queue.isEmpty
def slB (x : ref10_Slot) : Bool := decide (CapMay x.Cap) && decide (x.Parent = -1) && x.Kids.isEmpty
def wfB (st : ref10_State) : Bool := st.Slots.length == 96 && st.Objs.length == 32 && st.Slots.all slB && st.Objs.all owB && decide (0 ≤ st.NS ∧ st.NS ≤ 1000) && decide (0 ≤ st.NO ∧ st.NO ≤ 1000)
structure Fresh0 (st : ref10_State) : Prop where
  wf : WF st
  par : ∀ i, 0 ≤ i → i < 96 → (slt st i).Parent = -1 ∧ (slt st i).Kids = []
  que : ∀ i, 0 ≤ i → i < 32 → (obt st i).Queue = [] ∧ (obt st i).On = -1 ∧ (obt st i).In = -1 ∧ (∀ p, 0 ≤ p → p < 4 → (obt st i).Pages.nth p = -1)
  ext : ∀ i, 0 ≤ i → i < 32 → (obt st i).Owing = -1 ∧ (obt st i).Word = 0
  ext2 : ∀ i, 0 ≤ i → i < 32 → (obt st i).Badge = 0 ∧ (obt st i).Bound = -1
theorem fresh_of {st : ref10_State} (h : wfB st = true) : Fresh0 st := by
  simp only [wfB, Bool.and_eq_true, beq_iff_eq, List.all_eq_true, decide_eq_true_eq] at h
  obtain ⟨⟨⟨⟨⟨h1, h2⟩, h3⟩, h4⟩, h5⟩, h6⟩ := h
  have S : ∀ i, 0 ≤ i → i < 96 → CapMay (slt st i).Cap ∧ (slt st i).Parent = -1 ∧ (slt st i).Kids = [] := fun i i0 i1 => by
    have hm : slt st i ∈ st.Slots := by
      unfold slt
      rw [List.getD, List.getElem?_eq_getElem (by omega)]
      exact List.getElem_mem _
    have := h3 _ hm
    simp only [slB, Bool.and_eq_true, decide_eq_true_eq, List.isEmpty_iff] at this
    exact ⟨this.1.1, this.1.2, this.2⟩
  have O : ∀ i, 0 ≤ i → i < 32 → owB (obt st i) = true := fun i i0 i1 => by
    have hm : obt st i ∈ st.Objs := by
      unfold obt
      rw [List.getD, List.getElem?_eq_getElem (by omega)]
      exact List.getElem_mem _
    exact h4 _ hm
  have nth1 : ∀ p : Int, (⟨-1, -1, -1, -1⟩ : A4).nth p = -1 := fun p => by unfold A4.nth; split; rfl; split; rfl; split <;> rfl
  have nth0 : ∀ p : Int, (⟨0, 0, 0, 0⟩ : A4).nth p = 0 := fun p => by unfold A4.nth; split; rfl; split; rfl; split <;> rfl
  have W : ∀ i, 0 ≤ i → i < 32 → OW (obt st i) ∧ (obt st i).Queue = [] ∧ (obt st i).On = -1 ∧ (obt st i).In = -1 ∧ (∀ p, 0 ≤ p → p < 4 → (obt st i).Pages.nth p = -1) ∧ ((obt st i).Owing = -1 ∧ (obt st i).Word = 0) ∧ (obt st i).Badge = 0 ∧ (obt st i).Bound = -1 := fun i i0 i1 => by
    have := O i i0 i1
    simp only [owB, Bool.and_eq_true, decide_eq_true_eq, List.isEmpty_iff] at this
    obtain ⟨⟨⟨⟨⟨⟨⟨⟨⟨⟨⟨⟨⟨⟨⟨⟨⟨⟨⟨⟨w1, w2⟩, w3⟩, w4⟩, w5⟩, w6⟩, w7⟩, w8⟩, w9⟩, w10⟩, w11⟩, w12⟩, w13⟩, w14⟩, w15⟩, w16⟩, w17⟩, w18⟩, w19⟩, w20⟩, w21⟩ := this
    refine ⟨⟨w1, w2, w3, w4, w5, w6, by omega, w8, by omega, by omega, w11, by omega, w13, w14, fun p _ _ => ?_, fun p _ _ => ?_, by omega, w18, by omega, w20⟩, w21, w12, w17, fun p _ _ => ?_, ⟨w9, w7⟩, w10, w19⟩
    · rw [w15, nth1]; decide
    · rw [w16, nth0]; decide
    · rw [w15, nth1]
  refine ⟨⟨h1, h2, fun i a b => (S i a b).1, fun i a b => by rw [(S i a b).2.1]; decide, fun i a b x hx => ?_, fun x a b hx => ?_, fun i a b => ?_, fun i a b => by rw [(S i a b).2.1]; omega, fun i a b => (W i a b).1, fun i a b t ht => ?_, fun i a b hq => ?_, fun t a b _ on => ?_, fun i a b => ?_, h5, h6⟩, fun i a b => (S i a b).2, fun i a b => ⟨(W i a b).2.1, (W i a b).2.2.1, (W i a b).2.2.2.1, (W i a b).2.2.2.2.1⟩, fun i a b => (W i a b).2.2.2.2.2.1, fun i a b => (W i a b).2.2.2.2.2.2⟩
  · rw [(S i a b).2.2] at hx; cases hx
  · rw [(S x a b).2.1] at hx; omega
  · rw [(S i a b).2.2]; exact List.nodup_nil
  · rw [(W i a b).2.1] at ht; cases ht
  · exact absurd (W i a b).2.1 hq
  · rw [(W t a b).2.2.1] at on; omega
  · rw [(W i a b).2.1]; exact List.nodup_nil
end Go.Proofs
/-! The boot states. -/
set_option linter.unusedVariables false
namespace Go.Proofs
open Go.Sl
def kindAt (n i : Int) : Int := if i < n then 5 else if i = n then 2 else if i = n + 1 then 2 else if i = n + 2 then 1 else if i = n + 3 then 3 else if i = n + 4 then 4 else if i = n + 5 then 8 else if i = n + 6 then 7 else if i = n + 7 then 6 else 0
def bootB (n : Int) : Bool := match ref10_Boot.f 2000 n with
  | some t => wfB t && (List.range 32).all fun i => (obt t i).Kind == kindAt n i
  | none => false
theorem boot_0 : bootB 0 = true := by decide +kernel
theorem boot_1 : bootB 1 = true := by decide +kernel
theorem boot_2 : bootB 2 = true := by decide +kernel
theorem boot_3 : bootB 3 = true := by decide +kernel
theorem boot_4 : bootB 4 = true := by decide +kernel
theorem boot_5 : bootB 5 = true := by decide +kernel
theorem boot_6 : bootB 6 = true := by decide +kernel
theorem boot_7 : bootB 7 = true := by decide +kernel
theorem boot_ok {n : Int} (hn : 0 ≤ n ∧ n ≤ 7) : ∃ t, ref10_Boot.f 2000 n = some t ∧ Fresh0 t ∧ ∀ i, 0 ≤ i → i < 32 → (obt t i).Kind = kindAt n i := by
  have h : bootB n = true := by
    rcases (by omega : n = 0 ∨ n = 1 ∨ n = 2 ∨ n = 3 ∨ n = 4 ∨ n = 5 ∨ n = 6 ∨ n = 7) with rfl | rfl | rfl | rfl | rfl | rfl | rfl | rfl
    · exact boot_0
    · exact boot_1
    · exact boot_2
    · exact boot_3
    · exact boot_4
    · exact boot_5
    · exact boot_6
    · exact boot_7
  unfold bootB at h
  cases hB : ref10_Boot.f 2000 n with
  | none => simp [hB] at h
  | some t =>
    simp only [hB, Bool.and_eq_true, List.all_eq_true, List.mem_range, beq_iff_eq] at h
    refine ⟨t, rfl, fresh_of h.1, fun i i0 i1 => ?_⟩
    have := h.2 i.toNat (by omega)
    rwa [show ((i.toNat : Nat) : Int) = i by omega] at this
end Go.Proofs
