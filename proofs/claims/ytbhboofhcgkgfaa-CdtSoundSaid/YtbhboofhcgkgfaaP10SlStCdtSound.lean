/- Plain laws of what CdtSound reaches, part P10SlSt. On no condition. -/
import Derived.Test.YtbhboofhcgkgfaaP10TreeRCdtSound
set_option linter.all false
/-! States whose slots change: the state that may be, and its words. -/
set_option linter.unusedVariables false
namespace Go.Proofs
open Go.Sl
structure SlIs (st : ref10_State) (P : Int → Int) (K : Int → List Int) (C : Int → api_Cap) : Prop where
  len : st.Slots.length = 96
  par : ∀ i, 0 ≤ i → i < 96 → (slt st i).Parent = P i
  kid : ∀ i, 0 ≤ i → i < 96 → (slt st i).Kids = K i
  cap : ∀ i, 0 ≤ i → i < 96 → (slt st i).Cap = C i
def Pst (st : ref10_State) : Int → Int := fun i => (slt st i).Parent
def Kst (st : ref10_State) : Int → List Int := fun i => (slt st i).Kids
def Cst (st : ref10_State) : Int → api_Cap := fun i => (slt st i).Cap
theorem SlIs.self {st : ref10_State} (h : st.Slots.length = 96) : SlIs st (Pst st) (Kst st) (Cst st) := ⟨h, fun _ _ _ => rfl, fun _ _ _ => rfl, fun _ _ _ => rfl⟩
theorem WF.slots {st st' : ref10_State} (h : WF st) {P : Int → Int} {K : Int → List Int} {C : Int → api_Cap} (S : SlIs st' P K C) (t : Tree P K) (hc : ∀ i, 0 ≤ i → i < 96 → CapMay (C i)) (ho : st'.Objs = st.Objs) (h2 : st'.NS = st.NS) (h3 : st'.NO = st.NO) : WF st' := by
  have O : ∀ i, obt st' i = obt st i := fun i => by unfold obt; rw [ho]
  refine ⟨S.len, by rw [ho]; exact h.lo, fun i i0 i1 => by rw [S.cap i i0 i1]; exact hc i i0 i1, fun i i0 i1 => by rw [S.par i i0 i1]; exact t.par i i0 i1, fun i i0 i1 x hx => ?_, fun x x0 x1 hx => ?_, fun i i0 i1 => by rw [S.kid i i0 i1]; exact t.nod i i0 i1, fun i i0 i1 => by rw [S.par i i0 i1]; exact t.irr i i0 i1, fun i i0 i1 => by rw [O]; exact h.obj i i0 i1, fun i i0 i1 q hq => ?_, fun i i0 i1 hq => ?_, fun q q0 q1 k5 on => ?_, fun i i0 i1 => by rw [O]; exact h.nodq i i0 i1, by rw [h2]; exact h.ns, by rw [h3]; exact h.no⟩
  · rw [S.kid i i0 i1] at hx
    have := t.kid i i0 i1 x hx
    exact ⟨this.1, this.2.1, by rw [S.par x this.1 this.2.1]; exact this.2.2⟩
  · rw [S.par x x0 x1] at hx ⊢
    have := t.all x x0 x1 hx
    rw [S.kid _ hx (t.par x x0 x1).2]; exact this
  · simp only [O] at hq ⊢
    exact h.que i i0 i1 q hq
  · simp only [O] at hq ⊢; exact h.qk i i0 i1 hq
  · simp only [O] at k5 on ⊢
    exact h.onq q q0 q1 k5 on
theorem slw_congr {P P' : Int → Int} {K K' : Int → List Int} (t : Tree P K) (hP : ∀ i, 0 ≤ i → i < 96 → P' i = P i) (hK : ∀ i, 0 ≤ i → i < 96 → K' i = K i) {i : Int} (i0 : 0 ≤ i) (i1 : i < 96) (f : Int) : slw P' K' i f = slw P K i f := by
  unfold slw
  rw [hP i i0 i1, hK i i0 i1]
  split
  · rfl
  · split
    · rfl
    · by_cases c : 0 ≤ P i
      · rw [if_pos c, if_pos c, hK _ c (t.par i i0 i1).2]
      · rw [if_neg c, if_neg c]
/-- Only words of slots differ, but no capability; those of slots are small. -/
structure SLow (v v' : List Int) : Prop where
  len : v'.length = 738
  hi : ∀ j : Nat, 480 ≤ j → v'.getD j 0 = v.getD j 0
  cap : ∀ i : Int, 0 ≤ i → i < 96 → v'.getD (5 * i).toNat 0 = v.getD (5 * i).toNat 0
  sm : ∀ i f : Int, 0 ≤ i → i < 96 → 1 ≤ f → f < 5 → 0 ≤ v'.getD (5 * i + f).toNat 0 ∧ v'.getD (5 * i + f).toNat 0 ≤ 96
theorem SLow.refl {st : ref10_State} (h : WF st) {v : List Int} (hv : IsW st v) : SLow v v := ⟨hv.len, fun _ _ => rfl, fun _ _ _ => rfl, fun i f i0 i1 f0 f1 => by rw [hv.slot i f i0 i1 (by omega) f1]; exact sl_rg h ⟨i0, i1⟩ ⟨f0, f1⟩⟩
theorem SLow.sput {v v' : List Int} (s : SLow v v') (i f n : Int) (hf : 1 ≤ f) (hn : -1 ≤ n ∧ n < 96) : SLow v (sput v' i f n) := by
  refine ⟨by rw [sput_len]; exact s.len, fun j hj => ?_, fun k k0 k1 => ?_, fun k g k0 k1 g0 g1 => ?_⟩
  · rw [getD_sput s.len, if_neg]
    · exact s.hi j hj
    · rintro ⟨q, e⟩; unfold InSlot at q; omega
  · rw [getD_sput s.len, if_neg]
    · exact s.cap k k0 k1
    · rintro ⟨q, e⟩; unfold InSlot at q; omega
  · rw [getD_sput s.len]
    split
    · omega
    · exact s.sm k g k0 k1 g0 g1
theorem SLow.raw {v v' : List Int} (s : SLow v v') {i f : Int} (i0 : 0 ≤ i) (i1 : i < 96) (f0 : 1 ≤ f) (f1 : f < 5) : v'.getD (5 * i + f).toNat 0 = sget v' i f + 1 := by
  have := s.sm i f i0 i1 f0 f1
  unfold sget
  rw [if_pos ⟨i0, i1, by omega, f1⟩]
  split <;> omega
theorem SLow.link {v v' : List Int} (s : SLow v v') (kid par : Int) (hk : 0 ≤ kid ∧ kid < 96) (hp : 0 ≤ par ∧ par < 96) : SLow v (linkTo v' kid par) := by
  have := sget_rg v' par 2
  unfold linkTo
  exact ((((s.sput _ _ _ (by decide) (by omega)).sput _ _ _ (by decide) (by omega)).sput _ _ _ (by decide) (by omega)).sput _ _ _ (by decide) (by omega)).sput _ _ _ (by decide) (by omega)
theorem SLow.beside {v v' : List Int} (s : SLow v v') (i b e : Int) (hb : -1 ≤ b ∧ b < 96) (he : -1 ≤ e ∧ e < 96) : SLow v (besideTo v' i b e) := by
  unfold besideTo
  split
  · exact (s.sput _ _ _ (by decide) hb).sput _ _ _ (by decide) he
  · exact (s.sput _ _ _ (by decide) hb).sput _ _ _ (by decide) he
theorem SLow.clear {v v' : List Int} (s : SLow v v') (i : Int) : SLow v (clearTo v' i) := by
  unfold clearTo
  exact ((s.sput _ _ _ (by decide) (by decide)).sput _ _ _ (by decide) (by decide)).sput _ _ _ (by decide) (by decide)
theorem SLow.unlink {v v' : List Int} (s : SLow v v') (kid : Int) : SLow v (unlinkTo v' kid) := by
  unfold unlinkTo
  exact (s.beside _ _ _ (sget_rg _ _ _) (sget_rg _ _ _)).clear _
theorem SLow.move {v v' : List Int} (s : SLow v v') (a b : Int) (hb : 0 ≤ b ∧ b < 96) : SLow v (moveTo v' a b) := by
  unfold moveTo
  split
  · exact ((((s.sput _ _ _ (by decide) (sget_rg _ _ _)).sput _ _ _ (by decide) (sget_rg _ _ _)).sput _ _ _ (by decide) (sget_rg _ _ _)).beside _ _ _ (by omega) (by omega)).clear _
  · exact s
theorem SLow.adopt {v : List Int} (b : Int) (hb : 0 ≤ b ∧ b < 96) : ∀ (l : List Int) {v' : List Int}, SLow v v' → SLow v (adopt v' b l)
  | [], _, s => s
  | c :: r, v', s => SLow.adopt b hb r (s.sput c 1 b (by decide) (by omega))
theorem SLow.replace {v v' : List Int} (s : SLow v v') (a b : Int) (l : List Int) (hb : 0 ≤ b ∧ b < 96) : SLow v (replaceTo v' a b l) := by
  unfold replaceTo
  exact ((SLow.adopt b hb l (s.move a b hb)).sput _ _ _ (by decide) (sget_rg _ _ _)).sput _ _ _ (by decide) (by decide)
theorem IsW.slots {st st' : ref10_State} {v v' : List Int} (h : WF st) (hv : IsW st v) {P : Int → Int} {K : Int → List Int} {C : Int → api_Cap} (S : SlIs st' P K C) (t : Tree P K) (ho : st'.Objs = st.Objs) (h2 : st'.NS = st.NS) (h3 : st'.NO = st.NO) (s : SLow v v') (tw : TW P K v') (hc : ∀ i, 0 ≤ i → i < 96 → C i = (slt st i).Cap) : IsW st' v' := by
  have O : ∀ i, obt st' i = obt st i := fun i => by unfold obt; rw [ho]
  refine ⟨s.len, fun i f i0 i1 f0 f1 => ?_, fun i f i0 i1 f0 f1 => ?_, by rw [s.hi _ (by decide), h2]; exact hv.ns, by rw [s.hi _ (by decide), h3]; exact hv.no⟩
  · by_cases e : f = 0
    · subst e
      have a1 := hv.slot i 0 i0 i1 (by decide) (by decide)
      rw [show 5 * i + 0 = 5 * i by omega] at a1 ⊢
      rw [s.cap i i0 i1, a1]
      unfold sl
      rw [if_pos rfl, if_pos rfl, S.cap i i0 i1, hc i i0 i1]
    · rw [s.raw i0 i1 (by omega) f1, tw i f i0 i1 (by omega) f1, sl_slw st' i (by omega)]
      have : slw (fun i => (slt st' i).Parent) (fun i => (slt st' i).Kids) i f = slw P K i f := slw_congr t S.par S.kid i0 i1 f
      rw [this]; omega
  · rw [s.hi _ (by omega), hv.obj i f i0 i1 f0 f1]
    unfold ob
    simp only [O]
end Go.Proofs
