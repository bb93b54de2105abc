/- Plain laws of what CdtSound reaches, part P10TreeU. On no condition. -/
import Derived.Test.YtbhboofhcgkgfaaP10TreeCdtSound
import Derived.Test.YtbhboofhcgkgfaaP10EraseCdtSound
set_option linter.all false
/-! Slots in a tree: the words of one that is unlinked. -/
set_option linter.unusedVariables false
namespace Go.Proofs
open Go.Sl
def besideTo (v : List Int) (i b e : Int) : List Int := sput (if sget v i 4 ≠ -1 then sput v (sget v i 4) 3 b else sput v (sget v i 1) 2 b) (sget v i 3) 4 e
def clearTo (v : List Int) (i : Int) : List Int := sput (sput (sput v i 1 (-1)) i 3 (-1)) i 4 (-1)
def unlinkTo (v : List Int) (kid : Int) : List Int := clearTo (besideTo v kid (sget v kid 3) (sget v kid 4)) kid
theorem prv_mem {y : Int} (hy : 0 ≤ y) : ∀ {l : List Int} {x a : Int}, prv a l x = y + 1 → a ≠ y + 1 → y ∈ l
  | [], x, a, h, _ => by have : (0 : Int) = y + 1 := h; omega
  | b :: r, x, a, h, ha => by
    have h : (if x = b then a else prv (b + 1) r x) = y + 1 := h
    split at h
    · exact absurd h ha
    · by_cases e : b = y
      · rw [e]; exact List.mem_cons_self
      · exact List.mem_cons_of_mem _ (prv_mem hy h (by omega))
/-- Who comes before is whom one follows. -/
theorem prv_next {k x : Int} (k0 : 0 ≤ k) (x0 : 0 ≤ x) : ∀ {l : List Int} {a : Int}, (∀ y ∈ l, 0 ≤ y) → l.Nodup → k ∈ l → x ∈ l → a ≠ x + 1 → (prv a l k = x + 1 ↔ nextOf l x = k + 1)
  | [], _, _, _, h, _, _ => by cases h
  | b :: r, a, h0, hn, hk, hx, ha => by
    have hn2 := List.nodup_cons.1 hn
    have h0r : ∀ y ∈ r, 0 ≤ y := fun y hy => h0 y (List.mem_cons_of_mem _ hy)
    show (if k = b then a else prv (b + 1) r k) = x + 1 ↔ (if x = b then hd r else nextOf r x) = k + 1
    by_cases e : k = b
    · rw [if_pos e]
      refine ⟨fun z => absurd z ha, fun z => ?_⟩
      exfalso
      by_cases ex : x = b
      · rw [if_pos ex] at z
        have := (hd_pos h0r k0).1 z
        apply hn2.1; rw [← e]
        cases r with
        | nil => cases this
        | cons c r => have : c = k := Option.some.inj this; rw [this]; exact List.mem_cons_self
      · rw [if_neg ex] at z
        apply hn2.1; rw [← e]; exact nextOf_mem k0 z
    · rw [if_neg e]
      have hkr : k ∈ r := by rcases List.mem_cons.1 hk with z | z; exact absurd z e; exact z
      by_cases ex : x = b
      · rw [if_pos ex]
        have hp := hd_pos h0r k0
        rw [hp, ex]
        by_cases c : r.head? = some k
        · refine ⟨fun _ => c, fun _ => ?_⟩
          cases r with
          | nil => cases c
          | cons d r => have : d = k := Option.some.inj c; show (if k = d then b + 1 else _) = _; rw [if_pos this.symm]
        · refine ⟨fun z => ?_, fun z => absurd z c⟩
          exfalso
          rw [prv_acc (a' := 0) hkr c] at z
          have b0 := h0 b List.mem_cons_self
          exact hn2.1 (prv_mem b0 z (by omega))
      · rw [if_neg ex]
        have hxr : x ∈ r := by rcases List.mem_cons.1 hx with z | z; exact absurd z ex; exact z
        exact prv_next k0 x0 h0r hn2.2 hkr hxr (by omega)
theorem prv_zero {k : Int} : ∀ {l : List Int}, (∀ y ∈ l, 0 ≤ y) → k ∈ l → (prv 0 l k = 0 ↔ l.head? = some k)
  | [], _, h => by cases h
  | b :: r, h0, hk => by
    show (if k = b then 0 else prv (b + 1) r k) = 0 ↔ some b = some k
    by_cases e : k = b
    · rw [if_pos e, e]; exact ⟨fun _ => rfl, fun _ => rfl⟩
    · rw [if_neg e]
      refine ⟨fun z => ?_, fun z => absurd (Option.some.inj z).symm e⟩
      exfalso
      have hkr : k ∈ r := by rcases List.mem_cons.1 hk with z | z; exact absurd z e; exact z
      have key : ∀ (l : List Int) (a : Int), 1 ≤ a → (∀ y ∈ l, 0 ≤ y) → k ∈ l → 1 ≤ prv a l k := by
        intro l
        induction l with
        | nil => intro a _ _ h; cases h
        | cons c l ih =>
          intro a ha h0 h
          show 1 ≤ (if k = c then a else prv (c + 1) l k)
          split
          · exact ha
          · rename_i ne
            have := h0 c List.mem_cons_self
            exact ih (c + 1) (by omega) (fun y hy => h0 y (List.mem_cons_of_mem _ hy)) (by rcases List.mem_cons.1 h with z | z; exact absurd z ne; exact z)
      have b0 := h0 b List.mem_cons_self
      have := key r (b + 1) (by omega) (fun y hy => h0 y (List.mem_cons_of_mem _ hy)) hkr
      omega
section
variable {P : Int → Int} {K : Int → List Int}
theorem len_besideTo {v : List Int} (i b e : Int) : (besideTo v i b e).length = v.length := by unfold besideTo; rw [sput_len]; split <;> rw [sput_len]
theorem sget_besideTo {v : List Int} (hl : v.length = 738) {i b e : Int} (hb : -1 ≤ b ∧ b < 96) (he : -1 ≤ e ∧ e < 96) (x f : Int) : sget (besideTo v i b e) x f = if InSlot (sget v i 3) 4 ∧ sget v i 3 = x ∧ 4 = f then e else if sget v i 4 ≠ -1 then (if InSlot (sget v i 4) 3 ∧ sget v i 4 = x ∧ 3 = f then b else sget v x f) else (if InSlot (sget v i 1) 2 ∧ sget v i 1 = x ∧ 2 = f then b else sget v x f) := by
  unfold besideTo
  by_cases c : sget v i 4 ≠ -1
  · rw [if_pos c, if_pos c, sget_sput (by rw [sput_len]; exact hl) _ _ _ _ _ he, sget_sput hl _ _ _ _ _ hb]
  · rw [if_neg c, if_neg c, sget_sput (by rw [sput_len]; exact hl) _ _ _ _ _ he, sget_sput hl _ _ _ _ _ hb]
theorem sget_clearTo {v : List Int} (hl : v.length = 738) {i : Int} (hi : 0 ≤ i ∧ i < 96) (x f : Int) : sget (clearTo v i) x f = if i = x ∧ (f = 1 ∨ f = 3 ∨ f = 4) then -1 else sget v x f := by
  unfold clearTo
  have s1 : InSlot i 1 := ⟨hi.1, hi.2, by decide, by decide⟩
  have s3 : InSlot i 3 := ⟨hi.1, hi.2, by decide, by decide⟩
  have s4 : InSlot i 4 := ⟨hi.1, hi.2, by decide, by decide⟩
  rw [sget_sput (by simp [sput_len, hl]) _ _ _ _ _ (by decide), sget_sput (by simp [sput_len, hl]) _ _ _ _ _ (by decide), sget_sput hl _ _ _ _ _ (by decide)]
  by_cases e : i = x
  · by_cases c : f = 1 ∨ f = 3 ∨ f = 4
    · rw [show (if i = x ∧ (f = 1 ∨ f = 3 ∨ f = 4) then (-1 : Int) else sget v x f) = -1 from if_pos ⟨e, c⟩]
      rcases c with rfl | rfl | rfl
      · rw [if_neg (by omega), if_neg (by omega), if_pos ⟨s1, e, rfl⟩]
      · rw [if_neg (by omega), if_pos ⟨s3, e, rfl⟩]
      · rw [if_pos ⟨s4, e, rfl⟩]
    · rw [show (if i = x ∧ (f = 1 ∨ f = 3 ∨ f = 4) then (-1 : Int) else sget v x f) = sget v x f from if_neg (fun z => c z.2), if_neg (by omega), if_neg (by omega), if_neg (by omega)]
  · rw [show (if i = x ∧ (f = 1 ∨ f = 3 ∨ f = 4) then (-1 : Int) else sget v x f) = sget v x f from if_neg (fun z => e z.1), if_neg (fun z => e z.2.1), if_neg (fun z => e z.2.1), if_neg (fun z => e z.2.1)]
theorem TW.unlink (t : Tree P K) {v : List Int} (hl : v.length = 738) (w : TW P K v) {kid p : Int} (hk : 0 ≤ kid ∧ kid < 96) (hP : P kid = p) (hp : 0 ≤ p) : TW (fun i => if i = kid then -1 else P i) (fun i => if i = p then (K p).erase kid else K i) (unlinkTo v kid) := by
  have hp1 := (t.par kid hk.1 hk.2).2
  rw [hP] at hp1
  have hm : kid ∈ K p := by have := t.all kid hk.1 hk.2 (by omega); rwa [hP] at this
  have hn := t.nod p hp hp1
  have hr : ∀ x ∈ K p, 0 ≤ x ∧ x < 96 := fun x hx => by have := t.kid p hp hp1 x hx; omega
  have h0 : ∀ x ∈ K p, 0 ≤ x := fun x hx => (hr x hx).1
  have g1 : sget v kid 1 = p := by rw [w kid 1 hk.1 hk.2 (by decide) (by decide)]; unfold slw; rw [if_pos rfl, hP]; omega
  have g3 : sget v kid 3 = nextOf (K p) kid - 1 := by rw [w kid 3 hk.1 hk.2 (by decide) (by decide)]; unfold slw; rw [if_neg (by decide), if_neg (by decide), hP, if_pos hp, if_pos rfl]
  have g4 : sget v kid 4 = prv 0 (K p) kid - 1 := by rw [w kid 4 hk.1 hk.2 (by decide) (by decide)]; unfold slw; rw [if_neg (by decide), if_neg (by decide), hP, if_pos hp, if_neg (by decide)]
  have r3 := nextOf_rg (n := 96) (by decide) kid hr
  have r4 := prv_rg (n := 96) (by decide) kid (a := 0) (by decide) (by decide) hr
  intro i f i0 i1 f0 f1
  have W := w i f i0 i1 f0 f1
  unfold unlinkTo
  rw [sget_clearTo (by rw [len_besideTo]; exact hl) hk, sget_besideTo hl (sget_rg v kid 3) (sget_rg v kid 4), g1, g3, g4, W]
  clear W
  have pi := t.par i i0 i1
  have q4 : nextOf (K p) kid - 1 = i → i ∈ K p := fun z => nextOf_mem i0 (x := kid) (by omega)
  have q3 : prv 0 (K p) kid - 1 = i → i ∈ K p := fun z => prv_mem i0 (x := kid) (a := 0) (by omega) (by omega)
  have hPi : i ∈ K p → P i = p := fun z => (t.kid p hp hp1 i z).2.2
  have hz := prv_zero h0 hm
  rcases (by omega : f = 1 ∨ f = 2 ∨ f = 3 ∨ f = 4) with rfl | rfl | rfl | rfl
  · show _ = (if i = kid then -1 else P i) + 1 - 1
    by_cases e : i = kid
    · rw [if_pos ⟨e.symm, .inl rfl⟩, if_pos e]; rfl
    · rw [if_neg (fun z => e z.1.symm), if_neg e, if_neg (by omega)]
      have : slw P K i 1 = P i + 1 := rfl
      rw [this]
      split
      · rw [if_neg (by omega)]
      · rw [if_neg (by omega)]
  · show _ = hd (if i = p then (K p).erase kid else K i) - 1
    have e2 : slw P K i 2 = hd (K i) := rfl
    rw [if_neg (by omega), if_neg (by omega), e2]
    by_cases e : i = p
    · rw [if_pos e, erase_hd hm hn]
      by_cases c : (K p).head? = some kid
      · rw [if_neg (by have := hz.2 c; omega), if_pos ⟨⟨hp, hp1, by decide, by decide⟩, e.symm, rfl⟩, if_pos c]
      · rw [if_pos (fun z => c (hz.1 (by omega))), if_neg (by omega), if_neg c, e]
    · rw [if_neg e]
      split
      · rw [if_neg (by omega)]
      · rw [if_neg (fun z => e z.2.1.symm)]
  · show _ = (if 0 ≤ (if i = kid then -1 else P i) then nextOf (if (if i = kid then -1 else P i) = p then (K p).erase kid else K (if i = kid then -1 else P i)) i else 0) - 1
    have e3 : slw P K i 3 = if 0 ≤ P i then nextOf (K (P i)) i else 0 := rfl
    by_cases e : i = kid
    · rw [if_pos ⟨e.symm, .inr (.inl rfl)⟩, if_pos e, if_neg (by decide)]; rfl
    · rw [if_neg (fun z => e z.1.symm), if_neg (by omega), e3, if_neg e]
      by_cases e2 : P i = p
      · have hi : i ∈ K p := by have := t.all i i0 i1 (by omega); rwa [e2] at this
        have hpn := prv_next (k := kid) (x := i) hk.1 i0 (a := 0) h0 hn hm hi (by omega)
        rw [e2, if_pos rfl, if_pos hp, if_pos hp, erase_next hk.1 h0 hn hm hi e]
        by_cases c : prv 0 (K p) kid = i + 1
        · rw [if_pos (by omega), if_pos ⟨⟨by omega, by omega, by decide, by decide⟩, by omega, rfl⟩, if_pos (hpn.1 c)]
        · rw [if_neg (show ¬ nextOf (K p) i = kid + 1 from fun z => c (hpn.2 z))]
          split
          · rw [if_neg (by omega)]
          · rw [if_neg (by omega)]
      · rw [if_neg e2]
        split
        · rw [if_neg (fun z => e2 (hPi (q3 z.2.1)))]
        · rw [if_neg (by omega)]
  · show _ = (if 0 ≤ (if i = kid then -1 else P i) then prv 0 (if (if i = kid then -1 else P i) = p then (K p).erase kid else K (if i = kid then -1 else P i)) i else 0) - 1
    have e3 : slw P K i 4 = if 0 ≤ P i then prv 0 (K (P i)) i else 0 := rfl
    by_cases e : i = kid
    · rw [if_pos ⟨e.symm, .inr (.inr rfl)⟩, if_pos e, if_neg (by decide)]; rfl
    · rw [if_neg (fun z => e z.1.symm), e3, if_neg e]
      by_cases e2 : P i = p
      · have hi : i ∈ K p := by have := t.all i i0 i1 (by omega); rwa [e2] at this
        rw [e2, if_pos rfl, if_pos hp, if_pos hp, erase_prv hk.1 h0 hn hm hi e]
        by_cases c : nextOf (K p) kid = i + 1
        · rw [if_pos ⟨⟨by omega, by omega, by decide, by decide⟩, by omega, rfl⟩, if_pos c]
        · rw [if_neg (show ¬ nextOf (K p) kid = i + 1 from c), if_neg (fun z => c (by omega))]
          split
          · rw [if_neg (by omega)]
          · rw [if_neg (by omega)]
      · rw [if_neg (fun z => e2 (hPi (q4 z.2.1))), if_neg e2]
        split
        · rw [if_neg (by omega)]
        · rw [if_neg (by omega)]
end
end Go.Proofs
