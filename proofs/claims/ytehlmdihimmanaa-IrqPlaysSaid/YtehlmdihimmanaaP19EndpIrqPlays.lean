/- Plain laws of what IrqPlays reaches, part P19Endp. On no condition. -/
import Derived.Test.YtehlmdihimmanaaP19IsQIrqPlays
import Derived.Test.YtehlmdihimmanaaP19SmallIrqPlays
import Derived.Test.YtehlmdihimmanaaFnIrqPlays1
import Derived.Test.YtehlmdihimmanaaFnIrqPlays0
import Derived.Test.YtehlmdihimmanaaFnIrqPlays2
set_option linter.all false
/-! Threads that are blocked, and woken. -/
set_option linter.unusedVariables false
namespace Go.Proofs
open Go.Sl
theorem state_ok {s : List Int} (g : Good s) (t : Int) : VM.run plainI (endp_State.f t) s = some (fld s t 1, s) := by
  unfold endp_State.f; rw [runB, field_ok g]; rfl
def onTo (s : List Int) (t x : Int) : List Int := put s t 5 (fld s t 5 % 256 + 256 * x)
theorem on_ok {s : List Int} (g : Good s) (t x : Int) (hx : 0 ≤ x ∧ x ≤ 33) : VM.run plainI (endp_on.f t x) s = some ((), onTo s t x) := by
  unfold endp_on.f onTo
  have h0 := fld_nn g t 5
  rw [runB, field_ok g, Option.bind_some]
  simp only []
  have e1 : (fld s t 5).tmod 256 = fld s t 5 % 256 := Int.tmod_eq_emod_of_nonneg h0
  rw [e1, w64_id (x := 256 * x) (by omega) (by omega), w64_id (by omega) (by omega), runB, put_ok g t 5 _ (by omega)]; rfl
theorem good_onTo {s : List Int} (g : Good s) (t x : Int) : Good (onTo s t x) := good_put g _ _ _
theorem sm_onTo {s : List Int} (h : Sm s) {t x : Int} (hx : x ≤ 33) : Sm (onTo s t x) := sm_put h (by omega)
theorem fld_onTo {s : List Int} (g : Good s) {t x : Int} (hx : 0 ≤ x ∧ x ≤ 33) (ht : 0 ≤ t ∧ t < 32) (i f : Int) : fld (onTo s t x) i f = if i = t ∧ f = 5 then fld s t 5 % 256 + 256 * x else fld s i f := by
  unfold onTo
  have i5 : InObj t 5 := ⟨ht.1, ht.2, by omega, by omega⟩
  have h0 : 0 ≤ fld s t 5 % 256 + 256 * x := by omega
  rw [fld_put g t 5 _ i f (by omega)]
  simp only [i5, h0, true_and, and_true, eq_comm (a := t) (b := i), eq_comm (a := (5 : Int)) (b := f)]
def wakeTo (s : List Int) (t w b : Int) : List Int := onTo (put (put (put s t 1 1) t 3 w) t 4 b) t 0
theorem good_wakeTo {s : List Int} (g : Good s) (t w b : Int) : Good (wakeTo s t w b) := good_onTo (good_put (good_put (good_put g _ _ _) _ _ _) _ _ _) _ _
theorem sm_wakeTo {s : List Int} (h : Sm s) {t w b : Int} (hw : w ≤ 4611686018427387904) (hb : b ≤ 4611686018427387904) : Sm (wakeTo s t w b) := sm_onTo (sm_put (sm_put (sm_put h (by decide)) hw) hb) (by decide)
theorem wake_ok {s : List Int} (g : Good s) (t w b : Int) (hw : w ≤ 9223372036854775807) (hb : b ≤ 9223372036854775807) : VM.run plainI (endp_Wake.f t w b) s = some ((), wakeTo s t w b) := by
  unfold endp_Wake.f wakeTo
  have g1 := good_put g t 1 1
  have g2 := good_put g1 t 3 w
  have g3 := good_put g2 t 4 b
  simp only [runB, put_ok g t 1 1 (by decide), put_ok g1 t 3 w hw, put_ok g2 t 4 b hb, on_ok g3 t 0 (by decide), Option.bind_some, runR]
theorem fld_wakeTo {s : List Int} (g : Good s) {t w b : Int} (hw : 0 ≤ w ∧ w ≤ 4611686018427387904) (hb : 0 ≤ b ∧ b ≤ 4611686018427387904) (ht : 0 ≤ t ∧ t < 32) (i f : Int) :
    fld (wakeTo s t w b) i f = if i = t ∧ f = 1 then 1 else if i = t ∧ f = 3 then w else if i = t ∧ f = 4 then b else if i = t ∧ f = 5 then fld s t 5 % 256 else fld s i f := by
  unfold wakeTo
  have g1 := good_put g t 1 1
  have g2 := good_put g1 t 3 w
  have g3 := good_put g2 t 4 b
  have i1 : InObj t 1 := ⟨ht.1, ht.2, by omega, by omega⟩
  have i3 : InObj t 3 := ⟨ht.1, ht.2, by omega, by omega⟩
  have i4 : InObj t 4 := ⟨ht.1, ht.2, by omega, by omega⟩
  have F : ∀ i f, fld (put (put (put s t 1 1) t 3 w) t 4 b) i f = if i = t ∧ f = 4 then b else if i = t ∧ f = 3 then w else if i = t ∧ f = 1 then 1 else fld s i f := by
    intro i f
    rw [fld_put g2 t 4 b i f hb.2, fld_put g1 t 3 w i f hw.2, fld_put g t 1 1 i f (by decide)]
    simp only [i1, i3, i4, hw.1, hb.1, true_and, and_true, (by decide : (0 : Int) ≤ 1), eq_comm (a := t) (b := i), eq_comm (a := (1 : Int)) (b := f), eq_comm (a := (3 : Int)) (b := f), eq_comm (a := (4 : Int)) (b := f)]
  rw [fld_onTo g3 (by decide) ht, F, F]
  by_cases e : i = t
  · subst e
    by_cases f5 : f = 5
    · subst f5; simp
    · by_cases f1 : f = 1
      · subst f1; simp
      · by_cases f3 : f = 3
        · subst f3; simp
        · by_cases f4 : f = 4
          · subst f4; simp
          · simp [f1, f3, f4, f5]
  · simp [e]
def blockTo (s : List Int) (o t x : Int) : List Int := onTo (put (pushTo s o t) t 1 x) t (o + 1)
theorem good_blockTo {s : List Int} (g : Good s) (o t x : Int) : Good (blockTo s o t x) := good_onTo (good_put (good_pushTo g _ _) _ _ _) _ _
theorem sm_pushTo {s : List Int} (sm : Sm s) {o t : Int} (ht : t < 32) : Sm (pushTo s o t) := by
  unfold pushTo; split <;> exact sm_put (sm_put (sm_put sm (by decide)) (by omega)) (by omega)
theorem sm_popTo {s : List Int} (sm : Sm s) (o t : Int) : Sm (popTo s o t) := by
  have := fld_le s t 2
  unfold popTo; simp only []; split
  · exact sm_put (sm_put (sm_put (sm_put sm this) (by decide)) (by decide)) (by decide)
  · exact sm_put (sm_put sm this) (by decide)
theorem sm_blockTo {s : List Int} (h : Sm s) {o t x : Int} (ht : t < 32) (ho : o < 32) (hx : x ≤ 4611686018427387904) : Sm (blockTo s o t x) := sm_onTo (sm_put (sm_pushTo h ht) hx) (by omega)
theorem block_ok {s : List Int} (g : Good s) {o t x : Int} (ho : 0 ≤ o ∧ o < 32) (ht : 0 ≤ t ∧ t < 32) (hx : x ≤ 9223372036854775807) : VM.run plainI (endp_Block.f o t x) s = some ((), blockTo s o t x) := by
  unfold endp_Block.f blockTo
  have g1 := good_pushTo g o t
  have g2 := good_put g1 t 1 x
  rw [runB, push_ok g, if_pos ⟨⟨ho.1, ho.2, by decide⟩, ⟨ht.1, ht.2, by decide⟩⟩, Option.bind_some]
  simp only [Option.isSome_none, cond_false, runB, put_ok g1 t 1 x hx, Option.bind_some]
  rw [w64_id (by omega) (by omega), on_ok g2 t (o + 1) (by omega)]; rfl
theorem fld_blockTo {s : List Int} (g : Good s) {o t x : Int} {l : List Int} (h : IsQ s o l) (ho : 0 ≤ o ∧ o < 32) (ht : 0 ≤ t ∧ t < 32) (hx : 0 ≤ x ∧ x ≤ 4611686018427387904) (hr : ∀ x ∈ l, 0 ≤ x ∧ x < 32) (i f : Int) :
    fld (blockTo s o t x) i f = if i = t ∧ f = 1 then x else if i = t ∧ f = 5 then fld s t 5 % 256 + 256 * (o + 1) else fld (pushTo s o t) i f := by
  unfold blockTo
  have g1 := good_pushTo g o t
  have g2 := good_put g1 t 1 x
  have i1 : InObj t 1 := ⟨ht.1, ht.2, by omega, by omega⟩
  have P := fld_pushTo g h ho ht hr
  have e5 : fld (pushTo s o t) t 5 = fld s t 5 := by
    rw [P, if_neg (by omega), if_neg (by omega), if_neg (by omega), if_neg (by omega)]
  have e5' : fld (put (pushTo s o t) t 1 x) t 5 = fld s t 5 := by rw [fld_put g1 t 1 x t 5 hx.2, if_neg (by omega), e5]
  rw [fld_onTo g2 (by omega) ht, e5', fld_put g1 t 1 x i f hx.2]
  simp only [i1, hx.1, true_and, and_true, eq_comm (a := t) (b := i), eq_comm (a := (1 : Int)) (b := f)]
  by_cases e : i = t
  · subst e
    by_cases f5 : f = 5
    · subst f5; simp
    · simp [f5]
  · simp [e]
/-- Put, but not where the queue is told. -/
theorem IsQ.wake {s : List Int} (g : Good s) {o : Int} {l : List Int} (h : IsQ s o l) {t w b : Int} (hw : 0 ≤ w ∧ w ≤ 4611686018427387904) (hb : 0 ≤ b ∧ b ≤ 4611686018427387904) (ht : 0 ≤ t ∧ t < 32) (hto : t ≠ o) : IsQ (wakeTo s t w b) o l := by
  have F := fld_wakeTo g hw hb ht
  have ne : ∀ i f, (i ≠ t ∨ f = 2) → fld (wakeTo s t w b) i f = fld s i f := fun i f q => by
    rw [F, if_neg (by omega), if_neg (by omega), if_neg (by omega), if_neg (by omega)]
  exact h.congr (ne _ _ (.inr rfl)) (ne _ _ (.inl hto.symm)) fun x hx => ne _ _ (.inr rfl)
theorem IsQ.block {s : List Int} (g : Good s) {o t x : Int} {l : List Int} (h : IsQ s o l) (ho : 0 ≤ o ∧ o < 32) (ht : 0 ≤ t ∧ t < 32) (hx : 0 ≤ x ∧ x ≤ 4611686018427387904) (hr : ∀ x ∈ l, 0 ≤ x ∧ x < 32) (hol : o ∉ l) (hto : t ≠ o) (hn : (l ++ [t]).Nodup) : IsQ (blockTo s o t x) o (l ++ [t]) := by
  have F := fld_blockTo g h ho ht hx hr
  have ne : ∀ i f, (i ≠ t ∨ f = 2) → fld (blockTo s o t x) i f = fld (pushTo s o t) i f := fun i f q => by
    rw [F, if_neg (by omega), if_neg (by omega)]
  exact (h.push g ho ht hr hol hto hn).congr (ne _ _ (.inr rfl)) (ne _ _ (.inl hto.symm)) fun x hx => ne _ _ (.inr rfl)
end Go.Proofs
