/- The given statement 'QueuePlays' of the given program: whatever the input, the law answers true and the input reads as it did. On no condition. -/
import Derived.Test.YtaiipbflnnfaaaaFnQueuePlays1
import Derived.Test.YtaiipbflnnfaaaaSlLaw
import Derived.Test.YtaiipbflnnfaaaaP14IsQRQueuePlays
import Derived.Test.YtaiipbflnnfaaaaP14PickQueuePlays
import Derived.Test.YtaiipbflnnfaaaaRows
set_option linter.all false
namespace Go.Proofs.Ytaiipbflnnfaaaa.queuePlays
open Go.ChangeShapes Go.WideShapes Go.ChangeAt Go.RowKit Go.Sl
def wf_law14_Deed (x : law14_Deed) : Prop := (fits .i64) x.What ∧ (fits .i64) x.Obj ∧ (fits .i64) x.T
theorem pa_law14_Deed : Parse Try.prog 28 (fun x : law14_Deed => [.int .i64 x.What, .int .i64 x.Obj, .int .i64 x.T]) wf_law14_Deed := by
  intro H enc w base sp hd n cs x h
  obtain ⟨xs, m, -, -, hl, hx, hf⟩ := DataW.trod_struct Try.underlying28 h
  rw [show Try.prog.cellsOf 28 = 3 by kernel_rfl] at hl
  obtain ⟨a0, e0, w0⟩ := parse_field (i := 0) (o := 0) (sz := 1) hx hf (parse_int Try.underlying3) rfl rfl rfl (by kernel_rfl)
  obtain ⟨a1, e1, w1⟩ := parse_field (i := 1) (o := 1) (sz := 1) hx hf (parse_int Try.underlying3) rfl rfl rfl (by kernel_rfl)
  obtain ⟨a2, e2, w2⟩ := parse_field (i := 2) (o := 2) (sz := 1) hx hf (parse_int Try.underlying3) rfl rfl rfl (by kernel_rfl)
  clear hf hx h
  match cs, hl with
  | [c0, c1, c2], _ =>
    simp at e0 e1 e2
    subst e0 e1 e2
    exact ⟨⟨a0, a1, a2⟩, rfl, w0, w1, w2⟩

open Go.Proofs
def Q (m : List (List Int)) (o : Int) : List Int := m.getD o.toNat []
def Sm (s : List Int) : Prop := ∀ j, s.getD j 0 ≤ 4611686018427387904
theorem sm_put {s : List Int} (h : Sm s) {i f n : Int} (hn : n ≤ 4611686018427387904) : Sm (put s i f n) := by
  intro j; unfold put; split
  · rw [getD_set]; split
    · exact hn
    · exact h j
  · exact h j
theorem raw_fld {s : List Int} (h : Sm s) {i f : Int} (hi : InObj i f) : s.getD (480 + 8 * i + f).toNat 0 = fld s i f := by
  unfold fld; rw [if_pos hi, numb_id (h _)]
theorem sm_layQ : ∀ {l s : List Int}, Sm s → (∀ x ∈ l, 0 ≤ x ∧ x < 32) → Sm (layQ s l)
  | [], _, h, _ => h
  | [_], _, h, _ => sm_put h (by decide)
  | t :: u :: l, _, h, hr => sm_layQ (l := u :: l) (sm_put h (by have := hr u (by simp); omega)) (fun x hx => hr x (List.mem_cons_of_mem _ hx))
theorem nodup_len : ∀ (n : Nat) (l : List Int), l.Nodup → (∀ x ∈ l, 0 ≤ x ∧ x < (n : Int)) → l.length ≤ n
  | 0, l, _, h => by
    cases l with
    | nil => simp
    | cons a l => have := h a List.mem_cons_self; omega
  | n + 1, l, hn, h => by
    have := nodup_len n (l.erase (n : Int)) (hn.erase _) (fun x hx => by
      have h1 := h x (List.mem_of_mem_erase hx)
      have h2 : x ≠ (n : Int) := fun e => by subst e; rw [List.Nodup.mem_erase_iff hn] at hx; exact hx.1 rfl
      omega)
    rw [List.length_erase] at this
    split at this <;> omega
structure Inv (m : List (List Int)) (s : List Int) : Prop where
  len : m.length = 4
  g : Good s
  sm : Sm s
  rg : ∀ o x, 0 ≤ o → o < 4 → x ∈ Q m o → 4 ≤ x ∧ x < 32
  nd : ∀ o, 0 ≤ o → o < 4 → (Q m o).Nodup
  dj : ∀ o p x, 0 ≤ o → o < 4 → 0 ≤ p → p < 4 → x ∈ Q m o → x ∈ Q m p → o = p
  q : ∀ o, 0 ≤ o → o < 4 → IsQ s o (Q m o)
  z : ∀ t, 4 ≤ t → t < 32 → (∀ o, 0 ≤ o → o < 4 → t ∉ Q m o) → fld s t 2 = 0
theorem at_Q {m : List (List Int)} (h : m.length = 4) {o : Int} (h0 : 0 ≤ o) (h1 : o < 4) : at_ m o = some (Q m o) := by
  have : m[o.toNat]? = some (m[o.toNat]'(by omega)) := List.getElem?_eq_getElem (by omega)
  unfold at_ Q
  rw [decide_eq_true h0, cond_true, List.getD, this]; rfl
theorem Q_set {m : List (List Int)} (h : m.length = 4) {o p : Int} (h0 : 0 ≤ o) (h1 : o < 4) (h2 : 0 ≤ p) (h3 : p < 4) (l : List Int) : Q (m.set o.toNat l) p = if p = o then l else Q m p := by
  unfold Q
  simp only [List.getD]
  by_cases e : p = o
  · subst e; rw [List.getElem?_set_self (by omega), if_pos rfl]; rfl
  · rw [List.getElem?_set_ne (by omega), if_neg e]
section
variable {m : List (List Int)} {s : List Int}
theorem Inv.rg' (h : Inv m s) {o : Int} (h0 : 0 ≤ o) (h1 : o < 4) : ∀ x ∈ Q m o, 0 ≤ x ∧ x < 32 := fun x hx => by have := h.rg o x h0 h1 hx; omega
theorem Inv.le (h : Inv m s) {o : Int} (h0 : 0 ≤ o) (h1 : o < 4) : (Q m o).length ≤ 32 := nodup_len 32 _ (h.nd o h0 h1) (h.rg' h0 h1)
theorem Inv.no (h : Inv m s) {o p : Int} (h0 : 0 ≤ o) (h1 : o < 4) (h2 : 0 ≤ p) (h3 : p < 4) : p ∉ Q m o := fun q => by have := h.rg o p h0 h1 q; omega
theorem Inv.lst (h : Inv m s) {o : Int} (h0 : 0 ≤ o) (h1 : o < 4) : qlist s o = Q m o := (h.q o h0 h1).list (h.rg' h0 h1) (h.le h0 h1)
/-- One queue is another one, all others are as they were. -/
theorem Inv.other {s' : List Int} (h : Inv m s) {o : Int} {l : List Int} (h0 : 0 ≤ o) (h1 : o < 4) (g : Good s') (sm : Sm s') (hr : ∀ x ∈ l, 4 ≤ x ∧ x < 32) (hn : l.Nodup) (hd : ∀ p x, 0 ≤ p → p < 4 → p ≠ o → x ∈ l → x ∉ Q m p) (hq : IsQ s' o l)
    (hf : ∀ i f, i ≠ o → (i ∉ l ∧ i ∉ Q m o ∨ f ≠ 2) → fld s' i f = fld s i f) (hz : ∀ t, t ∈ Q m o → t ∉ l → fld s' t 2 = 0) : Inv (m.set o.toNat l) s' := by
  have e := fun p h2 h3 => Q_set h.len h0 h1 (p := p) h2 h3 l
  refine ⟨by simp [h.len], g, sm, ?_, ?_, ?_, ?_, ?_⟩
  · intro p x h2 h3 hx
    rw [e p h2 h3] at hx
    by_cases q : p = o
    · rw [if_pos q] at hx; exact hr x hx
    · rw [if_neg q] at hx; exact h.rg p x h2 h3 hx
  · intro p h2 h3
    rw [e p h2 h3]; split
    · exact hn
    · exact h.nd p h2 h3
  · intro p r x h2 h3 h4 h5 hx hy
    rw [e p h2 h3] at hx
    rw [e r h4 h5] at hy
    by_cases q1 : p = o
    · by_cases q2 : r = o
      · rw [q1, q2]
      · rw [if_pos q1] at hx; rw [if_neg q2] at hy
        exact absurd hy (hd r x h4 h5 q2 hx)
    · by_cases q2 : r = o
      · rw [if_neg q1] at hx; rw [if_pos q2] at hy
        exact absurd hx (hd p x h2 h3 q1 hy)
      · rw [if_neg q1] at hx; rw [if_neg q2] at hy
        exact h.dj p r x h2 h3 h4 h5 hx hy
  · intro p h2 h3
    rw [e p h2 h3]
    by_cases q : p = o
    · rw [if_pos q, q]; exact hq
    · rw [if_neg q]
      refine (h.q p h2 h3).congr (hf p 2 q (.inl ⟨fun z => by have := hr p z; omega, h.no h0 h1 h2 h3⟩)) (hf p 3 q (.inr (by decide))) fun x hx => ?_
      refine hf x 2 (fun z => by have := h.rg p x h2 h3 hx; omega) (.inl ⟨fun z => hd p x h2 h3 q z hx, fun z => q (h.dj p o x h2 h3 h0 h1 hx z)⟩)
  · intro t h2 h3 ht
    have hto : t ≠ o := by omega
    have htl : t ∉ l := by have := ht o h0 h1; rwa [e o h0 h1, if_pos rfl] at this
    by_cases q : t ∈ Q m o
    · exact hz t q htl
    · rw [hf t 2 hto (.inl ⟨htl, q⟩)]
      refine h.z t h2 h3 fun p h4 h5 => ?_
      by_cases q2 : p = o
      · rw [q2]; exact q
      · have := ht p h4 h5; rwa [e p h4 h5, if_neg q2] at this
theorem sm_pushTo (sm : Sm s) {o t : Int} (ht : t < 32) : Sm (pushTo s o t) := by
  unfold pushTo; split <;> exact sm_put (sm_put (sm_put sm (by decide)) (by omega)) (by omega)
theorem sm_popTo (sm : Sm s) (o t : Int) : Sm (popTo s o t) := by
  have := fld_le s t 2
  unfold popTo; simp only []; split
  · exact sm_put (sm_put (sm_put (sm_put sm this) (by decide)) (by decide)) (by decide)
  · exact sm_put (sm_put sm this) (by decide)
theorem Inv.push (h : Inv m s) {o t : Int} (h0 : 0 ≤ o) (h1 : o < 4) (h2 : 4 ≤ t) (h3 : t < 32) (hno : ∀ p, 0 ≤ p → p < 4 → t ∉ Q m p) : Inv (m.set o.toNat (Q m o ++ [t])) (pushTo s o t) := by
  have hn : (Q m o ++ [t]).Nodup := by
    rw [List.nodup_append]
    refine ⟨h.nd o h0 h1, by simp, fun a ha b hb => ?_⟩
    rw [List.mem_singleton] at hb; subst hb
    intro e; subst e; exact hno o h0 h1 ha
  have F := fld_pushTo h.g (h.q o h0 h1) (t := t) ⟨h0, by omega⟩ ⟨by omega, h3⟩ (h.rg' h0 h1)
  refine h.other h0 h1 (good_pushTo h.g _ _) (sm_pushTo h.sm h3) ?_ hn ?_ ((h.q o h0 h1).push h.g ⟨h0, by omega⟩ ⟨by omega, h3⟩ (h.rg' h0 h1) (h.no h0 h1 h0 h1) (by omega) hn) ?_ ?_
  · intro x hx
    rcases List.mem_append.1 hx with q | q
    · exact h.rg o x h0 h1 q
    · rw [List.mem_singleton] at q; omega
  · intro p x h4 h5 hp hx
    rcases List.mem_append.1 hx with q | q
    · exact fun z => hp (h.dj p o x h4 h5 h0 h1 z q)
    · rw [List.mem_singleton] at q; subst q; exact hno p h4 h5
  · intro i f hi hc
    rw [F, if_neg (fun q => hi q.1), if_neg (fun q => hi q.2.1)]
    have a1 : ¬ ((Q m o).getLast? = some i ∧ f = 2) := by
      rintro ⟨q1, q2⟩
      rcases hc with q | q
      · exact q.2 (List.mem_of_getLast? q1)
      · exact q q2
    have a2 : ¬ (i = t ∧ f = 2) := by
      rintro ⟨q1, q2⟩
      rcases hc with q | q
      · exact q.1 (by rw [q1]; simp)
      · exact q q2
    rw [if_neg a1, if_neg a2]
  · intro x hx hxl
    exact absurd (List.mem_append_left _ hx) hxl
theorem Inv.pop (h : Inv m s) {o t : Int} {l : List Int} (h0 : 0 ≤ o) (h1 : o < 4) (hl : Q m o = t :: l) : Inv (m.set o.toNat l) (popTo s o t) := by
  have hq := h.q o h0 h1
  have hr := h.rg' h0 h1
  have hn := h.nd o h0 h1
  have hno := h.no h0 h1 h0 h1
  rw [hl] at hq hr hn hno
  have hto : t ≠ o := fun e => hno (by rw [e]; exact List.mem_cons_self)
  have F := fld_popTo h.g hq ⟨h0, by omega⟩ hr hto
  have hsub : ∀ x ∈ l, x ∈ Q m o := fun x hx => by rw [hl]; exact List.mem_cons_of_mem _ hx
  refine h.other h0 h1 (good_popTo h.g _ _) (sm_popTo h.sm _ _) (fun x hx => h.rg o x h0 h1 (hsub x hx)) (List.nodup_cons.1 hn).2 (fun p x h4 h5 hp hx z => hp (h.dj p o x h4 h5 h0 h1 z (hsub x hx))) (hq.pop h.g ⟨h0, by omega⟩ hr hno hn) ?_ ?_
  · intro i f hi hc
    rw [F, if_neg (fun q => hi q.1), if_neg (fun q => hi q.2.1), if_neg]
    rintro ⟨q1, q2⟩
    rcases hc with q | q
    · exact q.2 (by rw [hl, q1]; exact List.mem_cons_self)
    · exact q q2
  · intro x hx hxl
    rw [hl] at hx
    rcases List.mem_cons.1 hx with rfl | q
    · rw [F, if_neg (fun q => hto q.1), if_neg (by omega), if_pos ⟨rfl, rfl⟩]
    · exact absurd q hxl
theorem Inv.remove (h : Inv m s) {o t : Int} (h0 : 0 ≤ o) (h1 : o < 4) (ht : t ∈ Q m o) : Inv (m.set o.toNat ((Q m o).erase t)) (removeTo s o t) := by
  have hn := h.nd o h0 h1
  obtain ⟨F, h2, h3⟩ := fld_removeTo h.g (h.q o h0 h1) ⟨h0, by omega⟩ (h.rg' h0 h1) (h.le h0 h1) hn ht (h.no h0 h1 h0 h1)
  have hsub : ∀ x ∈ (Q m o).erase t, x ∈ Q m o := fun x hx => List.mem_of_mem_erase hx
  have sm : Sm (removeTo s o t) := by
    have hr' : ∀ x ∈ (qlist s o).eraseIdx ((qlist s o).idxOf t), 0 ≤ x ∧ x < 32 := fun x hx => qlist_rg x (List.mem_of_mem_eraseIdx hx)
    have q1 := la_rg hr'
    have q2 := hd_rg hr'
    unfold removeTo
    rw [qput_eq]
    exact sm_put (sm_put (sm_put (sm_layQ h.sm hr') (by omega)) (by omega)) (by decide)
  refine h.other h0 h1 (good_removeTo h.g _ _) sm (fun x hx => h.rg o x h0 h1 (hsub x hx)) (hn.erase t) (fun p x h4 h5 hp hx z => hp (h.dj p o x h4 h5 h0 h1 z (hsub x hx))) h3 ?_ ?_
  · intro i f hi hc
    rw [F i f (by rintro ⟨q1, q2⟩; rcases hc with q | q; exact q.2 q1; exact q q2), if_neg (fun q => hi q.1), if_neg (fun q => hi q.1)]
  · intro x hx hxl
    by_cases e : x = t
    · rw [e]; exact h2
    · exact absurd ((List.Nodup.mem_erase_iff hn).2 ⟨e, hx⟩) hxl
end
/-- Is it in one of them? -/
theorem in_l2 (m : List (List Int)) (x : Int) (o : Int) {l : List Int} (ho : at_ m o = some l) (hl : l.length ≤ 1000) : ∀ (n k i : Nat), i + n = l.length → n < k → (∃ r, law14_in.l2 m x o k (i : Int) = some r ∧ (x ∈ l.drop i → r = Brk.ret true) ∧ (x ∉ l.drop i → ∃ q, r = Brk.nx q)) := by
  intro n
  induction n with
  | zero =>
    intro k i h hk
    obtain ⟨k, rfl⟩ : ∃ q, k = q + 1 := ⟨k - 1, by omega⟩
    unfold law14_in.l2
    rw [ho, Option.bind_some, decide_eq_false (by omega), cond_false, List.drop_of_length_le (by omega)]
    exact ⟨_, rfl, by simp, fun _ => ⟨_, rfl⟩⟩
  | succ n ih =>
    intro k i h hk
    obtain ⟨k, rfl⟩ : ∃ q, k = q + 1 := ⟨k - 1, by omega⟩
    have hi : i < l.length := by omega
    unfold law14_in.l2
    simp only [ho, Option.bind_some, decide_eq_true (by omega : (i : Int) < (l.length : Int)), cond_true, at_drop hi]
    rw [List.drop_eq_getElem_cons hi]
    by_cases e : l[i] = x
    · have : (l[i] == x) = true := by simpa using e
      rw [this, cond_true]
      exact ⟨_, rfl, fun _ => rfl, fun q => absurd (by rw [e]; exact List.mem_cons_self) q⟩
    · have : (l[i] == x) = false := by simpa using e
      rw [this, cond_false, w64_id (by omega) (by omega), show ((i : Int) + 1) = ((i + 1 : Nat) : Int) by omega]
      obtain ⟨r, h1, h2, h3⟩ := ih k (i + 1) (by omega) (by omega)
      refine ⟨r, h1, fun q => ?_, fun q => h3 (fun z => q (List.mem_cons_of_mem _ z))⟩
      rcases List.mem_cons.1 q with q | q
      · exact absurd q.symm e
      · exact h2 q
theorem in_l1 (m : List (List Int)) (x : Int) (hm : m.length = 4) (hl : ∀ o, 0 ≤ o → o < 4 → (Q m o).length ≤ 32) : ∀ (n k : Nat) (o : Int), 0 ≤ o → 4 - o = n → n + 40 < k → (∃ r, law14_in.l1 m x k o = some r ∧ ((∃ p, o ≤ p ∧ p < 4 ∧ x ∈ Q m p) → r = Brk.ret true) ∧ ((∀ p, o ≤ p → p < 4 → x ∉ Q m p) → r = Brk.nx ())) := by
  intro n
  induction n with
  | zero =>
    intro k o h0 h hk
    obtain ⟨k, rfl⟩ : ∃ q, k = q + 1 := ⟨k - 1, by omega⟩
    unfold law14_in.l1
    rw [hm, decide_eq_false (by omega), cond_false]
    exact ⟨_, rfl, fun ⟨p, h1, h2, _⟩ => by omega, fun _ => rfl⟩
  | succ n ih =>
    intro k o h0 h hk
    obtain ⟨k, rfl⟩ : ∃ q, k = q + 1 := ⟨k - 1, by omega⟩
    unfold law14_in.l1
    rw [hm, decide_eq_true (by omega), cond_true]
    have hlo := hl o h0 (by omega)
    obtain ⟨r, h1, h2, h3⟩ := in_l2 m x o (at_Q hm h0 (by omega)) (by omega) (Q m o).length k 0 (by omega) (by omega)
    rw [show ((0 : Nat) : Int) = 0 from rfl, List.drop_zero] at *
    rw [h1, Option.bind_some]
    by_cases e : x ∈ Q m o
    · rw [h2 e]
      exact ⟨_, rfl, fun _ => rfl, fun q => absurd e (q o (by omega) (by omega))⟩
    · obtain ⟨⟨q1, q2, q3, q4⟩, hq⟩ := h3 e
      rw [hq]
      show ∃ r, law14_in.l1 m x k (w64 (o + 1)) = some r ∧ _
      rw [w64_id (by omega) (by omega)]
      obtain ⟨r2, h4, h5, h6⟩ := ih k (o + 1) (by omega) (by omega) (by omega)
      refine ⟨r2, h4, fun ⟨p, p1, p2, p3⟩ => h5 ⟨p, ?_, p2, p3⟩, fun q => h6 fun p p1 p2 => q p (by omega) p2⟩
      rcases (by omega : p = o ∨ o + 1 ≤ p) with z | z
      · subst z; exact absurd p3 e
      · exact z
def inB (m : List (List Int)) (x : Int) : Bool := decide (x ∈ Q m 0) || decide (x ∈ Q m 1) || decide (x ∈ Q m 2) || decide (x ∈ Q m 3)
theorem inB_iff (m : List (List Int)) (x : Int) : inB m x = true ↔ ∃ p, 0 ≤ p ∧ p < 4 ∧ x ∈ Q m p := by
  unfold inB
  simp only [Bool.or_eq_true, decide_eq_true_eq]
  constructor
  · rintro (((h | h) | h) | h)
    · exact ⟨0, by decide, by decide, h⟩
    · exact ⟨1, by decide, by decide, h⟩
    · exact ⟨2, by decide, by decide, h⟩
    · exact ⟨3, by decide, by decide, h⟩
  · rintro ⟨p, h1, h2, h⟩
    rcases (by omega : p = 0 ∨ p = 1 ∨ p = 2 ∨ p = 3) with rfl | rfl | rfl | rfl
    · exact .inl (.inl (.inl h))
    · exact .inl (.inl (.inr h))
    · exact .inl (.inr h)
    · exact .inr h
theorem inB_no {m : List (List Int)} {x : Int} (h : inB m x = false) : ∀ p, 0 ≤ p → p < 4 → x ∉ Q m p := fun p h1 h2 h3 => by
  rw [(inB_iff m x).2 ⟨p, h1, h2, h3⟩] at h; cases h
theorem in_ok (m : List (List Int)) (x : Int) (hm : m.length = 4) (hl : ∀ o, 0 ≤ o → o < 4 → (Q m o).length ≤ 32) (k : Nat) (hk : 60 ≤ k) : law14_in.f k m x = some (inB m x) := by
  obtain ⟨r, h1, h2, h3⟩ := in_l1 m x hm hl 4 k 0 (by decide) (by decide) (by omega)
  unfold law14_in.f
  rw [h1, Option.bind_some]
  cases e : inB m x with
  | true => rw [h2 ((inB_iff m x).1 e)]; rfl
  | false => rw [h3 (inB_no e)]; rfl
theorem code_ok (k : Nat) (hk : 20 ≤ k) : law00_Code.f k none = some 0 ∧ law00_Code.f k (some 2) = some 2 := by
  obtain ⟨k, rfl⟩ : ∃ q, k = q + 20 := ⟨k - 20, by omega⟩
  exact ⟨rfl, rfl⟩

theorem l4_ok {m : List (List Int)} {s : List Int} (h : Inv m s) {o : Int} (h0 : 0 ≤ o) (h1 : o < 4) : ∀ (n k i : Nat), i + n = (Q m o).length → n < k → law14_QueuePlays.l4 m o (Q m o) k (i : Int) = some (Brk.nx (((Q m o).length : Int), ((Q m o).length : Int), false)) := by
  have hlen := h.le h0 h1
  intro n
  induction n with
  | zero =>
    intro k i hi hk
    obtain ⟨k, rfl⟩ : ∃ q, k = q + 1 := ⟨k - 1, by omega⟩
    unfold law14_QueuePlays.l4
    obtain rfl : i = (Q m o).length := by omega
    rw [decide_eq_false (by omega), cond_false]
  | succ n ih =>
    intro k i hi hk
    obtain ⟨k, rfl⟩ : ∃ q, k = q + 1 := ⟨k - 1, by omega⟩
    unfold law14_QueuePlays.l4
    have hlt : i < (Q m o).length := by omega
    rw [decide_eq_true (by omega), cond_true, at_drop hlt, Option.bind_some, at_Q h.len h0 h1, Option.bind_some, at_drop hlt, Option.bind_some]
    have e : ((Q m o)[i] != (Q m o)[i]) = false := by simp
    rw [e, cond_false, w64_id (by omega) (by omega), show ((i : Int) + 1) = ((i + 1 : Nat) : Int) by omega]
    exact ih k (i + 1) (by omega) (by omega)
theorem l3_ok {m : List (List Int)} {s : List Int} (h : Inv m s) : ∀ (n k : Nat) (o : Int), 0 ≤ o → 4 - o = n → n + 60 < k → law14_QueuePlays.l3 m k (o, s) = some (Brk.nx (4, 4, false, s)) := by
  intro n
  induction n with
  | zero =>
    intro k o h0 ho hk
    obtain ⟨k, rfl⟩ : ∃ q, k = q + 1 := ⟨k - 1, by omega⟩
    obtain rfl : o = 4 := by omega
    rfl
  | succ n ih =>
    intro k o h0 ho hk
    obtain ⟨k, rfl⟩ : ∃ q, k = q + 1 := ⟨k - 1, by omega⟩
    have hlen := h.le h0 (by omega : o < 4)
    unfold law14_QueuePlays.l3
    have h4 := l4_ok h h0 (by omega) (Q m o).length k 0 (by omega) (by omega)
    rw [show ((0 : Nat) : Int) = 0 from rfl] at h4
    rw [decide_eq_true (by omega), cond_true, list_ok h.g k (by omega), h.lst h0 (by omega), Option.bind_some]
    simp only [at_Q h.len h0 (by omega : o < 4), Option.bind_some]
    have e : (((Q m o).length : Int) != ((Q m o).length : Int)) = false := by simp
    rw [e, cond_false, h4, Option.bind_some]
    show law14_QueuePlays.l3 m k (w64 (o + 1), s) = _
    rw [w64_id (by omega) (by omega)]
    exact ih k (o + 1) (by omega) (by omega) (by omega)
theorem l5_ok {m : List (List Int)} {s : List Int} (h : Inv m s) : ∀ (n k : Nat) (t : Int), 4 ≤ t → 32 - t = n → n + 80 < k → law14_QueuePlays.l5 m s k t = some (Brk.nx (32, 32, false)) := by
  intro n
  induction n with
  | zero =>
    intro k t h0 ht hk
    obtain ⟨k, rfl⟩ : ∃ q, k = q + 1 := ⟨k - 1, by omega⟩
    obtain rfl : t = 32 := by omega
    rfl
  | succ n ih =>
    intro k t h0 ht hk
    obtain ⟨k, rfl⟩ : ∃ q, k = q + 1 := ⟨k - 1, by omega⟩
    unfold law14_QueuePlays.l5
    rw [decide_eq_true (by omega), cond_true, in_ok m t h.len (fun o q1 q2 => h.le q1 q2) k (by omega), Option.bind_some]
    have key : (bif !(inB m t) then ((at_ s (w64 ((w64 (480 + (w64 (8 * t)))) + 2))).bind fun x120 => some (x120 != 0)) else (some false)) = some false := by
      cases e : inB m t with
      | true => rfl
      | false =>
        rw [Bool.not_false, cond_true, w64_id (x := 8 * t) (by omega) (by omega), w64_id (x := 480 + 8 * t) (by omega) (by omega), w64_id (by omega) (by omega)]
        have hz := h.z t h0 (by omega) (inB_no e)
        have hr := raw_fld h.sm (i := t) (f := 2) ⟨by omega, by omega, by omega, by omega⟩
        rw [hz] at hr
        have hlt : (480 + 8 * t + 2).toNat < s.length := by rw [h.g.1]; omega
        have ha : at_ s (480 + 8 * t + 2) = some 0 := by
          unfold at_
          rw [decide_eq_true (by omega), cond_true, List.getElem?_eq_getElem hlt]
          rw [List.getD, List.getElem?_eq_getElem hlt] at hr
          simpa using hr
        rw [ha]; rfl
    rw [key, Option.bind_some, cond_false, w64_id (by omega) (by omega)]
    exact ih k (t + 1) (by omega) (by omega) (by omega)

theorem l8_ok {m : List (List Int)} {s : List Int} (h : Inv m s) {o : Int} (h0 : 0 ≤ o) (h1 : o < 4) : ∀ (n k i : Nat), i + n = (Q m o).length → n < k → law14_QueuePlays.l8 m o (Q m o) k (i : Int) = some (Brk.nx (((Q m o).length : Int), ((Q m o).length : Int), false)) := by
  have hlen := h.le h0 h1
  intro n
  induction n with
  | zero =>
    intro k i hi hk
    obtain ⟨k, rfl⟩ : ∃ q, k = q + 1 := ⟨k - 1, by omega⟩
    unfold law14_QueuePlays.l8
    obtain rfl : i = (Q m o).length := by omega
    rw [decide_eq_false (by omega), cond_false]
  | succ n ih =>
    intro k i hi hk
    obtain ⟨k, rfl⟩ : ∃ q, k = q + 1 := ⟨k - 1, by omega⟩
    unfold law14_QueuePlays.l8
    have hlt : i < (Q m o).length := by omega
    rw [decide_eq_true (by omega), cond_true, at_drop hlt, Option.bind_some, at_Q h.len h0 h1, Option.bind_some, at_drop hlt, Option.bind_some]
    have e : ((Q m o)[i] != (Q m o)[i]) = false := by simp
    rw [e, cond_false, w64_id (by omega) (by omega), show ((i : Int) + 1) = ((i + 1 : Nat) : Int) by omega]
    exact ih k (i + 1) (by omega) (by omega)
theorem l7_ok {m : List (List Int)} {s : List Int} (h : Inv m s) : ∀ (n k : Nat) (o : Int), 0 ≤ o → 4 - o = n → n + 60 < k → law14_QueuePlays.l7 m k (o, s) = some (Brk.nx (4, 4, false, s)) := by
  intro n
  induction n with
  | zero =>
    intro k o h0 ho hk
    obtain ⟨k, rfl⟩ : ∃ q, k = q + 1 := ⟨k - 1, by omega⟩
    obtain rfl : o = 4 := by omega
    rfl
  | succ n ih =>
    intro k o h0 ho hk
    obtain ⟨k, rfl⟩ : ∃ q, k = q + 1 := ⟨k - 1, by omega⟩
    have hlen := h.le h0 (by omega : o < 4)
    unfold law14_QueuePlays.l7
    have h4 := l8_ok h h0 (by omega) (Q m o).length k 0 (by omega) (by omega)
    rw [show ((0 : Nat) : Int) = 0 from rfl] at h4
    rw [decide_eq_true (by omega), cond_true, list_ok h.g k (by omega), h.lst h0 (by omega), Option.bind_some]
    simp only [at_Q h.len h0 (by omega : o < 4), Option.bind_some]
    have e : (((Q m o).length : Int) != ((Q m o).length : Int)) = false := by simp
    rw [e, cond_false, h4, Option.bind_some]
    show law14_QueuePlays.l7 m k (w64 (o + 1), s) = _
    rw [w64_id (by omega) (by omega)]
    exact ih k (o + 1) (by omega) (by omega) (by omega)
theorem l9_ok {m : List (List Int)} {s : List Int} (h : Inv m s) : ∀ (n k : Nat) (t : Int), 4 ≤ t → 32 - t = n → n + 80 < k → law14_QueuePlays.l9 m s k t = some (Brk.nx (32, 32, false)) := by
  intro n
  induction n with
  | zero =>
    intro k t h0 ht hk
    obtain ⟨k, rfl⟩ : ∃ q, k = q + 1 := ⟨k - 1, by omega⟩
    obtain rfl : t = 32 := by omega
    rfl
  | succ n ih =>
    intro k t h0 ht hk
    obtain ⟨k, rfl⟩ : ∃ q, k = q + 1 := ⟨k - 1, by omega⟩
    unfold law14_QueuePlays.l9
    rw [decide_eq_true (by omega), cond_true, in_ok m t h.len (fun o q1 q2 => h.le q1 q2) k (by omega), Option.bind_some]
    have key : (bif !(inB m t) then ((at_ s (w64 ((w64 (480 + (w64 (8 * t)))) + 2))).bind fun x120 => some (x120 != 0)) else (some false)) = some false := by
      cases e : inB m t with
      | true => rfl
      | false =>
        rw [Bool.not_false, cond_true, w64_id (x := 8 * t) (by omega) (by omega), w64_id (x := 480 + 8 * t) (by omega) (by omega), w64_id (by omega) (by omega)]
        have hz := h.z t h0 (by omega) (inB_no e)
        have hr := raw_fld h.sm (i := t) (f := 2) ⟨by omega, by omega, by omega, by omega⟩
        rw [hz] at hr
        have hlt : (480 + 8 * t + 2).toNat < s.length := by rw [h.g.1]; omega
        have ha : at_ s (480 + 8 * t + 2) = some 0 := by
          unfold at_
          rw [decide_eq_true (by omega), cond_true, List.getElem?_eq_getElem hlt]
          rw [List.getD, List.getElem?_eq_getElem hlt] at hr
          simpa using hr
        rw [ha]; rfl
    rw [key, Option.bind_some, cond_false, w64_id (by omega) (by omega)]
    exact ih k (t + 1) (by omega) (by omega) (by omega)

theorem l13_ok {m : List (List Int)} {s : List Int} (h : Inv m s) {o : Int} (h0 : 0 ≤ o) (h1 : o < 4) : ∀ (n k i : Nat), i + n = (Q m o).length → n < k → law14_QueuePlays.l13 m o (Q m o) k (i : Int) = some (Brk.nx (((Q m o).length : Int), ((Q m o).length : Int), false)) := by
  have hlen := h.le h0 h1
  intro n
  induction n with
  | zero =>
    intro k i hi hk
    obtain ⟨k, rfl⟩ : ∃ q, k = q + 1 := ⟨k - 1, by omega⟩
    unfold law14_QueuePlays.l13
    obtain rfl : i = (Q m o).length := by omega
    rw [decide_eq_false (by omega), cond_false]
  | succ n ih =>
    intro k i hi hk
    obtain ⟨k, rfl⟩ : ∃ q, k = q + 1 := ⟨k - 1, by omega⟩
    unfold law14_QueuePlays.l13
    have hlt : i < (Q m o).length := by omega
    rw [decide_eq_true (by omega), cond_true, at_drop hlt, Option.bind_some, at_Q h.len h0 h1, Option.bind_some, at_drop hlt, Option.bind_some]
    have e : ((Q m o)[i] != (Q m o)[i]) = false := by simp
    rw [e, cond_false, w64_id (by omega) (by omega), show ((i : Int) + 1) = ((i + 1 : Nat) : Int) by omega]
    exact ih k (i + 1) (by omega) (by omega)
theorem l12_ok {m : List (List Int)} {s : List Int} (h : Inv m s) : ∀ (n k : Nat) (o : Int), 0 ≤ o → 4 - o = n → n + 60 < k → law14_QueuePlays.l12 m k (o, s) = some (Brk.nx (4, 4, false, s)) := by
  intro n
  induction n with
  | zero =>
    intro k o h0 ho hk
    obtain ⟨k, rfl⟩ : ∃ q, k = q + 1 := ⟨k - 1, by omega⟩
    obtain rfl : o = 4 := by omega
    rfl
  | succ n ih =>
    intro k o h0 ho hk
    obtain ⟨k, rfl⟩ : ∃ q, k = q + 1 := ⟨k - 1, by omega⟩
    have hlen := h.le h0 (by omega : o < 4)
    unfold law14_QueuePlays.l12
    have h4 := l13_ok h h0 (by omega) (Q m o).length k 0 (by omega) (by omega)
    rw [show ((0 : Nat) : Int) = 0 from rfl] at h4
    rw [decide_eq_true (by omega), cond_true, list_ok h.g k (by omega), h.lst h0 (by omega), Option.bind_some]
    simp only [at_Q h.len h0 (by omega : o < 4), Option.bind_some]
    have e : (((Q m o).length : Int) != ((Q m o).length : Int)) = false := by simp
    rw [e, cond_false, h4, Option.bind_some]
    show law14_QueuePlays.l12 m k (w64 (o + 1), s) = _
    rw [w64_id (by omega) (by omega)]
    exact ih k (o + 1) (by omega) (by omega) (by omega)
theorem l14_ok {m : List (List Int)} {s : List Int} (h : Inv m s) : ∀ (n k : Nat) (t : Int), 4 ≤ t → 32 - t = n → n + 80 < k → law14_QueuePlays.l14 m s k t = some (Brk.nx (32, 32, false)) := by
  intro n
  induction n with
  | zero =>
    intro k t h0 ht hk
    obtain ⟨k, rfl⟩ : ∃ q, k = q + 1 := ⟨k - 1, by omega⟩
    obtain rfl : t = 32 := by omega
    rfl
  | succ n ih =>
    intro k t h0 ht hk
    obtain ⟨k, rfl⟩ : ∃ q, k = q + 1 := ⟨k - 1, by omega⟩
    unfold law14_QueuePlays.l14
    rw [decide_eq_true (by omega), cond_true, in_ok m t h.len (fun o q1 q2 => h.le q1 q2) k (by omega), Option.bind_some]
    have key : (bif !(inB m t) then ((at_ s (w64 ((w64 (480 + (w64 (8 * t)))) + 2))).bind fun x120 => some (x120 != 0)) else (some false)) = some false := by
      cases e : inB m t with
      | true => rfl
      | false =>
        rw [Bool.not_false, cond_true, w64_id (x := 8 * t) (by omega) (by omega), w64_id (x := 480 + 8 * t) (by omega) (by omega), w64_id (by omega) (by omega)]
        have hz := h.z t h0 (by omega) (inB_no e)
        have hr := raw_fld h.sm (i := t) (f := 2) ⟨by omega, by omega, by omega, by omega⟩
        rw [hz] at hr
        have hlt : (480 + 8 * t + 2).toNat < s.length := by rw [h.g.1]; omega
        have ha : at_ s (480 + 8 * t + 2) = some 0 := by
          unfold at_
          rw [decide_eq_true (by omega), cond_true, List.getElem?_eq_getElem hlt]
          rw [List.getD, List.getElem?_eq_getElem hlt] at hr
          simpa using hr
        rw [ha]; rfl
    rw [key, Option.bind_some, cond_false, w64_id (by omega) (by omega)]
    exact ih k (t + 1) (by omega) (by omega) (by omega)

theorem l11_ok {m : List (List Int)} {s : List Int} (h : Inv m s) {o : Int} (h0 : 0 ≤ o) (h1 : o < 4) (x : law14_Deed) : ∀ (n k i : Nat) (b : Bool) (acc : List Int), i + n = (Q m o).length → n < k → acc.length ≤ i → law14_QueuePlays.l11 m x o k ((i : Int), b, acc) = some (acc ++ ((Q m o).drop i).filter (fun y => !(y == x.T)), b || ((Q m o).drop i).any (fun y => y == x.T), ((Q m o).length : Int), ((Q m o).length : Int), ((Q m o).length : Int), false) := by
  have hlen := h.le h0 h1
  intro n
  induction n with
  | zero =>
    intro k i b acc hi hk ha
    obtain ⟨k, rfl⟩ : ∃ q, k = q + 1 := ⟨k - 1, by omega⟩
    unfold law14_QueuePlays.l11
    obtain rfl : i = (Q m o).length := by omega
    rw [at_Q h.len h0 h1, Option.bind_some, decide_eq_false (by omega), cond_false, List.drop_length]; simp
  | succ n ih =>
    intro k i b acc hi hk ha
    obtain ⟨k, rfl⟩ : ∃ q, k = q + 1 := ⟨k - 1, by omega⟩
    have hlt : i < (Q m o).length := by omega
    unfold law14_QueuePlays.l11
    simp only [at_Q h.len h0 h1, Option.bind_some, decide_eq_true (by omega : (i : Int) < ((Q m o).length : Int)), cond_true, at_drop hlt]
    rw [List.drop_eq_getElem_cons hlt, w64_id (by omega) (by omega), show ((i : Int) + 1) = ((i + 1 : Nat) : Int) by omega]
    cases e : ((Q m o)[i] == x.T) with
    | true =>
      rw [cond_true, ih k (i + 1) true acc (by omega) (by omega) (by omega)]
      simp only [List.filter_cons, List.any_cons, e, Bool.not_true, Bool.false_eq_true, if_false, Bool.true_or, Bool.or_true]
    | false =>
      have ha2 : app acc [(Q m o)[i]] = some (acc ++ [(Q m o)[i]]) := by
        unfold app; rw [decide_eq_true (by simp; omega)]; rfl
      rw [cond_false, ha2, Option.bind_some, ih k (i + 1) b _ (by omega) (by omega) (by simp; omega)]
      simp only [List.filter_cons, List.any_cons, e, Bool.not_false, if_true, Bool.false_or, List.append_assoc, List.cons_append, List.nil_append]
theorem loop_ok (a0 : List law14_Deed) (hw : ∀ x ∈ a0, wf_law14_Deed x) (hl : a0.length ≤ 150) : ∀ (n k : Nat) (i : Int) (m : List (List Int)) (s : List Int), 0 ≤ i → i ≤ a0.length → (a0.length : Int) - i = n → n + 200 < k → Inv m s → ∃ r, law14_QueuePlays.l1 a0 k (i, s, m) = some (Brk.nx r) := by
  intro n
  induction n with
  | zero =>
    intro k i m s h0 h1 h2 hk hs
    obtain ⟨k, rfl⟩ : ∃ q, k = q + 1 := ⟨k - 1, by omega⟩
    unfold law14_QueuePlays.l1
    rw [decide_eq_false (by omega)]
    exact ⟨_, rfl⟩
  | succ n ih =>
    intro k i m s h0 h1 h2 hk hs
    obtain ⟨k, rfl⟩ : ∃ q, k = q + 1 := ⟨k - 1, by omega⟩
    unfold law14_QueuePlays.l1
    rw [decide_eq_true (by omega), cond_true]
    obtain ⟨x, hx, hm⟩ := at_some h0 (by omega : i < (a0.length : Int))
    have w := hw x hm
    have hp : law10_Pick.f x.What 4 = some (pick x.What 4) := pick_ok w.1 (by decide) (by decide)
    have ho : law10_Pick.f x.Obj 4 = some (pick x.Obj 4) := pick_ok w.2.1 (by decide) (by decide)
    have hr := pick_lt x.What (n := 4) (by decide)
    have hr2 := pick_lt x.Obj (n := 4) (by decide)
    have e1 : w64 (i + 1) = i + 1 := w64_id (by omega) (by omega)
    obtain ⟨c0, c2⟩ := code_ok k (by omega)
    simp only [hx, hp, ho, Option.bind_some, e1]
    generalize pick x.What 4 = p at hr
    generalize pick x.Obj 4 = o at hr2
    have next := fun m s (hs : Inv m s) => ih k (i + 1) m s (by omega) (by omega) (by omega) (by omega) hs
    have hle := hs.le hr2.1 hr2.2
    by_cases hp2 : p < 2
    · rw [decide_eq_true hp2, cond_true]
      by_cases hT : 0 ≤ x.T ∧ x.T ≤ 31
      · have e2 : (decide (x.T < 0) || decide (31 < x.T)) = false := by simp; omega
        rw [e2, cond_false]
        by_cases h4 : x.T < 4
        · simp only [decide_eq_true h4, cond_true, Option.bind_some]
          exact next _ _ hs
        · rw [decide_eq_false h4, cond_false, in_ok m x.T hs.len (fun o q1 q2 => hs.le q1 q2) k (by omega), Option.bind_some, Option.bind_some]
          cases hin : inB m x.T with
          | true => rw [cond_true]; exact next _ _ hs
          | false =>
            have hs' := hs.push hr2.1 hr2.2 (t := x.T) (by omega) (by omega) (inB_no hin)
            have ha1 : app ([] : List Int) (Q m o) = some (Q m o) := by unfold app; rw [decide_eq_true (by simp; omega)]; rfl
            have ha2 : app (Q m o) [x.T] = some (Q m o ++ [x.T]) := by unfold app; rw [decide_eq_true (by simp; omega)]; rfl
            obtain ⟨r, hr⟩ := next _ _ hs'
            rw [cond_false, push_ok hs.g, if_pos ⟨⟨hr2.1, by omega, by decide⟩, ⟨hT.1, by omega, by decide⟩⟩, Option.bind_some]
            simp only [c0, Option.bind_some, bne_self_eq_false, cond_false, Nat.reduceBEq, beq_self_eq_true, cond_true, at_Q hs.len hr2.1 hr2.2, ha1, ha2]
            rw [l7_ok hs' 4 k 0 (by decide) (by decide) (by omega), Option.bind_some]
            show ∃ r, (law14_QueuePlays.l9 _ _ k 4).bind _ = _
            rw [l9_ok hs' 28 k 4 (by decide) (by decide) (by omega), Option.bind_some]
            exact ⟨r, hr⟩
      · have e2 : (decide (x.T < 0) || decide (31 < x.T)) = true := by
          rw [← Bool.not_eq_false]; simp; omega
        obtain ⟨r, hr⟩ := next _ _ hs
        rw [e2, cond_true, push_ok hs.g, if_neg (by rintro ⟨_, q⟩; unfold InObj at q; omega), Option.bind_some]
        simp only [c2, Option.bind_some, bne_self_eq_false, cond_false, Nat.reduceBEq, Int.reduceBEq]
        rw [l3_ok hs 4 k 0 (by decide) (by decide) (by omega), Option.bind_some]
        show ∃ r, (law14_QueuePlays.l5 _ _ k 4).bind _ = _
        rw [l5_ok hs 28 k 4 (by decide) (by decide) (by omega), Option.bind_some]
        exact ⟨r, hr⟩
    · rw [decide_eq_false hp2, cond_false]
      have fin : ∀ (m' : List (List Int)) (s' : List Int), Inv m' s' → ∃ r, (Brk.go (Brk.nx (s', m') : Brk Bool ((List Int) × (List (List Int)))) (fun r => some (Brk.ret r)) (fun (qv4_10, qv8_10) => (law14_QueuePlays.l12 qv8_10 k (0, qv4_10)).bind fun o12 => Brk.go o12 (fun r => some (Brk.ret r)) (fun (j16_e12, j171_e12, j172_e12, qv4_e12) => (law14_QueuePlays.l14 qv8_10 qv4_e12 k 4).bind fun o14 => Brk.go o14 (fun r => some (Brk.ret r)) (fun (j19_e14, j205_e14, j206_e14) => law14_QueuePlays.l1 a0 k (i + 1, qv4_e12, qv8_10))))) = some (Brk.nx r) := by
        intro m' s' h'
        obtain ⟨r, hr⟩ := next _ _ h'
        refine ⟨r, ?_⟩
        show (law14_QueuePlays.l12 m' k (0, s')).bind _ = _
        rw [l12_ok h' 4 k 0 (by decide) (by decide) (by omega), Option.bind_some]
        show (law14_QueuePlays.l14 m' s' k 4).bind _ = _
        rw [l14_ok h' 28 k 4 (by decide) (by decide) (by omega), Option.bind_some]
        exact hr
      by_cases hp3 : p = 2
      · have e3 : (p == 2) = true := by simpa using hp3
        rw [e3, cond_true, pop_ok hs.g, (hs.q o hr2.1 hr2.2).nxt (hs.rg' hr2.1 hr2.2)]
        cases hq : Q m o with
        | nil =>
          simp only [List.head?_nil, Option.bind_some, at_Q hs.len hr2.1 hr2.2, hq, List.length_nil, cond_false, Bool.not_false, Bool.true_and]
          exact fin _ _ hs
        | cons t l =>
          have hs' := hs.pop hr2.1 hr2.2 hq
          rw [hq] at hle
          have ha : app ([] : List Int) l = some l := by unfold app; rw [decide_eq_true (by simp at hle ⊢; omega)]; rfl
          have hsl : slcF (t :: l) 1 = some l := by
            unfold slcF
            rw [decide_eq_true (by decide), decide_eq_true (by simp; omega)]
            try rfl
          have hat : at_ (t :: l) 0 = some t := rfl
          have hpos : decide ((0 : Int) < ((t :: l).length : Int)) = true := decide_eq_true (by simp only [List.length_cons]; omega)
          simp only [List.head?_cons, Option.bind_some, at_Q hs.len hr2.1 hr2.2, hq, hat, hsl, ha, hpos, bne_self_eq_false, Bool.not_true, Bool.false_and, Bool.or_self, cond_false, cond_true]
          exact fin _ _ hs'
      · have e3 : (p == 2) = false := by simpa using hp3
        have hll := l11_ok hs hr2.1 hr2.2 x (Q m o).length k 0 false [] (by omega) (by omega) (by simp)
        rw [show ((0 : Nat) : Int) = 0 from rfl, List.drop_zero] at hll
        rw [e3, cond_false, hll, Option.bind_some, remove_ok hs.g k o x.T (by omega), hs.lst hr2.1 hr2.2]
        have hany : (Q m o).any (fun y => y == x.T) = decide (x.T ∈ Q m o) := by
          rw [Bool.eq_iff_iff]; simp
        by_cases hin : x.T ∈ Q m o
        · have hf : (Q m o).filter (fun y => !(y == x.T)) = (Q m o).erase x.T := by
            rw [(hs.nd o hr2.1 hr2.2).erase_eq_filter]; rfl
          simp only [if_pos hin, hany, decide_eq_true hin, Bool.false_or, Option.bind_some, bne_self_eq_false, cond_false, at_Q hs.len hr2.1 hr2.2, List.nil_append, hf]
          exact fin _ _ (hs.remove hr2.1 hr2.2 hin)
        · have hf : (Q m o).filter (fun y => !(y == x.T)) = Q m o := by
            rw [List.filter_eq_self]; intro y hy
            have : y ≠ x.T := fun e => hin (e ▸ hy)
            simpa using this
          have hset : m.set o.toNat (Q m o) = m := by
            have := at_Q hs.len hr2.1 hr2.2
            unfold Q
            have hlt : o.toNat < m.length := by rw [hs.len]; omega
            rw [List.getD, List.getElem?_eq_getElem hlt]
            simp
          simp only [if_neg hin, hany, decide_eq_false hin, Bool.false_or, Option.bind_some, bne_self_eq_false, cond_false, at_Q hs.len hr2.1 hr2.2, List.nil_append, hf, hset]
          exact fin _ _ hs
theorem ok (a0 : List law14_Deed) (w0 : ∀ x ∈ a0, wf_law14_Deed x) : ∃ k, law14_QueuePlays.f k a0 = some true := by
  refine ⟨2000, ?_⟩
  have hu : law14_up.f 2000 = some true := by decide +kernel
  unfold law14_QueuePlays.f
  rw [hu, Option.bind_some]
  by_cases h1 : (150 : Int) < (a0.length : Int)
  · rw [decide_eq_true h1]; rfl
  · rw [decide_eq_false h1, cond_false]
    obtain ⟨z, hm, hz1, hz2⟩ : ∃ z : List Int, mk_ (0 : Int) 738 = some z ∧ z.length = 738 ∧ ∀ x ∈ z, x = 0 := ⟨List.replicate 738 0, by unfold mk_; rfl, List.length_replicate, fun x hx => List.eq_of_mem_replicate hx⟩
    have hm2 : mk_ ([] : List Int) 4 = some [[], [], [], []] := rfl
    have hz3 : ∀ j, z.getD j 0 = 0 := fun j => by
      rw [List.getD]
      cases e : z[j]? with
      | none => rfl
      | some x => exact hz2 x (List.mem_of_getElem? e)
    have hf : ∀ i f, fld z i f = 0 := fun i f => by unfold fld; rw [hz3]; split <;> rfl
    have hQ : ∀ o : Int, Q [[], [], [], []] o = [] := fun o => by
      unfold Q
      generalize o.toNat = n
      match n with
      | 0 => rfl
      | 1 => rfl
      | 2 => rfl
      | 3 => rfl
      | n + 4 => rfl
    have h0 : Inv [[], [], [], []] z := by
      refine ⟨rfl, ⟨hz1, fun j => by rw [hz3]; decide⟩, fun j => by rw [hz3]; decide, ?_, ?_, ?_, ?_, ?_⟩
      · intro o x _ _ hx; rw [hQ] at hx; simp at hx
      · intro o _ _; rw [hQ]; simp
      · intro o p x _ _ _ _ hx; rw [hQ] at hx; simp at hx
      · intro o _ _; rw [hQ]; exact ⟨hf _ _, hf _ _, trivial⟩
      · intro t _ _ _; exact hf _ _
    obtain ⟨⟨q1, q2⟩, h⟩ := loop_ok a0 w0 (by omega) a0.length 2000 0 _ z (by decide) (by omega) (by omega) (by omega) h0
    rw [hm, Option.bind_some, hm2, Option.bind_some, h]; rfl

theorem own : ownKnob Try.prog.godebug = none := by kernel_rfl
theorem laidOut : laidOutB Try.prog = true := by kernel_rfl
set_option maxRecDepth 100000 in
theorem lifted (os : Os) (started : os.Started) (H : Type) (enc : TypeId × Value → H) :
    ReturnsInHanded {} Try.checked os 3 .any (Rows.queuePlaysSpec.pre6 enc Try.prog Try.f3 Rows.queuePlaysRow.domain false) (Rows.queuePlaysSpec.post enc Try.prog Try.f3 false true false false) := by
  refine returnsInHanded_of_change (C := Try.checked) own started (by kernel_rfl) Try.func3
    (ChangeSpec.witness6 (enc := enc) (C := Try.checked) false ⟨#[], #[.slice none 0 0], []⟩ 8 (by kernel_rfl) (by kernel_rfl) (by kernel_rfl) (by kernel_rfl)) ?_
  intro W base args ds gs before hval0 hW hcnd _
  have hval : ∀ (j : Nat) t v, Try.f3.params[j]? = some t → args[j]? = some v → Value.okWide Try.prog W .any base t v := hval0
  have hW' := hW
  obtain ⟨p, q, hA0, hV, rfl, hfz, hnd⟩ := hW
  have hA : DataW.TrodAll enc Try.prog W 0 (fun _ => true) true Try.f3.params.toList args.toList ds p := hA0
  rw [Try.params3] at hA hval
  obtain ⟨v0, vs0, d0, ds0, p0, q0, hargs, rfl, rfl, h0, r0⟩ := trodAll_cons hA
  obtain ⟨rfl, rfl, rfl⟩ := trodAll_nil r0
  obtain rfl : args = #[v0] := by cases args; simp_all
  obtain ⟨rfl, rfl⟩ := trodVars_none hV
  obtain ⟨a0, r0', w0, _⟩ := open_sl (K := ek_law14_Deed) pa_law14_Deed Try.underlying22 (by kernel_rfl) (hval 0 22 v0 rfl rfl) h0
  obtain ⟨k, hk⟩ := ok a0 w0
  refine (Ct.law (law14_QueuePlays.ct _ _ a0 _ hk) (W := W) r0').mono fun e W' ⟨he, hg⟩ => ?_
  subst he
  exact ⟨_, rfl, law_post hW' laidOut (by kernel_rfl) hg (by kernel_rfl) Try.underlying4 rfl rfl⟩
theorem over : Rows.queuePlaysRow.holds Try.pinned (OpenSpec.ofChange Rows.queuePlaysSpec) :=
  OpenClaim.holds_of_wide 3 Try.f3 rfl rfl rfl rfl rfl rfl rfl ⟨rfl, rfl, rfl, rfl, rfl⟩ rfl rfl rfl rfl rfl (by kernel_rfl) Try.func3 (by kernel_rfl)
    (of_decide_eq_true (by kernel_rfl)) (by unfold Func.isWrapper; first | (rw [if_pos (by decide +kernel)]; kernel_rfl) | (rw [if_neg (by decide +kernel)]; exact ⟨rfl, rfl⟩))
    (fun os started H enc _ => lifted os started H enc)
theorem proved : Rows.QueuePlaysSaid :=
  over
#print axioms proved
end Go.Proofs.Ytaiipbflnnfaaaa.queuePlays
