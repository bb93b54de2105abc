/- The given statement 'QueueEnds' of the given program: whatever the input, the law answers true and the input reads as it did. On no condition. -/
import Derived.Test.YtaiipbflnnfaaaaFnQueueEnds0
import Derived.Test.YtaiipbflnnfaaaaSlLaw
import Derived.Test.YtaiipbflnnfaaaaP14RemoveQueueEnds
import Derived.Test.YtaiipbflnnfaaaaP14PickQueueEnds
import Derived.Test.YtaiipbflnnfaaaaRows
set_option linter.all false
namespace Go.Proofs.Ytaiipbflnnfaaaa.queueEnds
open Go.ChangeShapes Go.WideShapes Go.ChangeAt Go.RowKit Go.Sl
def wf_law14_Deed (x : law14_Deed) : Prop := (fits .i64) x.What ∧ (fits .i64) x.Obj ∧ (fits .i64) x.T
theorem pa_law14_Deed : Parse Try.prog 28 (fun x : law14_Deed => [.int .i64 x.What, .int .i64 x.Obj, .int .i64 x.T]) wf_law14_Deed := by
  intro H enc w base sp hd n cs x h
  obtain ⟨xs, m, -, -, hl, hx, hf⟩ := DataW.trod_struct Try.underlying28 h
  rw [show Try.prog.cellsOf 28 = 3 by kernel_rfl] at hl
  obtain ⟨a0, e0, w0⟩ := parse_field (i := 0) (o := 0) (sz := 1) hx hf (parse_int Try.underlying3) rfl rfl rfl (by kernel_rfl)
  obtain ⟨a1, e1, w1⟩ := parse_field (i := 1) (o := 1) (sz := 1) hx hf (parse_int Try.underlying3) rfl rfl rfl (by kernel_rfl)
  obtain ⟨a2, e2, w2⟩ := parse_field (i := 2) (o := 2) (sz := 1) hx hf (parse_int Try.underlying3) rfl rfl rfl (by kernel_rfl)
  clear hf hx h
  match cs, hl with
  | [c0, c1, c2], _ =>
    simp at e0 e1 e2
    subst e0 e1 e2
    exact ⟨⟨a0, a1, a2⟩, rfl, w0, w1, w2⟩

open Go.Proofs
theorem loop_ok (a1 : List law14_Deed) (hw : ∀ x ∈ a1, wf_law14_Deed x) (hl : a1.length ≤ 60) : ∀ (n k : Nat) (i : Int) (s : List Int), 0 ≤ i → i ≤ a1.length → (a1.length : Int) - i = n → n + 100 < k → Good s → ∃ s', law14_QueueEnds.l1 a1 k (i, s) = some (Brk.nx s') := by
  intro n
  induction n with
  | zero =>
    intro k i s h0 h1 h2 hk hs
    obtain ⟨k, rfl⟩ : ∃ q, k = q + 1 := ⟨k - 1, by omega⟩
    unfold law14_QueueEnds.l1
    rw [decide_eq_false (by omega)]
    exact ⟨s, rfl⟩
  | succ n ih =>
    intro k i s h0 h1 h2 hk hs
    obtain ⟨k, rfl⟩ : ∃ q, k = q + 1 := ⟨k - 1, by omega⟩
    unfold law14_QueueEnds.l1
    rw [decide_eq_true (by omega), cond_true]
    obtain ⟨x, hx, hm⟩ := at_some h0 (by omega : i < (a1.length : Int))
    have w := hw x hm
    have hp : law10_Pick.f x.What 4 = some (pick x.What 4) := pick_ok w.1 (by decide) (by decide)
    have hr := pick_lt x.What (n := 4) (by decide)
    have e1 : w64 (i + 1) = i + 1 := w64_id (by omega) (by omega)
    simp only [hx, hp, Option.bind_some, e1]
    generalize pick x.What 4 = p at hr
    have next := fun s (hs : Good s) => ih k (i + 1) s (by omega) (by omega) (by omega) (by omega) hs
    have hlen : ∀ s, decide ((32 : Int) < ((qlist s x.Obj).length : Int)) = false := fun s => decide_eq_false (by have := chain_len s 32 (nxt s x.Obj); unfold qlist; omega)
    have push : ∃ r s', VM.run plainI (queue_Push.f x.Obj x.T) s = some (r, s') ∧ Good s' := by
      rw [push_ok hs]; split
      · exact ⟨_, _, rfl, good_pushTo hs _ _⟩
      · exact ⟨_, _, rfl, hs⟩
    have pop : ∃ r s', VM.run plainI (queue_Pop.f x.Obj) s = some (r, s') ∧ Good s' := by
      rw [pop_ok hs]; split
      · exact ⟨_, _, rfl, hs⟩
      · exact ⟨_, _, rfl, good_popTo hs _ _⟩
    have rem : ∃ r s', VM.run plainI (queue_Remove.f k x.Obj x.T) s = some (r, s') ∧ Good s' := by
      rw [remove_ok hs k _ _ (by omega)]; split
      · exact ⟨_, _, rfl, good_removeTo hs _ _⟩
      · exact ⟨_, _, rfl, hs⟩
    obtain ⟨r1, s1, e2, g1⟩ := push
    obtain ⟨r2, s2, e3, g2⟩ := pop
    obtain ⟨r3, s3, e4, g3⟩ := rem
    rcases (by omega : p = 0 ∨ p = 1 ∨ p = 2 ∨ p = 3) with rfl | rfl | rfl | rfl
    · obtain ⟨s', h⟩ := next s1 g1
      exact ⟨s', by simp [e2, list_ok g1 k (by omega), hlen, h]⟩
    · obtain ⟨s', h⟩ := next s1 g1
      exact ⟨s', by simp [e2, list_ok g1 k (by omega), hlen, h]⟩
    · obtain ⟨s', h⟩ := next s2 g2
      exact ⟨s', by simp [e3, list_ok g2 k (by omega), hlen, h]⟩
    · obtain ⟨s', h⟩ := next s3 g3
      exact ⟨s', by simp [e4, list_ok g3 k (by omega), hlen, h]⟩
theorem ok (a0 : List Int) (a1 : List law14_Deed) (w0 : ∀ x ∈ a0, (Lit.int .u64 x).wf = true) (w1 : ∀ x ∈ a1, wf_law14_Deed x) : ∃ k, law14_QueueEnds.f k a0 a1 = some true := by
  refine ⟨2000, ?_⟩
  have hu : law14_up.f 2000 = some true := by decide +kernel
  unfold law14_QueueEnds.f
  rw [hu, Option.bind_some]
  by_cases h1 : (738 : Int) < (a0.length : Int)
  · rw [decide_eq_true h1]; rfl
  · by_cases h2 : (60 : Int) < (a1.length : Int)
    · rw [decide_eq_true h2, Bool.or_true]; rfl
    · rw [decide_eq_false h1, decide_eq_false h2, Bool.or_false, cond_false]
      obtain ⟨z, hm, hz1, hz2⟩ : ∃ z : List Int, mk_ (0 : Int) 738 = some z ∧ z.length = 738 ∧ ∀ x ∈ z, x = 0 := ⟨List.replicate 738 0, by unfold mk_; rfl, List.length_replicate, fun x hx => List.eq_of_mem_replicate hx⟩
      have hg : Good (cpy z a0) := by
        have hlen : (cpy z a0).length = 738 := by unfold cpy; simp [hz1]; omega
        have hall : ∀ x ∈ cpy z a0, 0 ≤ x := by
          intro x hx
          unfold cpy at hx
          rcases List.mem_append.1 hx with h | h
          · exact (fits_u64 (w0 x (List.mem_of_mem_take h))).1
          · have := hz2 x (List.mem_of_mem_drop h)
            omega
        refine ⟨hlen, fun j => ?_⟩
        rw [List.getD]
        cases e : (cpy z a0)[j]? with
        | none => simp
        | some x => have := hall x (List.mem_of_getElem? e); simpa using this
      rw [hm, Option.bind_some]
      obtain ⟨s', h⟩ := loop_ok a1 w1 (by omega) a1.length 2000 0 _ (by decide) (by omega) (by omega) (by omega) hg
      rw [h]; rfl

theorem own : ownKnob Try.prog.godebug = none := by kernel_rfl
theorem laidOut : laidOutB Try.prog = true := by kernel_rfl
set_option maxRecDepth 100000 in
theorem lifted (os : Os) (started : os.Started) (H : Type) (enc : TypeId × Value → H) :
    ReturnsInHanded {} Try.checked os 4 .any (Rows.queueEndsSpec.pre6 enc Try.prog Try.f4 Rows.queueEndsRow.domain false) (Rows.queueEndsSpec.post enc Try.prog Try.f4 false true false false) := by
  refine returnsInHanded_of_change (C := Try.checked) own started (by kernel_rfl) Try.func4
    (ChangeSpec.witness6 (enc := enc) (C := Try.checked) false ⟨#[], #[.slice none 0 0, .slice none 0 0], []⟩ 8 (by kernel_rfl) (by kernel_rfl) (by kernel_rfl) (by kernel_rfl)) ?_
  intro W base args ds gs before hval0 hW hcnd _
  have hval : ∀ (j : Nat) t v, Try.f4.params[j]? = some t → args[j]? = some v → Value.okWide Try.prog W .any base t v := hval0
  have hW' := hW
  obtain ⟨p, q, hA0, hV, rfl, hfz, hnd⟩ := hW
  have hA : DataW.TrodAll enc Try.prog W 0 (fun _ => true) true Try.f4.params.toList args.toList ds p := hA0
  rw [Try.params4] at hA hval
  obtain ⟨v0, vs0, d0, ds0, p0, q0, hargs, rfl, rfl, h0, r0⟩ := trodAll_cons hA
  obtain ⟨v1, vs1, d1, ds1, p1, q1, rfl, rfl, rfl, h1, r1⟩ := trodAll_cons r0
  obtain ⟨rfl, rfl, rfl⟩ := trodAll_nil r1
  obtain rfl : args = #[v0, v1] := by cases args; simp_all
  obtain ⟨rfl, rfl⟩ := trodVars_none hV
  obtain ⟨a0, r0', w0, _⟩ := open_sl (K := ekI .u64) (parse_int Try.underlying40) Try.underlying24 (by kernel_rfl) (hval 0 24 v0 rfl rfl) h0
  obtain ⟨a1, r1', w1, _⟩ := open_sl (K := ek_law14_Deed) pa_law14_Deed Try.underlying22 (by kernel_rfl) (hval 1 22 v1 rfl rfl) h1
  obtain ⟨k, hk⟩ := ok a0 a1 w0 w1
  refine (Ct.law (law14_QueueEnds.ct _ _ _ a0 a1 _ hk) (W := W) ⟨r0', r1'⟩).mono fun e W' ⟨he, hg⟩ => ?_
  subst he
  exact ⟨_, rfl, law_post hW' laidOut (by kernel_rfl) hg (by kernel_rfl) Try.underlying4 rfl rfl⟩
theorem over : Rows.queueEndsRow.holds Try.pinned (OpenSpec.ofChange Rows.queueEndsSpec) :=
  OpenClaim.holds_of_wide 4 Try.f4 rfl rfl rfl rfl rfl rfl rfl ⟨rfl, rfl, rfl, rfl, rfl⟩ rfl rfl rfl rfl rfl (by kernel_rfl) Try.func4 (by kernel_rfl)
    (of_decide_eq_true (by kernel_rfl)) (by unfold Func.isWrapper; first | (rw [if_pos (by decide +kernel)]; kernel_rfl) | (rw [if_neg (by decide +kernel)]; exact ⟨rfl, rfl⟩))
    (fun os started H enc _ => lifted os started H enc)
theorem proved : Rows.QueueEndsSaid :=
  over
#print axioms proved
end Go.Proofs.Ytaiipbflnnfaaaa.queueEnds
