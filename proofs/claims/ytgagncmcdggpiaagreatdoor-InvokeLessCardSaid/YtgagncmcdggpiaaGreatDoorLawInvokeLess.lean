/- The given statement 'InvokeLessCardSaid' of the given program: whatever the input, the law answers true and the input reads as it did; the listed variable is tied to the program's text. On no condition. -/
import Derived.Test.YtgagncmcdggpiaaGreatDoorFnInvokeLess4
import Derived.Test.YtgagncmcdggpiaaGreatDoorFr1
import Derived.Test.YtgagncmcdggpiaaGreatDoorPlInvokeLess1
import Derived.Test.YtgagncmcdggpiaaGreatDoorRows
import Derived.Test.YtgagncmcdggpiaaGreatDoorTie
import Derived.Test.YtgagncmcdggpiaaGreatDoorCards
import Derived.SevenTiedAt
import Derived.ChangeSame
import Derived.LaidLaws
import Derived.LaidHandle
import Derived.Stop.Joined
set_option linter.all false
namespace Go.Proofs.YtgagncmcdggpiaaGreatDoor.invokeLess
open Go.ChangeShapes Go.WideShapes Go.ChangeAt Go.RowKit Go.Sl
def wf_api_Call (x : api_Call) : Prop := (fits .i64) x.Op ∧ (fits .i64) x.Cap ∧ (fits .i64) x.A ∧ (fits .i64) x.B ∧ (fits .i64) x.C ∧ (fits .i64) x.D
theorem pa_api_Call : Parse Tryz.prog 30 (fun x : api_Call => [.int .i64 x.Op, .int .i64 x.Cap, .int .i64 x.A, .int .i64 x.B, .int .i64 x.C, .int .i64 x.D]) wf_api_Call := by
  intro H enc w base sp hd n cs x h
  obtain ⟨xs, m, -, -, hl, hx, hf⟩ := DataW.trod_struct Tryz.underlying30 h
  rw [show Tryz.prog.cellsOf 30 = 6 by kernel_rfl] at hl
  obtain ⟨a0, e0, w0⟩ := parse_field (i := 0) (o := 0) (sz := 1) hx hf (parse_int Tryz.underlying3) rfl rfl rfl (by kernel_rfl)
  obtain ⟨a1, e1, w1⟩ := parse_field (i := 1) (o := 1) (sz := 1) hx hf (parse_int Tryz.underlying3) rfl rfl rfl (by kernel_rfl)
  obtain ⟨a2, e2, w2⟩ := parse_field (i := 2) (o := 2) (sz := 1) hx hf (parse_int Tryz.underlying3) rfl rfl rfl (by kernel_rfl)
  obtain ⟨a3, e3, w3⟩ := parse_field (i := 3) (o := 3) (sz := 1) hx hf (parse_int Tryz.underlying3) rfl rfl rfl (by kernel_rfl)
  obtain ⟨a4, e4, w4⟩ := parse_field (i := 4) (o := 4) (sz := 1) hx hf (parse_int Tryz.underlying3) rfl rfl rfl (by kernel_rfl)
  obtain ⟨a5, e5, w5⟩ := parse_field (i := 5) (o := 5) (sz := 1) hx hf (parse_int Tryz.underlying3) rfl rfl rfl (by kernel_rfl)
  clear hf hx h
  match cs, hl with
  | [c0, c1, c2, c3, c4, c5], _ =>
    simp at e0 e1 e2 e3 e4 e5
    subst e0 e1 e2 e3 e4 e5
    exact ⟨⟨a0, a1, a2, a3, a4, a5⟩, rfl, w0, w1, w2, w3, w4, w5⟩

def wf_law21_Deed (x : law21_Deed) : Prop := (fits .i64) x.T ∧ wf_api_Call x.C
theorem pa_law21_Deed : Parse Tryz.prog 32 (fun x : law21_Deed => [.int .i64 x.T, .int .i64 x.C.Op, .int .i64 x.C.Cap, .int .i64 x.C.A, .int .i64 x.C.B, .int .i64 x.C.C, .int .i64 x.C.D]) wf_law21_Deed := by
  intro H enc w base sp hd n cs x h
  obtain ⟨xs, m, -, -, hl, hx, hf⟩ := DataW.trod_struct Tryz.underlying32 h
  rw [show Tryz.prog.cellsOf 32 = 7 by kernel_rfl] at hl
  obtain ⟨a0, e0, w0⟩ := parse_field (i := 0) (o := 0) (sz := 1) hx hf (parse_int Tryz.underlying3) rfl rfl rfl (by kernel_rfl)
  obtain ⟨a1, e1, w1⟩ := parse_field (i := 1) (o := 1) (sz := 6) hx hf pa_api_Call rfl rfl rfl (by kernel_rfl)
  clear hf hx h
  match cs, hl with
  | [c0, c1, c2, c3, c4, c5, c6], _ =>
    simp at e0 e1
    simp_all only []
    exact ⟨⟨a0, a1⟩, rfl, w0, w1⟩

open Go.Proofs
theorem app_nil {l : List Int} (h : l.length ≤ 1000) : app ([] : List Int) l = some l := by
  have e9 : ([] : List Int).length + l.length ≤ 4294967296 := by simp; omega
  unfold app; rw [decide_eq_true e9]; rfl
theorem at_w {l : List Int} {i : Int} (h : 0 ≤ i) (h2 : i < (l.length : Int)) : at_ l i = some (l.getD i.toNat 0) := by
  unfold at_
  rw [decide_eq_true h, cond_true, List.getD, List.getElem?_eq_getElem (by omega)]; rfl
theorem same_l1 (a : List Int) (hl : a.length ≤ 100000) : ∀ (m k : Nat) (i : Int), 0 ≤ i → i ≤ a.length → (a.length : Int) - i = m → m < k → ref10_Same.l1 a a k i = some (Brk.nx ()) := by
  intro m
  induction m with
  | zero =>
    intro k i h0 h1 h2 hk
    obtain ⟨k, rfl⟩ : ∃ q, k = q + 1 := ⟨k - 1, by omega⟩
    unfold ref10_Same.l1
    rw [decide_eq_false (by omega), cond_false]
  | succ m ih =>
    intro k i h0 h1 h2 hk
    obtain ⟨k, rfl⟩ : ∃ q, k = q + 1 := ⟨k - 1, by omega⟩
    unfold ref10_Same.l1
    rw [decide_eq_true (by omega), cond_true, at_w h0 (by omega), Option.bind_some, Option.bind_some, bne_self_eq_false, cond_false, w64_id (by omega) (by omega)]
    exact ih k (i + 1) (by omega) (by omega) (by omega) (by omega)
theorem same_ok {a : List Int} (hl : a.length = 738) {k : Nat} (hk : 740 ≤ k) : ref10_Same.f k a a = some true := by
  unfold ref10_Same.f
  rw [bne_self_eq_false, cond_false, same_l1 a (by omega) 738 k 0 (by decide) (by omega) (by omega) (by omega)]; rfl
theorem ne0_true {n : Int} (h : n ≠ 0) : (n != 0) = true := by simpa using h
theorem ne0_false {n : Int} (h : n = 0) : (n != 0) = false := by simpa using h
theorem cap_k {v : List Int} (g : GoodU v) (i : Int) {k : Nat} (hk : 40 ≤ k) : VM.run plainI (cspace_Cap.f k i) v = some (capAt v i, v) := by
  obtain ⟨k, rfl⟩ : ∃ q, k = q + 40 := ⟨k - 40, by omega⟩
  exact cap_ok g k i
/-- Looked for among all that were had. -/
theorem l4_ok {v : List Int} (g : GoodU v) (c : api_Cap) : ∀ (m k : Nat) (i : Int) (b : Bool), 0 ≤ i → i + m = 96 → m + 50 < k → (b = true ∨ ∃ j, i ≤ j ∧ j < 96 ∧ law21_within.f c (capAt v j) = some true) → law21_InvokeLess.l4 c k (i, b, v) = some (true, v) := by
  intro m
  induction m with
  | zero =>
    intro k i b h0 h1 hk h
    obtain ⟨k, rfl⟩ : ∃ q, k = q + 1 := ⟨k - 1, by omega⟩
    unfold law21_InvokeLess.l4
    rw [decide_eq_false (by omega), cond_false]
    rcases h with h | ⟨j, j0, j1, _⟩
    · rw [h]
    · omega
  | succ m ih =>
    intro k i b h0 h1 hk h
    obtain ⟨k, rfl⟩ : ∃ q, k = q + 1 := ⟨k - 1, by omega⟩
    have e1 : w64 (i + 1) = i + 1 := w64_id (by omega) (by omega)
    unfold law21_InvokeLess.l4
    rw [decide_eq_true (by omega), cond_true, e1]
    cases b with
    | true =>
      rw [cond_true, Option.bind_some]
      exact ih k (i + 1) true (by omega) (by omega) (by omega) (.inl rfl)
    | false =>
      rw [cond_false, cap_k g i (by omega), Option.bind_some]
      obtain ⟨w, hw⟩ : ∃ w, law21_within.f c (capAt v i) = some w := by
        unfold law21_within.f
        rw [Bool.cond_eq_ite]; split <;> exact ⟨_, rfl⟩
      simp only []
      rw [hw, Option.bind_some, Option.bind_some]
      refine ih k (i + 1) w (by omega) (by omega) (by omega) ?_
      rcases h with h | ⟨j, j0, j1, hj⟩
      · cases h
      · by_cases e : j = i
        · subst e
          rw [hw] at hj
          injection hj with hj
          exact .inl hj
        · exact .inr ⟨j, by omega, j1, hj⟩
theorem l2_ok {v v' : List Int} (g : GoodU v) (g' : GoodU v') (h : AllW (okW v) v') (n32 : v.getD 737 0 ≤ 32) : ∀ (m k : Nat) (i : Int), 0 ≤ i → i + m = 96 → m + 200 < k → law21_InvokeLess.l2 k (i, v', v) = some (Brk.nx (v', v)) := by
  intro m
  induction m with
  | zero =>
    intro k i h0 h1 hk
    obtain ⟨k, rfl⟩ : ∃ q, k = q + 1 := ⟨k - 1, by omega⟩
    unfold law21_InvokeLess.l2
    rw [decide_eq_false (by omega)]; rfl
  | succ m ih =>
    intro k i h0 h1 hk
    obtain ⟨k, rfl⟩ : ∃ q, k = q + 1 := ⟨k - 1, by omega⟩
    have e1 : w64 (i + 1) = i + 1 := w64_id (by omega) (by omega)
    have next := ih k (i + 1) (by omega) (by omega) (by omega)
    unfold law21_InvokeLess.l2
    rw [decide_eq_true (by omega), cond_true, cap_k g' i (by omega), Option.bind_some, e1]
    simp only []
    by_cases z : (capAt v' i).Kind = 0
    · have ez : ((capAt v' i).Kind == 0) = true := by simpa using z
      rw [ez, cond_true, Option.bind_some, cond_true]; exact next
    · have ez : ((capAt v' i).Kind == 0) = false := by simpa using z
      have hl := g.1.1
      have no := g.1.2 737
      have n1 : at_ v 737 = some (v.getD 737 0) := at_w (by decide) (by omega)
      rw [ez, cond_false, n1, Option.bind_some, Option.bind_some, w64_id (by omega) (by omega)]
      by_cases q : v.getD 737 0 ≤ (capAt v' i).Obj
      · rw [decide_eq_true q, cond_true]; exact next
      · have hc : okC v (capAt v' i) := by
          have := (h.2 (5 * i) (by omega) (by omega)).2.1 (by omega) (by omega) (by omega)
          unfold capAt
          rw [if_pos ⟨by omega, by omega, by decide, by decide⟩]
          exact this
        obtain ⟨j, j0, j1, k1, k2, k3⟩ := hc.resolve_left z |>.resolve_left q
        have hw : law21_within.f (capAt v' i) (capAt v j) = some true := by
          unfold law21_within.f
          rw [k1, k2, beq_self_eq_true, beq_self_eq_true, Bool.and_self, cond_true, Option.bind_some, k3, beq_self_eq_true]
        rw [decide_eq_false q, cond_false, l4_ok g (capAt v' i) 96 k 0 false (by decide) (by decide) (by omega) (.inr ⟨j, j0, j1, hw⟩), Option.bind_some]
        exact next
theorem l1_ok (a1 : List law21_Deed) (hl : a1.length ≤ 60) : ∀ (m k : Nat) (i : Int) (v o : List Int), 0 ≤ i → i + m = a1.length → m + 1600 < k → GoodU v → v.getD 737 0 ≤ 32 → GoodU o → ∃ v' o', law21_InvokeLess.l1 a1 k (i, v, o) = some (Brk.nx (o', v')) := by
  intro m
  induction m with
  | zero =>
    intro k i v o h0 h1 hk gv n32 g
    obtain ⟨k, rfl⟩ : ∃ q, k = q + 1 := ⟨k - 1, by omega⟩
    unfold law21_InvokeLess.l1
    rw [decide_eq_false (by omega)]
    exact ⟨v, o, rfl⟩
  | succ m ih =>
    intro k i v o h0 h1 hk gv n32 g
    obtain ⟨k, rfl⟩ : ∃ q, k = q + 1 := ⟨k - 1, by omega⟩
    obtain ⟨x, hx, hm⟩ := at_some h0 (by omega : i < (a1.length : Int))
    have e1 : w64 (i + 1) = i + 1 := w64_id (by omega) (by omega)
    obtain ⟨r0, b0, o', s0, g', bad0⟩ := Do_any wc_any (all_any g) x.T x.C (k := k) (by omega)
    obtain ⟨r, b, v', s2, A', bad⟩ := Do_any (wc_less v) (okW_self gv n32) x.T x.C (k := k) (by omega)
    have go' := g'.good wc_any.u
    have gv' := A'.good (wc_less v).u
    have n' : v'.getD 737 0 ≤ 32 := ((A'.2 737 (by decide) (by decide)).2.2 rfl).2
    have len := gv.1.1
    obtain ⟨v2, o2, n2⟩ := ih k (i + 1) v' o' (by omega) (by omega) (by omega) gv' n' go'
    refine ⟨v2, o2, ?_⟩
    unfold law21_InvokeLess.l1
    rw [decide_eq_true (by omega), cond_true, app_nil (by rw [g.1.1]; decide), Option.bind_some, hx, Option.bind_some, Option.bind_some, s0, Option.bind_some]
    simp only []
    have f0 : (bif r0.Code != 0 then ((bif b0 then (some true) else ((ref10_Same.f k o o').bind fun t54 => some (!t54))).bind fun c52 => some c52) else (some false)) = some false := by
      by_cases z : r0.Code = 0
      · rw [ne0_false z]; rfl
      · obtain ⟨q1, q2⟩ := bad0 z
        rw [ne0_true z, q1, q2, same_ok g.1.1 (by omega)]; rfl
    rw [f0, Option.bind_some, cond_false, app_nil (by rw [len]; decide), Option.bind_some, Option.bind_some, Option.bind_some, s2, Option.bind_some]
    simp only []
    by_cases z : r.Code = 0
    · rw [ne0_false z, cond_false, l2_ok gv gv' A' n32 96 k 0 (by decide) (by decide) (by omega), Option.bind_some]
      simp only [Brk.go]
      rw [e1]; exact n2
    · obtain ⟨q1, q3⟩ := bad z
      rw [ne0_true z, cond_true, q1, cond_false, q3, same_ok len (by omega), Option.bind_some, Option.bind_some, Bool.not_true, cond_false, e1, ← q3]
      exact n2
theorem ok (a0 : Int) (a1 : List law21_Deed) (a2 : List Int) (w0 : (Lit.int .i64 a0).wf = true) (w1 : ∀ x ∈ a1, wf_law21_Deed x) (w2 : ∀ x ∈ a2, (Lit.int .u64 x).wf = true) : ∃ k, law21_InvokeLess.f k a0 a1 a2 = some true := by
  refine ⟨2000, ?_⟩
  unfold law21_InvokeLess.f
  rw [up21, Option.bind_some]
  by_cases h1 : 1 ≤ a0 ∧ a0 ≤ 7 ∧ a1.length ≤ 60 ∧ a2.length ≤ 738
  · have e : (decide (a0 < 1) || decide (7 < a0) || decide (60 < (a1.length : Int)) || decide (738 < (a2.length : Int))) = false := by simp; omega
    obtain ⟨t, w, hB, hw, gw, n32⟩ := bw_ok (n := a0) (by omega)
    obtain ⟨z, hm, hz1, hz2⟩ : ∃ z : List Int, mk_ (0 : Int) 738 = some z ∧ z.length = 738 ∧ ∀ x ∈ z, x = 0 := ⟨List.replicate 738 0, by unfold mk_; rfl, List.length_replicate, fun x hx => List.eq_of_mem_replicate hx⟩
    have hg : GoodU (cpy z a2) := by
      have hlen : (cpy z a2).length = 738 := by unfold cpy; simp [hz1]; omega
      have hall : ∀ x ∈ cpy z a2, 0 ≤ x ∧ x ≤ 18446744073709551615 := by
        intro x hx
        unfold cpy at hx
        rcases List.mem_append.1 hx with h | h
        · exact fits_u64 (w2 x (List.mem_of_mem_take h))
        · have := hz2 x (List.mem_of_mem_drop h)
          omega
      have key : ∀ j, 0 ≤ (cpy z a2).getD j 0 ∧ (cpy z a2).getD j 0 ≤ 18446744073709551615 := fun j => by
        rw [List.getD]
        cases e : (cpy z a2)[j]? with
        | none => decide
        | some x => exact hall x (List.mem_of_getElem? e)
      exact ⟨⟨hlen, fun j => (key j).1⟩, fun j => (key j).2⟩
    obtain ⟨v2, o2, g1⟩ := l1_ok a1 h1.2.2.1 a1.length 2000 0 w _ (by decide) (by omega) (by omega) gw n32 hg
    have hp : law10_Pick.f (-1) 3 = some 0 := by decide +kernel
    rw [e, cond_false, hB, Option.bind_some, hw, Option.bind_some, hm, Option.bind_some, g1, Option.bind_some]
    simp only [Brk.go, cond_true]
    rw [hp]; rfl
  · have e : (decide (a0 < 1) || decide (7 < a0) || decide (60 < (a1.length : Int)) || decide (738 < (a2.length : Int))) = true := by
      rw [← Bool.not_eq_false]; simp; omega
    rw [e]; rfl

theorem own : ownKnob Tryz.prog.godebug = none := by kernel_rfl
theorem laidOut : laidOutB Tryz.prog = true := by kernel_rfl
theorem etG : Tryz.prog.globalNamed "errors.errorType" = some 0 := by kernel_rfl
theorem rtG : (Tryz.prog.cutTypes.find? (·.1 == "internal/reflectlite.rtype")).map (·.2) = some 178 := by kernel_rfl
theorem oneRow : ((List.range 254).filter fun t => Tryz.prog.rowNamed t [101, 114, 114, 111, 114]) = [74] := by kernel_rfl
theorem sizeT : Tryz.prog.types.size = 254 := by kernel_rfl
/-- What the condition gives: the variable may be read. -/
theorem rdG_of {W : World} (h : laidMetH Tryz.prog [("errors.errorType", Rows.laid_errors_errorType)] W) : RdG (Whole W) := by
  have h' : laidMet Tryz.prog [] W ∧ handlesMet Tryz.prog [("errors.errorType", Rows.laid_errors_errorType)] W := h
  obtain ⟨name, u, ty, e1, e2, e3, e4, e5⟩ := h'.2 _ (List.mem_singleton.2 rfl)
  have en : name = [101, 114, 114, 111, 114] := (Option.some.inj e1).symm
  subst en
  obtain rfl := Option.some.inj (rtG.symm.trans e2)
  have hm : ty ∈ (List.range 254).filter fun t => Tryz.prog.rowNamed t [101, 114, 114, 111, 114] := List.mem_filter.2 ⟨List.mem_range.2 (by rw [← sizeT]; exact e3), e4⟩
  rw [oneRow] at hm
  obtain rfl := List.mem_singleton.1 hm
  have hh : typeHandle Tryz.prog 74 = .pointer (some ⟨1, 74, none⟩) := by kernel_rfl
  rw [hh] at e5
  have hc : W.cell? ⟨0, 0, none⟩ = some (.iface 178 (.agg #[.pointer (some ⟨1, 74, none⟩)])) := by simpa using World.var?_cell etG e5 0
  obtain ⟨-, all, E, fr, hall, h0⟩ := cell_whole hc
  exact fun m hm => ⟨all, E, fr, hm 0 _ hall, h0⟩
noncomputable def laidWorld (os : Os) : World :=
  let w0 := World.holding Tryz.prog os ⟨#[], #[], []⟩
  { w0 with heap := w0.heap.modify 0 fun
      | .cells _ t frozen => .cells #[.iface 178 (.agg #[.pointer (some ⟨1, 74, none⟩)])] t frozen
      | o => o }
theorem laidWorld_met (os : Os) (args : Array Value) : laidMetH Tryz.prog [("errors.errorType", Rows.laid_errors_errorType)] ((laidWorld os).forCall (fun _ _ => 0) ⟨#[], args, []⟩).memory :=
  laidMetH_of_parts (laidMet_nil _ _) (by kernel_rfl)
set_option maxRecDepth 100000 in
theorem lifted (os : Os) (started : os.Started) (H : Type) (enc : TypeId × Value → H) :
    ReturnsInHanded {} Tryz.checked os 4 .any (fun w args => (Rows.invokeLessSpec.pre enc Tryz.prog Tryz.f4 [] false w args ∧ laidMetH Tryz.prog [("errors.errorType", Rows.laid_errors_errorType)] w) ∧ sizedMet enc Tryz.prog Tryz.f4 (OpenSpec.ofChange Rows.invokeLessSpec) false w args)
      (Rows.invokeLessSpec.post enc Tryz.prog Tryz.f4 false true false false) := by
  refine returnsInHanded_of_change_and (C := Tryz.checked) (X := fun w _ => laidMetH Tryz.prog [("errors.errorType", Rows.laid_errors_errorType)] w) (fun _ _ _ hh h => h.of_heap hh) own started (by kernel_rfl) Tryz.func4
    (ChangeSpec.witness_at (enc := enc) (C := Tryz.checked) (os := os) (X := fun w _ => laidMetH Tryz.prog [("errors.errorType", Rows.laid_errors_errorType)] w) false (laidWorld os) #[.int .i64 0, .slice none 0 0, .slice none 0 0] 8 rfl (by kernel_rfl) (by kernel_rfl) (by kernel_rfl) (by kernel_rfl) (by kernel_rfl) (laidWorld_met os _)) ?_
  intro W base args ds gs before hval0 hW _ _ hL _
  have hG : RdG (Whole W) := rdG_of hL
  have hval : ∀ (j : Nat) t v, Tryz.f4.params[j]? = some t → args[j]? = some v → Value.okWide Tryz.prog W .any base t v := hval0
  have hW' := hW
  obtain ⟨p, q, hA0, hV, rfl, hfz, hnd⟩ := hW
  have hA : DataW.TrodAll enc Tryz.prog W 0 (fun _ => true) true Tryz.f4.params.toList args.toList ds p := hA0
  rw [Tryz.params4] at hA hval
  obtain ⟨v0, vs0, d0, ds0, p0, q0, hargs, rfl, rfl, h0, r0⟩ := trodAll_cons hA
  obtain ⟨v1, vs1, d1, ds1, p1, q1, rfl, rfl, rfl, h1, r1⟩ := trodAll_cons r0
  obtain ⟨v2, vs2, d2, ds2, p2, q2, rfl, rfl, rfl, h2, r2⟩ := trodAll_cons r1
  obtain ⟨rfl, rfl, rfl⟩ := trodAll_nil r2
  obtain rfl : args = #[v0, v1, v2] := by cases args; simp_all
  obtain ⟨rfl, rfl⟩ := trodVars_none hV
  obtain ⟨a0, rfl, rfl, rfl, w0⟩ := open_int Tryz.underlying3 (hval 0 3 v0 rfl rfl) h0
  obtain ⟨a1, r1', w1, _⟩ := open_sl (K := ek_law21_Deed) pa_law21_Deed Tryz.underlying22 (by kernel_rfl) (hval 1 22 v1 rfl rfl) h1
  obtain ⟨a2, r2', w2, _⟩ := open_sl (K := ekI .u64) (parse_int Tryz.underlying55) Tryz.underlying26 (by kernel_rfl) (hval 2 26 v2 rfl rfl) h2
  obtain ⟨k, hk⟩ := ok a0 a1 a2 w0 w1 w2
  refine (Ct.law (law21_InvokeLess.ct _ _ _ a0 a1 a2 _ hk) (W := W) ⟨r1', r2', hG⟩).mono fun e W' ⟨he, hg⟩ => ?_
  subst he
  exact ⟨_, rfl, law_post hW' laidOut (by kernel_rfl) hg (by kernel_rfl) Tryz.underlying4 rfl rfl⟩
theorem over : Rows.invokeLessRow.holds Tryz.pinned (OpenSpec.ofChange Rows.invokeLessSpec) :=
  OpenClaim.holds_of_wide 4 Tryz.f4 rfl rfl rfl rfl rfl rfl rfl ⟨rfl, rfl, rfl, rfl, rfl⟩ rfl rfl rfl rfl rfl (by kernel_rfl) Tryz.func4 (by kernel_rfl)
    (of_decide_eq_true (by kernel_rfl)) (by unfold Func.isWrapper; first | (rw [if_pos (by decide +kernel)]; kernel_rfl) | (rw [if_neg (by decide +kernel)]; exact ⟨rfl, rfl⟩))
    (fun os started H enc _ => lifted os started H enc)
theorem proved : Rows.InvokeLessCardSaid :=
  Claim7.holds_tied_plain_at .later [] [.handle] true (true, "789d1ffe00b5726eb21cca58125165bddbb4964a61ac6a5d56923a2e7dcb19cb") true
    over (fun _ h => by cases h) (by kernel_rfl) (fun _ h => by cases h) invokeLess_row_tie rfl ⟨rfl, rfl⟩ (by kernel_rfl) rfl
    (fun f fn hf hfn => by
      obtain rfl : f = 4 := Option.some.inj ((show Tryz.prog.funcNamed "padstone/padstonelaw21.InvokeLess" = some 4 by kernel_rfl).symm.trans hf) |>.symm
      obtain rfl : fn = Tryz.f4 := (Option.some.inj (Tryz.func4.symm.trans hfn)).symm
      exact ⟨by kernel_rfl, fun j t ht => by
        rw [Tryz.params4] at ht
        have hm : t ∈ [3, 22, 26] := by simpa using Array.mem_of_getElem? ht
        have hall : ([3, 22, 26].all fun u => !Tryz.prog.wantsStandIn u) = true := by kernel_rfl
        exact (show Tryz.prog.wantsStandIn t = false by simpa using List.all_eq_true.1 hall t hm)⟩)
    (by kernel_rfl)
#print axioms proved
end Go.Proofs.YtgagncmcdggpiaaGreatDoor.invokeLess
