/- What the functions that StmSerial reaches come to, and that they do. On no condition. -/
import Derived.Test.YtmodeilahcbidaaFnStmSerial0
set_option linter.all false
namespace Go.Proofs
open Go.Sl Go.RowKit
/-! 6 padstone/padstonelaw08.small -/
def law08_small.l2 (a0 : List (List (List law06_Op))) (x3_1 : Int) : Nat → Int → Option (Brk Bool Unit)
  | 0, _ => none
  | k + 1, x4_2 => (at_ a0 x3_1).bind fun x8 => bif decide (x4_2 < (x8.length : Int)) then ((at_ a0 x3_1).bind fun x14 => (at_ x14 x4_2).bind fun x19 => bif decide (12 < (x19.length : Int)) then (some (Brk.ret false)) else (law08_small.l2 a0 x3_1 k (w64 (x4_2 + 1)))) else (some (Brk.nx ()))
def law08_small.l1 (a0 : List (List (List law06_Op))) : Nat → Int → Option (Brk Bool Unit)
  | 0, _ => none
  | k + 1, x3_1 => bif decide (x3_1 < (a0.length : Int)) then ((at_ a0 x3_1).bind fun x2 => bif decide (8 < (x2.length : Int)) then (some (Brk.ret false)) else ((law08_small.l2 a0 x3_1 k 0).bind fun o2 => Brk.go o2 (fun r => some (Brk.ret r)) (fun _ => law08_small.l1 a0 k (w64 (x3_1 + 1))))) else (some (Brk.nx ()))
def law08_small.f (k : Nat) (a0 : List (List (List law06_Op))) : Option (Bool) :=
  (law08_small.l1 a0 k 0).bind fun o1 => Brk.go o1 (fun r => some r) (fun _ => some (decide ((a0.length : Int) ≤ 5)))
set_option maxHeartbeats 8000000 in
set_option maxRecDepth 100000 in
theorem law08_small.ct (k : Nat) (v0 : Value) (a0 : List (List (List law06_Op))) (r0 : Bool) (h : law08_small.f k a0 = some r0) :
    Ct Try.prog 6 [v0] (fun F => Rd3 ek_law06_Op v0 a0 F) [] (fun u H' => u = .bool r0 ∧ H' = []) := by
  unfold law08_small.f at h
  refine Ct.intro (n := 38) Try.func6 rfl rfl rfl ?_
  intro R w0 F hF hR
  have hF0 := hF
  obtain ⟨vs0, hF0, hl0, hR0⟩ := hF0
  refine S.seq ?_
  refine S.region ?_
  refine SO.v rfl (opv_assign rfl) ?_
  refine SO.nil ?_
  refine S.seq ?_
  refine S.seq ?_
  refine S.region ?_
  refine SO.v rfl (opv_assign rfl) ?_
  refine SO.nil ?_
  obtain ⟨o1, hlp1, h⟩ := opt_bind h
  refine S.to (ρ' := [(3, .int .i64 0), (2, .bool false), (0, v0)]) ⟨rfl, rfl, rfl, trivial⟩ ?_
  refine S.forloop (X := Int × Unit) (O := Brk Bool Unit) (fun m x => law08_small.l1 a0 m x.1) (fun x => match x with | (x3_1, _) => [(3, .int .i64 x3_1), (2, .bool false), (0, v0)]) (fun x => match x with | (x3_1, _) => [F]) (fun Sk o' => (∀ r', o' = Brk.ret r' → some r' = some r0) ∧ ∀ _ : Unit, ∀ _ : Unit, o' = Brk.nx () → Sk [(0, v0), (2, .bool false)] [F]) (fun _ => rfl) ?_ (m := k) (x := (0, ())) hlp1 ?_
  · clear h hlp1
    intro k x o_1 h hK1 ih1
    obtain ⟨x3_1, _⟩ := x
    replace h : law08_small.l1 a0 (k + 1) x3_1 = some o_1 := h
    first | rw [law08_small.l1] at h | unfold law08_small.l1 at h
    refine S.seq ?_
    refine S.seq ?_
    refine S.region ?_
    refine SO.v rfl (opv_move rfl) ?_
    refine SO.v rfl (opv_move rfl) ?_
    refine SO.v rfl (opv_len2 rfl Try.underlying23 hF0 hl0 rfl) ?_
    refine SO.v rfl (opv_lss rfl rfl) ?_
    refine SO.nil ?_
    rcases bool_or (decide (x3_1 < (a0.length : Int))) with b1 | b1
    · replace h := cond_t b1 h
      refine S.condT rfl b1 ?_
      refine S.skip ?_
      refine S.seq ?_
      refine S.block ?_
      refine S.seq ?_
      refine S.seq ?_
      refine S.region ?_
      refine SO.v rfl (opv_move rfl) ?_
      refine SO.v rfl (opv_move rfl) ?_
      obtain ⟨x2, hx3, h⟩ := opt_bind h
      obtain ⟨y4, hy5, hr6⟩ := Rd3.at_ hl0 hR0 hx3
      obtain ⟨vs106, hF106, hl106, hR106⟩ := hr6
      refine SO.v rfl (opv_idx Try.underlying23 Try.sizeOf45 hF0 rfl rfl hy5) ?_
      refine SO.loadI1 (j := 0) rfl Try.isAgg45 (Rd.head hF0) hy5 rfl rfl rfl rfl ?_
      refine SO.v rfl (opv_len2 rfl Try.underlying45 hF106 hl106 rfl) ?_
      refine SO.v rfl (opv_gtr rfl rfl) ?_
      refine SO.nil ?_
      refine S.to (ρ' := [(3, .int .i64 x3_1), (2, .bool false), (0, v0), (16, .bool (decide (8 < (x2.length : Int))))]) ⟨rfl, rfl, rfl, rfl, trivial⟩ ?_
      rcases bool_or (decide (8 < (x2.length : Int))) with b7 | b7
      · replace h := cond_t b7 h
        refine S.condT rfl b7 ?_
        refine S.seq ?_
        refine S.region ?_
        refine SO.v rfl (opv_assign rfl) ?_
        refine SO.nil ?_
        cases h
        replace h := hK1.1 _ rfl
        cases h
        exact S.ret1 Try.func6 rfl rfl (fun w hs hk => hR w _ _ ⟨rfl, rfl⟩ hs hk)
      replace h := cond_f b7 h
      refine S.condF rfl b7 ?_
      refine S.skip ?_
      refine S.seq ?_
      refine S.region ?_
      refine SO.v rfl (opv_assign rfl) ?_
      refine SO.nil ?_
      obtain ⟨o2, hlp2, h⟩ := opt_bind h
      refine S.to (ρ' := [(4, .int .i64 0), (3, .int .i64 x3_1), (2, .bool false), (0, v0)]) ⟨rfl, rfl, rfl, rfl, trivial⟩ ?_
      refine S.forloop (X := Int × Unit) (O := Brk Bool Unit) (fun m x => law08_small.l2 a0 x3_1 m x.1) (fun x => match x with | (x4_2, _) => [(4, .int .i64 x4_2), (3, .int .i64 x3_1), (2, .bool false), (0, v0)]) (fun x => match x with | (x4_2, _) => [F]) (fun Sk o' => (∀ r', o' = Brk.ret r' → some (Brk.ret r') = some o_1) ∧ ∀ _ : Unit, ∀ _ : Unit, o' = Brk.nx () → Sk [(0, v0), (2, .bool false), (3, .int .i64 x3_1)] [F]) (fun _ => rfl) ?_ (m := k) (x := (0, ())) hlp2 ?_
      · clear h hlp2
        intro k x o_2 h hK2 ih2
        obtain ⟨x4_2, _⟩ := x
        replace h : law08_small.l2 a0 x3_1 (k + 1) x4_2 = some o_2 := h
        first | rw [law08_small.l2] at h | unfold law08_small.l2 at h
        refine S.seq ?_
        refine S.seq ?_
        refine S.region ?_
        refine SO.v rfl (opv_move rfl) ?_
        refine SO.v rfl (opv_move rfl) ?_
        refine SO.v rfl (opv_move rfl) ?_
        obtain ⟨x8, hx9, h⟩ := opt_bind h
        obtain ⟨y10, hy11, hr12⟩ := Rd3.at_ hl0 hR0 hx9
        obtain ⟨vs112, hF112, hl112, hR112⟩ := hr12
        refine SO.v rfl (opv_idx Try.underlying23 Try.sizeOf45 hF0 rfl rfl hy11) ?_
        refine SO.loadI1 (j := 0) rfl Try.isAgg45 (Rd.head hF0) hy11 rfl rfl rfl rfl ?_
        refine SO.v rfl (opv_len2 rfl Try.underlying45 hF112 hl112 rfl) ?_
        refine SO.v rfl (opv_lss rfl rfl) ?_
        refine SO.nil ?_
        rcases bool_or (decide (x4_2 < (x8.length : Int))) with b13 | b13
        · replace h := cond_t b13 h
          refine S.condT rfl b13 ?_
          refine S.skip ?_
          refine S.seq ?_
          refine S.block ?_
          refine S.seq ?_
          refine S.region ?_
          refine SO.v rfl (opv_move rfl) ?_
          refine SO.v rfl (opv_move rfl) ?_
          obtain ⟨x14, hx15, h⟩ := opt_bind h
          obtain ⟨y16, hy17, hr18⟩ := Rd3.at_ hl0 hR0 hx15
          obtain ⟨vs118, hF118, hl118, hR118⟩ := hr18
          refine SO.v rfl (opv_idx Try.underlying23 Try.sizeOf45 hF0 rfl rfl hy17) ?_
          refine SO.loadI1 (j := 0) rfl Try.isAgg45 (Rd.head hF0) hy17 rfl rfl rfl rfl ?_
          refine SO.v rfl (opv_move rfl) ?_
          obtain ⟨x19, hx20, h⟩ := opt_bind h
          obtain ⟨y21, hy22, hr23⟩ := Rd2.at_ hl118 hR118 hx20
          refine SO.v rfl (opv_idx Try.underlying45 Try.sizeOf48 hF118 rfl rfl hy22) ?_
          refine SO.loadI1 (j := 0) rfl Try.isAgg48 (Rd.head hF118) hy22 rfl rfl rfl rfl ?_
          refine SO.v rfl (opv_lenR rfl Try.underlying48 hr23 rfl) ?_
          refine SO.v rfl (opv_gtr rfl rfl) ?_
          refine SO.nil ?_
          refine S.to (ρ' := [(4, .int .i64 x4_2), (3, .int .i64 x3_1), (2, .bool false), (0, v0), (34, .bool (decide (12 < (x19.length : Int))))]) ⟨rfl, rfl, rfl, rfl, rfl, trivial⟩ ?_
          rcases bool_or (decide (12 < (x19.length : Int))) with b24 | b24
          · replace h := cond_t b24 h
            refine S.condT rfl b24 ?_
            refine S.seq ?_
            refine S.region ?_
            refine SO.v rfl (opv_assign rfl) ?_
            refine SO.nil ?_
            cases h
            replace h := hK2.1 _ rfl
            cases h
            replace h := hK1.1 _ rfl
            cases h
            exact S.ret1 Try.func6 rfl rfl (fun w hs hk => hR w _ _ ⟨rfl, rfl⟩ hs hk)
          replace h := cond_f b24 h
          refine S.condF rfl b24 ?_
          refine S.skip ?_
          refine S.inBlock ?_
          refine S.region ?_
          refine SO.v rfl (opv_move rfl) ?_
          refine SO.v rfl (opv_add rfl rfl) ?_
          refine SO.v rfl (opv_assign rfl) ?_
          refine SO.nil ?_
          refine S.to ?_ (ih2 (w64 (x4_2 + 1), ()) h)
          exact ⟨rfl, rfl, rfl, rfl, trivial⟩
        replace h := cond_f b13 h
        refine S.condF rfl b13 ?_
        refine S.exit rfl ?_
        cases h
        refine S.to ?_ (hK2.2 () () rfl)
        exact ⟨rfl, rfl, rfl, trivial⟩
      refine ⟨fun r' e' => ?_, ?_⟩
      · subst e'
        have h9 := Brk.of_ret h
        exact h9
      rintro _ _ e'
      subst e'
      replace h := Brk.of_nx h
      refine S.inBlock ?_
      refine S.region ?_
      refine SO.v rfl (opv_move rfl) ?_
      refine SO.v rfl (opv_add rfl rfl) ?_
      refine SO.v rfl (opv_assign rfl) ?_
      refine SO.nil ?_
      refine S.to ?_ (ih1 (w64 (x3_1 + 1), ()) h)
      exact ⟨rfl, rfl, rfl, trivial⟩
    replace h := cond_f b1 h
    refine S.condF rfl b1 ?_
    refine S.exit rfl ?_
    cases h
    refine S.to ?_ (hK1.2 () () rfl)
    exact ⟨rfl, rfl, trivial⟩
  refine ⟨fun r' e' => ?_, ?_⟩
  · subst e'
    have h9 := Brk.of_ret h
    exact h9
  rintro _ _ e'
  subst e'
  replace h := Brk.of_nx h
  refine S.seq ?_
  refine S.region ?_
  refine SO.v rfl (opv_move rfl) ?_
  refine SO.v rfl (opv_len2 rfl Try.underlying23 hF0 hl0 rfl) ?_
  refine SO.v rfl (opv_leq rfl rfl) ?_
  refine SO.v rfl (opv_assign rfl) ?_
  refine SO.nil ?_
  cases h
  exact S.ret1 Try.func6 rfl rfl (fun w hs hk => hR w _ _ ⟨rfl, rfl⟩ hs hk)
end Go.Proofs
namespace Go.Proofs
open Go.Sl Go.RowKit
/-! 20 padstone/padstonelaw08.add -/
def law08_add.f : VM (Int) :=
  VM.rd 0 fun t1 => VM.wr 0 (wu64 (t1 + 1)) (VM.rd 0 fun t6 => VM.ret (w64 t6))
set_option maxHeartbeats 8000000 in
set_option maxRecDepth 100000 in
theorem law08_add.ct (V : VW Try.prog) (r0 : Int) (s s' : V.S) (h : VM.run V.toVI (law08_add.f ) s = some (r0, s')) :
    Ct Try.prog 20 [V.val] (fun _ => True) [V.rep s] (fun u H' => u = .int .i64 r0 ∧ H' = [V.rep s']) := by
  unfold law08_add.f at h
  refine Ct.intro (n := 14) Try.func20 rfl rfl rfl ?_
  intro R w0 F hF hR
  refine S.seq ?_
  refine S.region ?_
  refine SO.v rfl (opv_assign rfl) ?_
  refine SO.nil ?_
  refine S.seq ?_
  obtain ⟨t1, s2, hv3, h⟩ := VM.rd_some V.toVI h
  obtain ⟨s4, hv5, h⟩ := VM.wr_some V.toVI h
  refine S.draw2 (Y := fun Q => ∃ (_ _ _ _ : Unit), Q [(0, V.val), (2, .int .i64 0)] [V.rep s, F]) (Z := fun Q => ∀ (_ _ _ _ : Unit), Q [(0, V.val), (2, .int .i64 0)] [V.rep s4, F]) (T := [tS 0 (V.val), tS 2 (.int .i64 0), tR (V.rep s), tR (F), tS 3 (V.val), tS 4 (V.val), tR (V.rep s2), tS 5 (.int .u64 t1), tS 6 (.int .u64 (wu64 (t1 + 1))), tS 7 (.func (.method "Write") #[V.val] #[]), tS 8 (.func (.method "Write") #[V.val] #[]), tS 9 (V.val), tR (V.rep s4), tS 10 (.tuple #[])]) (D := [⟨[0], [], [4]⟩, ⟨[0], [], [5]⟩, ⟨[5], [2], [6, 7]⟩, ⟨[7], [], [8]⟩, ⟨[4], [], [9]⟩, ⟨[9], [], [10]⟩, ⟨[4], [], [11]⟩, ⟨[8, 11], [6], [12, 13]⟩]) (ini := [0, 1, 2, 3]) (fin := [0, 1, 12, 3]) (bf := [[], [], [1], [1, 2], [0], [0, 4], [0, 4, 5], [0, 1, 2, 3, 4, 5, 6]]) (by kernel_rfl) (by kernel_rfl) (fun Q => by kernel_rfl) (fun x w h1 h2 => ⟨(), (), (), (), EnvAll.of h1 ⟨rfl, rfl, trivial⟩, h2⟩) (fun Q => by kernel_rfl) ⟨?_, ?_, ?_, ?_, ?_, ?_, ?_, ?_, trivial⟩ ?_
  · rintro Fr _
    refine SO.v rfl (opv_move rfl) ?_
    exact SO.nilZ fun a w h1 h2 h3 h4 h5 => PZ.of h1 h3 h5 (.cons () (.cons () (.nil ⟨EnvAll.of h2 ⟨rfl, rfl, trivial⟩, h4⟩)))
  · rintro Fr _
    refine SO.v rfl (opv_move rfl) ?_
    exact SO.nilZ fun a w h1 h2 h3 h4 h5 => PZ.of h1 h3 h5 (.cons () (.cons () (.nil ⟨EnvAll.of h2 ⟨rfl, rfl, trivial⟩, h4⟩)))
  · rintro Fr _ _
    refine SO.vread' V rfl rfl rfl hv3 ?_
    exact SO.nilZ fun a w h1 h2 h3 h4 h5 => PZ.of h1 h3 h5 (.cons () (.cons () (.cons () (.nil ⟨EnvAll.of h2 ⟨rfl, rfl, trivial⟩, h4⟩))))
  · rintro Fr _
    refine SO.v rfl (opv_add rfl rfl) ?_
    exact SO.nilZ fun a w h1 h2 h3 h4 h5 => PZ.of h1 h3 h5 (.cons () (.cons () (.nil ⟨EnvAll.of h2 ⟨rfl, rfl, trivial⟩, h4⟩)))
  · rintro Fr _
    refine SO.v rfl (opv_makeFunc (fn := .method "Write") rfl rfl) ?_
    exact SO.nilZ fun a w h1 h2 h3 h4 h5 => PZ.of h1 h3 h5 (.cons () (.cons () (.nil ⟨EnvAll.of h2 ⟨rfl, rfl, trivial⟩, h4⟩)))
  · rintro Fr _
    refine SO.v rfl (opv_nilCheckW V rfl) ?_
    exact SO.nilZ fun a w h1 h2 h3 h4 h5 => PZ.of h1 h3 h5 (.cons () (.cons () (.nil ⟨EnvAll.of h2 ⟨rfl, rfl, trivial⟩, h4⟩)))
  · rintro Fr _
    refine SO.v rfl (opv_move rfl) ?_
    exact SO.nilZ fun a w h1 h2 h3 h4 h5 => PZ.of h1 h3 h5 (.cons () (.cons () (.nil ⟨EnvAll.of h2 ⟨rfl, rfl, trivial⟩, h4⟩)))
  · rintro Fr _ _ _
    refine SO.vwrite' V rfl rfl rfl rfl hv5 ?_
    exact SO.nilZ fun a w h1 h2 h3 h4 h5 => PZ.of h1 h3 h5 (.cons () (.cons () (.cons () (.cons () (.nil ⟨EnvAll.of h2 ⟨rfl, rfl, rfl, trivial⟩, h4⟩)))))
  rintro _ _ _ _
  refine S.to (ρ' := [(0, V.val), (2, .int .i64 0)]) ⟨rfl, rfl, trivial⟩ ?_
  refine S.seq ?_
  refine S.region ?_
  refine SO.v rfl (opv_move rfl) ?_
  obtain ⟨t6, s7, hv8, h⟩ := VM.rd_some V.toVI h
  refine SO.vread' V rfl rfl rfl hv8 ?_
  refine SO.v rfl (opv_conv Try.underlying46 Try.underlying3 rfl) ?_
  refine SO.v rfl (opv_assign rfl) ?_
  refine SO.nil ?_
  obtain ⟨hq, rfl⟩ := VM.ret_some V.toVI h
  cases hq
  refine S.b1 ?_
  refine S.b1 ?_
  exact S.ret1 Try.func20 rfl rfl (fun w hs hk => hR w _ _ ⟨rfl, rfl⟩ hs hk)
end Go.Proofs
set_option linter.unusedVariables false
namespace Go.Proofs
open Go.Sl Go.RowKit
theorem inf69_slices_Clone_stm_Job_stm_Job : Try.prog.info? 69 = some Try.t69 := by kernel_rfl
def slices_Clone_stm_Job_stm_Job.f {α : Type} (a0 : List α) : Option (List α) := app [] a0
set_option maxRecDepth 100000 in
theorem slices_Clone_stm_Job_stm_Job.ct {α : Type} (jv : α → Value) (hjv : ∀ a, (jv a).oneCell' = true) (v0 : Value) (a0 : List α) (r0 : List α) (h : slices_Clone_stm_Job_stm_Job.f a0 = some r0) :
    Ct Try.prog 38 [v0] (fun F => Rd (ekV jv hjv) v0 a0 F) [] (fun u H' => ∃ v_r0, u = v_r0 ∧ H' = [Own 69 (ekV jv hjv) v_r0 r0]) := by
  unfold slices_Clone_stm_Job_stm_Job.f at h
  refine Ct.intro (n := 8) Try.func38 rfl rfl rfl ?_
  intro R w0 F hF0 hR
  obtain ⟨a, cap, ⟨hv, hcap⟩, hel⟩ := hF0
  have hF0 : Rd (ekV jv hjv) v0 a0 F := ⟨a, cap, ⟨hv, hcap⟩, hel⟩
  have hv2 : ev (num 0 [v0]) (.tmp 0) = some (.slice a a0.length cap) := by rw [← hv]; rfl
  refine S.seq ?_
  refine S.region ?_
  refine SO.v rfl (opv_assign rfl) ?_
  refine SO.nil ?_
  refine S.seq ?_
  refine S.seq ?_
  refine S.region ?_
  refine SO.v rfl (opv_move rfl) ?_
  rw [show v0 = .slice a a0.length cap from hv]
  refine SO.v rfl (opv_eqlSN Try.underlying59 rfl) ?_
  rw [← hv]
  refine SO.nil ?_
  cases a with
  | none =>
    have h0 : a0 = [] := by
      cases a0 with
      | nil => rfl
      | cons x l => obtain ⟨b, off, hh, _⟩ := hel 0 x rfl; cases hh
    subst h0
    have hr : r0 = [] := by injection h with h; exact h.symm
    subst hr
    refine S.cond_true rfl ?_
    refine S.seq ?_
    refine S.region ?_
    refine SO.v rfl (opv_assign rfl) ?_
    refine SO.nil ?_
    refine S.newOwn 69 (ekV jv hjv) ?_
    exact S.ret1 Try.func38 rfl rfl (fun w hs hk => hR w _ _ ⟨_, rfl, rfl⟩ hs hk)
  | some ad =>
    refine S.cond_false rfl ?_
    refine S.skip ?_
    refine S.seq ?_
    refine S.region ?_
    refine SO.buildSlice0 (ekV jv hjv) rfl Try.underlying59 Try.sizeOf69 (fun v1 hr1 => ?_)
    refine SO.v rfl (opv_move rfl) ?_
    refine SO.append rfl Try.underlying59 Try.underlying59 inf69_slices_Clone_stm_Job_stm_Job rfl rfl rfl (by decide) rfl rfl rfl (Rd.head hF0) h (fun v2 => ?_)
    refine SO.v rfl (opv_assign rfl) ?_
    refine SO.nil ?_
    exact S.ret1 Try.func38 rfl rfl (fun w hs hk => hR w _ _ ⟨_, rfl, rfl⟩ hs hk)
end Go.Proofs
set_option linter.unusedVariables false
namespace Go.Proofs
open Go.Sl Go.RowKit

/-! 19 padstone/stm.List -/
variable {α : Type}
def stm_List.f (js : List α) : Option (List α) :=
  (slices_Clone_stm_Job_stm_Job.f js).bind fun t1 => some t1
set_option maxHeartbeats 8000000 in
set_option maxRecDepth 100000 in
theorem stm_List.ct (jv : α → Value) (hjv : ∀ a, (jv a).oneCell' = true) (vj : Value) (js rl : List α) (h : stm_List.f js = some rl) :
    Ct Try.prog 19 [vj] (fun F => Rd (ekV jv hjv) vj js F) [] (fun u H' => ∃ b vr, u = .func (.func 39) #[] #[bp b 0] ∧ H' = [Box b [vr], Own 69 (ekV jv hjv) vr rl]) := by
  unfold stm_List.f at h
  refine Ct.intro (n := 7) Try.func19 rfl rfl rfl ?_
  intro R w0 F hF hR
  refine S.seq ?_
  refine S.region ?_
  refine SO.v rfl (opv_assign rfl) ?_
  refine SO.nil ?_
  refine S.seq ?_
  refine S.region ?_
  refine SO.v rfl (opv_move rfl) ?_
  obtain ⟨t1, ht2, h⟩ := opt_bind h
  refine SO.call (pre := []) rfl Try.call38 rfl rfl rfl (slices_Clone_stm_Job_stm_Job.ct jv hjv vj _ _ ht2) (Rd.head hF) ?_
  rintro v3 _ ⟨_, rfl, rfl⟩
  refine SO.rd fun hr4 => ?_
  refine SO.alloc rfl Try.zeroValue59 rfl (fun b5 => ?_)
  refine SO.store1 Try.sizeOf59 rfl rfl (Rd.one hr4) rfl ?_
  refine SO.nil ?_
  refine S.seq ?_
  refine S.region ?_
  refine SO.v rfl (opv_makeFunc rfl rfl) ?_
  refine SO.v rfl (opv_assign rfl) ?_
  refine SO.nil ?_
  cases h
  refine S.b2 ?_
  refine S.b2 ?_
  refine S.b2 ?_
  exact S.ret1 Try.func19 rfl rfl (fun w hs hk => hR w _ _ ⟨b5, v3, rfl, rfl⟩ hs hk)
end Go.Proofs
namespace Go.Proofs
open Go.Sl Go.RowKit
/-! 7 padstone/word.New -/
def word_New.f (a0 : Int) (a1 : Int) : Option (((Option word_Store) × (Option Int))) :=
  bif ((decide (a0 < 1)) || (decide (1024 < a0))) || (decide (a1 < 1)) then (some (none, (some 1))) else ((mk_ (⟨0, 0, 0⟩ : api_Cell) a0).bind fun xs6 => some ((some (⟨xs6, a1⟩ : word_Store)), none))
set_option maxHeartbeats 8000000 in
set_option maxRecDepth 100000 in
theorem word_New.ct (a0 : Int) (a1 : Int) (r0 : Option word_Store) (r1 : Option Int) (h : word_New.f a0 a1 = some (r0, r1)) :
    Ct Try.prog 7 [.int .i64 a0, .int .u32 a1] (fun _ => True) [] (fun u H' => match r0 with | none => (u = .tuple #[.pointer none, errV 60 r1] ∧ H' = []) | some r0p => (∃ b_r0p w_r0p_l, u = .tuple #[bp b_r0p 0, errV 60 r1] ∧ H' = [Box b_r0p [w_r0p_l, .int .u32 r0p.limit], Own 88 ek_api_Cell w_r0p_l r0p.l])) := by
  unfold word_New.f at h
  refine Ct.intro (n := 22) Try.func7 rfl rfl rfl ?_
  intro R w0 F hF hR
  refine S.seq ?_
  refine S.region ?_
  refine SO.v rfl (opv_assign rfl) ?_
  refine SO.v rfl (opv_assign rfl) ?_
  refine SO.nil ?_
  refine S.seq ?_
  refine S.seq ?_
  refine S.region ?_
  refine SO.v rfl (opv_move rfl) ?_
  refine SO.v rfl (opv_lss rfl rfl) ?_
  refine SO.v rfl (opv_move rfl) ?_
  refine SO.cut 3 11 (.bool ((decide (a0 < 1)) || (decide (1024 < a0)))) [F] (fun l2 hk2 => ?_) ?_
  · rcases bool_or (decide (a0 < 1)) with b1 | b1
    · refine SO.passF rfl rfl rfl b1 rfl rfl ?_
      refine SO.passF rfl rfl rfl b1 rfl rfl ?_
      refine SO.v rfl (opv_pick_t' b1 rfl rfl) ?_
      exact hk2.fitc (m := 3) rfl (or_t b1) rfl
    refine SO.takeT rfl rfl rfl b1 ?_
    refine SO.v rfl (opv_move rfl) ?_
    refine SO.takeT rfl rfl rfl b1 ?_
    refine SO.v rfl (opv_gtr rfl rfl) ?_
    refine SO.v rfl (opv_pick_f' b1 rfl rfl) ?_
    exact hk2.fitc (m := 3) rfl (or_f b1) rfl
  refine SO.v rfl (opv_move rfl) ?_
  refine SO.cut 3 15 (.bool (((decide (a0 < 1)) || (decide (1024 < a0))) || (decide (a1 < 1)))) [F] (fun l2 hk2 => ?_) ?_
  · rcases bool_or ((decide (a0 < 1)) || (decide (1024 < a0))) with b2 | b2
    · refine SO.passF rfl rfl rfl b2 rfl rfl ?_
      refine SO.passF rfl rfl rfl b2 rfl rfl ?_
      refine SO.v rfl (opv_pick_t' b2 rfl rfl) ?_
      exact hk2.fitc (m := 3) rfl (or_t b2) rfl
    refine SO.takeT rfl rfl rfl b2 ?_
    refine SO.v rfl (opv_move rfl) ?_
    refine SO.takeT rfl rfl rfl b2 ?_
    refine SO.v rfl (opv_lss rfl rfl) ?_
    refine SO.v rfl (opv_pick_f' b2 rfl rfl) ?_
    exact hk2.fitc (m := 3) rfl (or_f b2) rfl
  refine SO.nil ?_
  rcases bool_or (((decide (a0 < 1)) || (decide (1024 < a0))) || (decide (a1 < 1))) with b3 | b3
  · replace h := cond_t b3 h
    refine S.condT rfl b3 ?_
    refine S.seq ?_
    refine S.region ?_
    refine SO.v rfl (opv_iface Try.underlying60 rfl rfl) ?_
    refine SO.v rfl (opv_assign rfl) ?_
    refine SO.v rfl (opv_assign rfl) ?_
    refine SO.nil ?_
    refine S.to (ρ' := [(4, .pointer none), (5, errV 60 (some 1))]) ⟨rfl, rfl, trivial⟩ ?_
    cases h
    exact S.ret2 Try.func7 rfl rfl rfl (fun w hs hk => hR w _ _ ⟨rfl, rfl⟩ hs hk)
  replace h := cond_f b3 h
  refine S.condF rfl b3 ?_
  refine S.skip ?_
  refine S.seq ?_
  refine S.region ?_
  refine SO.v rfl (opv_move rfl) ?_
  obtain ⟨xs6, hx7, h⟩ := opt_bind h
  refine SO.makeSlice (K := ek_api_Cell) rfl Try.underlying61 inf88 rfl rfl rfl (by decide) rfl rfl rfl hx7 (fun v4 hr5 => ?_)
  refine SO.v rfl (opv_move rfl) ?_
  have hB_ : ∀ (w : World) (u0_ : Value), u0_.oneCell' = true → (Instr.build 63 #[(0, u0_), (1, .int .u32 a1)]).run Try.prog w = .ok (.agg #[u0_, .int .u32 a1]) w := (by intro w u0_ hu0_; cases u0_ <;> first | (simp [Value.oneCell'] at hu0_; done) | kernel_rfl)
  refine SO.v rfl (opv_build (v := .agg #[v4, .int .u32 a1]) rfl (fun w => hB_ w v4 (Rd.one hr5))) ?_
  clear hB_
  refine SO.box rfl rfl rfl (fun b8 => ?_)
  refine SO.v rfl (opv_assign rfl) ?_
  refine SO.v rfl (opv_assign rfl) ?_
  refine SO.nil ?_
  refine S.to (ρ' := [(4, bp b8 0), (5, errV 60 none)]) ⟨rfl, rfl, trivial⟩ ?_
  cases h
  refine S.b2 ?_
  refine S.b2 ?_
  refine S.b2 ?_
  exact S.ret2 Try.func7 rfl rfl rfl (fun w hs hk => hR w _ _ ⟨b8, v4, rfl, rfl⟩ hs hk)
end Go.Proofs
namespace Go.Proofs
open Go.Sl Go.RowKit
/-! 15 (*padstone/word.Store).Values -/
def word_Store_Values.l1 (a0 : word_Store) : Nat → (Int × (List Int)) → Option ((List Int))
  | 0, _ => none
  | k + 1, (x11_1, x3_1) => bif decide (x11_1 < (a0.l.length : Int)) then ((at_ a0.l x11_1).bind fun x4 => (app x3_1 ([x4.Value])).bind fun zs9 => word_Store_Values.l1 a0 k (w64 (x11_1 + 1), zs9)) else (some x3_1)
def word_Store_Values.f (k : Nat) (a0 : word_Store) : Option ((List Int)) :=
  (word_Store_Values.l1 a0 k (0, [])).bind fun j3_e1 => some j3_e1
set_option maxHeartbeats 8000000 in
set_option maxRecDepth 100000 in
theorem word_Store_Values.ct (k : Nat) (bp0 : Nat) (v0_l : Value) (a0 : word_Store) (r0 : List Int) (h : word_Store_Values.f k a0 = some r0) :
    Ct Try.prog 15 [bp bp0 0] (fun _ => True) [Box bp0 [v0_l, .int .u32 a0.limit], Own 88 ek_api_Cell v0_l a0.l] (fun u H' => ∃ v_r0, u = v_r0 ∧ H' = [Own 46 (ekI .u64) v_r0 r0, Box bp0 [v0_l, .int .u32 a0.limit], Own 88 ek_api_Cell v0_l a0.l]) := by
  unfold word_Store_Values.f at h
  refine Ct.intro (n := 22) Try.func15 rfl rfl rfl ?_
  intro R w0 F hF hR
  refine S.b1 ?_
  refine S.rd fun hr1 => ?_
  refine S.seq ?_
  refine S.region ?_
  refine SO.v rfl (opv_assign rfl) ?_
  refine SO.nil ?_
  refine S.seq ?_
  refine S.region ?_
  refine SO.v rfl (opv_assign rfl) ?_
  refine SO.nil ?_
  refine S.seq ?_
  refine S.seq ?_
  refine S.region ?_
  refine SO.v rfl (opv_move rfl) ?_
  refine SO.v rfl (opv_nilCheck rfl) ?_
  refine SO.v rfl (opv_fieldAddr Try.underlying63 rfl Try.sizeOf61 rfl rfl) ?_
  refine SO.b1 ?_
  refine SO.load1 rfl Try.isAgg61 rfl rfl ?_
  refine SO.v rfl (opv_lenR rfl Try.underlying61 hr1 rfl) ?_
  refine SO.v rfl (opv_move rfl) ?_
  refine SO.nil ?_
  obtain ⟨j3_e1, hlp1, h⟩ := opt_bind h
  refine S.newOwn 46 (ekI .u64) ?_
  refine S.b3 ?_
  refine S.b3 ?_
  refine S.b3 ?_
  refine S.b3 ?_
  refine S.to (ρ' := [(11, .int .i64 0), (10, .int .i64 (a0.l.length : Int)), (9, v0_l), (3, .slice none 0 0), (2, .slice none 0 0)]) ⟨rfl, rfl, rfl, rfl, rfl, trivial⟩ ?_
  refine S.forloop (X := (Int × (List Int)) × Value) (O := (List Int)) (fun m x => word_Store_Values.l1 a0 m x.1) (fun x => match x with | ((x11_1, x3_1), v3_1) => [(11, .int .i64 x11_1), (10, .int .i64 (a0.l.length : Int)), (9, v0_l), (3, v3_1), (2, .slice none 0 0)]) (fun x => match x with | ((x11_1, x3_1), v3_1) => [Own 46 (ekI .u64) v3_1 x3_1, Box bp0 [v0_l, .int .u32 a0.limit], Own 88 ek_api_Cell v0_l a0.l, F]) (fun Sk => (fun j3_e1 => ∀ v3_e1 : Value, Sk [(2, .slice none 0 0), (3, v3_e1)] [Own 46 (ekI .u64) v3_e1 j3_e1, Box bp0 [v0_l, .int .u32 a0.limit], Own 88 ek_api_Cell v0_l a0.l, F])) (fun _ => rfl) ?_ (m := k) (x := ((0, []), .slice none 0 0)) hlp1 ?_
  · clear h hlp1
    intro k x o_1 h hK1 ih1
    obtain ⟨⟨x11_1, x3_1⟩, v3_1⟩ := x
    replace h : word_Store_Values.l1 a0 (k + 1) (x11_1, x3_1) = some o_1 := h
    first | rw [word_Store_Values.l1] at h | unfold word_Store_Values.l1 at h
    refine S.rd fun hr2 => ?_
    refine S.seq ?_
    refine S.region ?_
    refine SO.v rfl (opv_lss rfl rfl) ?_
    refine SO.nil ?_
    refine S.seq ?_
    rcases bool_or (decide (x11_1 < (a0.l.length : Int))) with b3 | b3
    · replace h := cond_t b3 h
      refine S.condT rfl b3 ?_
      refine S.skip ?_
      refine S.seq ?_
      refine S.block ?_
      refine S.seq ?_
      refine S.region ?_
      obtain ⟨x4, hx5, h⟩ := opt_bind h
      refine SO.v rfl (opv_idx Try.underlying61 Try.sizeOf88 hr1 rfl rfl hx5) ?_
      refine SO.loadIN rfl Try.isAgg88 Try.sizeOf88 (Rd.tail (Rd.tail (Rd.head hr1))) hx5 rfl rfl rfl ?_
      refine SO.alloc rfl Try.zeroValue88 rfl (fun b6 => ?_)
      refine SO.storeN Try.sizeOf88 rfl rfl rfl rfl rfl rfl ?_
      refine SO.nil ?_
      refine S.region ?_
      refine SO.v rfl (opv_move rfl) ?_
      refine SO.v rfl (opv_fieldAddr Try.underlying88 rfl Try.sizeOf46 rfl rfl) ?_
      refine SO.load1 rfl Try.isAgg46 rfl rfl ?_
      refine SO.buildSlice (K := ekI .u64) (xs := [x4.Value]) (cs := [.int .u64 x4.Value]) rfl Try.underlying39 Try.sizeOf46 Try.zeroValue46 rfl rfl rfl (by kernel_rfl) rfl rfl rfl (fun v7 hr8 => ?_)
      obtain ⟨zs9, hz10, h⟩ := opt_bind h
      refine SO.b2 ?_
      refine SO.append rfl Try.underlying39 Try.underlying39 inf46 rfl rfl rfl (by decide) rfl rfl rfl (Rd.head hr8) hz10 (fun v11 => ?_)
      refine SO.rd fun hr12 => ?_
      refine SO.v rfl (opv_assign rfl) ?_
      refine SO.nil ?_
      refine S.to (ρ' := [(11, .int .i64 x11_1), (10, .int .i64 (a0.l.length : Int)), (9, v0_l), (3, v11), (2, .slice none 0 0)]) ⟨rfl, rfl, rfl, rfl, rfl, trivial⟩ ?_
      refine S.inBlock ?_
      refine S.region ?_
      refine SO.v rfl (opv_add rfl rfl) ?_
      refine SO.v rfl (opv_move rfl) ?_
      refine SO.nil ?_
      refine S.b1 ?_
      refine S.drop ?_
      refine S.b1 ?_
      refine S.drop ?_
      refine S.b3 ?_
      refine S.b3 ?_
      refine S.b3 ?_
      refine S.b3 ?_
      refine S.to ?_ (ih1 ((w64 (x11_1 + 1), zs9), v11) h)
      exact ⟨rfl, rfl, rfl, rfl, rfl, trivial⟩
    replace h := cond_f b3 h
    refine S.condF rfl b3 ?_
    refine S.exit rfl ?_
    cases h
    refine S.b3 ?_
    refine S.b3 ?_
    refine S.b3 ?_
    refine S.b3 ?_
    refine S.to ?_ (hK1 v3_1)
    exact ⟨rfl, rfl, trivial⟩
  rintro v3_e1
  refine S.rd fun hr13 => ?_
  refine S.seq ?_
  refine S.region ?_
  refine SO.v rfl (opv_move rfl) ?_
  refine SO.v rfl (opv_assign rfl) ?_
  refine SO.nil ?_
  cases h
  refine S.b3 ?_
  refine S.b3 ?_
  refine S.b3 ?_
  refine S.b3 ?_
  exact S.ret1 Try.func15 rfl rfl (fun w hs hk => hR w _ _ ⟨v3_e1, rfl, rfl⟩ hs hk)
end Go.Proofs
set_option linter.unusedVariables false
namespace Go.Proofs
open Go.Sl Go.RowKit

/-! 39 padstone/stm.List$1 -/
variable {α : Type}
def stm_List1.f (told : List Int) (js : List α) : Option (Option α) :=
  bif decide ((js.length : Int) ≤ (told.length : Int)) then (some none) else ((at_ js (told.length : Int)).bind fun x3 => some (some x3))
set_option maxHeartbeats 8000000 in
set_option maxRecDepth 100000 in
theorem stm_List1.ct (jv : α → Value) (hjv : ∀ a, (jv a).oneCell' = true) (vt vj : Value) (b : Nat) (told : List Int) (js : List α) (r0 : Option α) (h : stm_List1.f told js = some r0) :
    Ct Try.prog 39 [vt, bp b 0] (fun F => Rd (ekI .i64) vt told F) [Box b [vj], Own 69 (ekV jv hjv) vj js] (fun u H' => u = Option.elim r0 .nilFunc jv ∧ H' = [Box b [vj], Own 69 (ekV jv hjv) vj js]) := by
  unfold stm_List1.f at h
  refine Ct.intro (n := 14) Try.func39 rfl rfl rfl ?_
  intro R w0 F hF hR
  refine S.b1 ?_
  refine S.rd fun hr1 => ?_
  refine S.seq ?_
  refine S.region ?_
  refine SO.v rfl (opv_assign rfl) ?_
  refine SO.nil ?_
  refine S.seq ?_
  refine S.seq ?_
  refine S.region ?_
  refine SO.v rfl (opv_move rfl) ?_
  refine SO.v rfl (opv_lenR rfl Try.underlying24 hF rfl) ?_
  refine SO.b1 ?_
  refine SO.load1 rfl Try.isAgg59 rfl rfl ?_
  refine SO.v rfl (opv_lenR rfl Try.underlying59 hr1 rfl) ?_
  refine SO.v rfl (opv_geq rfl rfl) ?_
  refine SO.nil ?_
  rcases bool_or (decide ((js.length : Int) ≤ (told.length : Int))) with b2 | b2
  · replace h := cond_t b2 h
    refine S.condT rfl b2 ?_
    refine S.seq ?_
    refine S.region ?_
    refine SO.v rfl (opv_assign rfl) ?_
    refine SO.nil ?_
    refine S.to (ρ' := [(3, .nilFunc)]) ⟨rfl, trivial⟩ ?_
    cases h
    refine S.b2 ?_
    refine S.b2 ?_
    refine S.b2 ?_
    exact S.ret1 Try.func39 rfl rfl (fun w hs hk => hR w _ _ ⟨rfl, rfl⟩ hs hk)
  replace h := cond_f b2 h
  refine S.condF rfl b2 ?_
  refine S.skip ?_
  refine S.seq ?_
  refine S.region ?_
  refine SO.load1 rfl Try.isAgg59 rfl rfl ?_
  refine SO.v rfl (opv_move rfl) ?_
  refine SO.v rfl (opv_lenR rfl Try.underlying24 hF rfl) ?_
  obtain ⟨x3, hx4, h⟩ := opt_bind h
  refine SO.v rfl (opv_idx Try.underlying59 Try.sizeOf69 hr1 rfl rfl hx4) ?_
  refine SO.loadI1 (j := 0) rfl Try.isAgg69 (Rd.tail (Rd.head hr1)) hx4 rfl rfl rfl rfl ?_
  refine SO.v rfl (opv_assign rfl) ?_
  refine SO.nil ?_
  refine S.to (ρ' := [(3, jv x3)]) ⟨rfl, trivial⟩ ?_
  cases h
  refine S.b2 ?_
  refine S.b2 ?_
  refine S.b2 ?_
  exact S.ret1 Try.func39 rfl rfl (fun w hs hk => hR w _ _ ⟨rfl, rfl⟩ hs hk)
end Go.Proofs
namespace Go.Proofs
open Go.Sl Go.RowKit
/-! 34 (padstone/view.Plain).has -/
def view_Plain_has.f (a0 : List Int) (a1 : Int) : Option (Bool) :=
  some ((decide (0 ≤ a1)) && (decide (a1 < (a0.length : Int))))
set_option maxHeartbeats 8000000 in
set_option maxRecDepth 100000 in
theorem view_Plain_has.ct (v0 : Value) (a0 : List Int) (a1 : Int) (r0 : Bool) (h : view_Plain_has.f a0 a1 = some r0) :
    Ct Try.prog 34 [v0, .int .i64 a1] (fun F => Rd (ekI .u64) v0 a0 F) [] (fun u H' => u = .bool r0 ∧ H' = []) := by
  unfold view_Plain_has.f at h
  refine Ct.intro (n := 13) Try.func34 rfl rfl rfl ?_
  intro R w0 F hF hR
  have hF0 := hF
  refine S.seq ?_
  refine S.region ?_
  refine SO.v rfl (opv_assign rfl) ?_
  refine SO.nil ?_
  refine S.seq ?_
  refine S.region ?_
  refine SO.v rfl (opv_move rfl) ?_
  refine SO.v rfl (opv_geq rfl rfl) ?_
  refine SO.v rfl (opv_move rfl) ?_
  refine SO.cut 5 12 (.bool ((decide (0 ≤ a1)) && (decide (a1 < (a0.length : Int))))) [F] (fun l2 hk2 => ?_) ?_
  · rcases bool_or (decide (0 ≤ a1)) with b1 | b1
    · refine SO.takeT rfl rfl rfl b1 ?_
      refine SO.v rfl (opv_move rfl) ?_
      refine SO.takeT rfl rfl rfl b1 ?_
      refine SO.v rfl (opv_move rfl) ?_
      refine SO.takeT rfl rfl rfl b1 ?_
      refine SO.v rfl (opv_lenR rfl Try.underlying40 hF0 rfl) ?_
      refine SO.takeT rfl rfl rfl b1 ?_
      refine SO.v rfl (opv_lss rfl rfl) ?_
      refine SO.v rfl (opv_pick_t' b1 rfl rfl) ?_
      exact hk2.fitc (m := 5) rfl (and_t b1) rfl
    refine SO.passF rfl rfl rfl b1 rfl rfl ?_
    refine SO.passF rfl rfl rfl b1 rfl rfl ?_
    refine SO.passF rfl rfl rfl b1 rfl rfl ?_
    refine SO.passF rfl rfl rfl b1 rfl rfl ?_
    refine SO.v rfl (opv_pick_f' b1 rfl rfl) ?_
    exact hk2.fitc (m := 5) rfl (and_f b1) rfl
  refine SO.v rfl (opv_assign rfl) ?_
  refine SO.nil ?_
  cases h
  exact S.ret1 Try.func34 rfl rfl (fun w hs hk => hR w _ _ ⟨rfl, rfl⟩ hs hk)
end Go.Proofs
namespace Go.Proofs
open Go.Sl Go.RowKit
/-! 16 (padstone/view.Plain).Read -/
def view_Plain_Read.f (a0 : List Int) (a1 : Int) : Option (Int) :=
  (view_Plain_has.f a0 a1).bind fun t1 => bif !t1 then (some 0) else ((at_ a0 a1).bind fun x4 => some x4)
set_option maxHeartbeats 8000000 in
set_option maxRecDepth 100000 in
theorem view_Plain_Read.ct (v0 : Value) (a0 : List Int) (a1 : Int) (r0 : Int) (h : view_Plain_Read.f a0 a1 = some r0) :
    Ct Try.prog 16 [v0, .int .i64 a1] (fun F => Rd (ekI .u64) v0 a0 F) [] (fun u H' => u = .int .u64 r0 ∧ H' = []) := by
  unfold view_Plain_Read.f at h
  refine Ct.intro (n := 13) Try.func16 rfl rfl rfl ?_
  intro R w0 F hF hR
  have hF0 := hF
  refine S.seq ?_
  refine S.region ?_
  refine SO.v rfl (opv_assign rfl) ?_
  refine SO.nil ?_
  refine S.seq ?_
  refine S.seq ?_
  refine S.region ?_
  refine SO.v rfl (opv_move rfl) ?_
  refine SO.v rfl (opv_move rfl) ?_
  obtain ⟨t1, ht2, h⟩ := opt_bind h
  refine SO.call (pre := []) rfl Try.call34 rfl rfl rfl (view_Plain_has.ct v0 _ _ _ ht2) (Rd.head hF0) ?_
  rintro _ _ ⟨rfl, rfl⟩
  refine SO.v rfl (opv_not rfl) ?_
  refine SO.nil ?_
  rcases bool_or (!t1) with b3 | b3
  · replace h := cond_t b3 h
    refine S.condT rfl b3 ?_
    refine S.seq ?_
    refine S.region ?_
    refine SO.v rfl (opv_assign rfl) ?_
    refine SO.nil ?_
    cases h
    exact S.ret1 Try.func16 rfl rfl (fun w hs hk => hR w _ _ ⟨rfl, rfl⟩ hs hk)
  replace h := cond_f b3 h
  refine S.condF rfl b3 ?_
  refine S.skip ?_
  refine S.seq ?_
  refine S.region ?_
  refine SO.v rfl (opv_move rfl) ?_
  refine SO.v rfl (opv_move rfl) ?_
  obtain ⟨x4, hx5, h⟩ := opt_bind h
  refine SO.v rfl (opv_idx Try.underlying40 Try.sizeOf46 hF0 rfl rfl hx5) ?_
  refine SO.loadI1 (j := 0) rfl Try.isAgg46 (Rd.head hF0) hx5 rfl rfl rfl rfl ?_
  refine SO.v rfl (opv_assign rfl) ?_
  refine SO.nil ?_
  refine S.to (ρ' := [(4, .int .u64 x4)]) ⟨rfl, trivial⟩ ?_
  cases h
  exact S.ret1 Try.func16 rfl rfl (fun w hs hk => hR w _ _ ⟨rfl, rfl⟩ hs hk)
end Go.Proofs
namespace Go.Proofs
open Go.Sl Go.RowKit
/-! 102 (padstone/view.Plain).Write -/
def view_Plain_Write.f (a0 : List Int) (a1 : Int) (a2 : Int) : Option ((List Int)) :=
  (view_Plain_has.f a0 a1).bind fun t2 => bif t2 then ((at_ a0 a1).bind fun x5 => some (a0.set a1.toNat a2)) else (some a0)
set_option maxHeartbeats 8000000 in
set_option maxRecDepth 100000 in
theorem view_Plain_Write.ct (v0 : Value) (a0 : List Int) (a1 : Int) (a2 : Int) (q0 : List Int) (h : view_Plain_Write.f a0 a1 a2 = some q0) :
    Ct Try.prog 102 [v0, .int .i64 a1, .int .u64 a2] (fun _ => True) [Own 46 (ekI .u64) v0 a0] (fun u H' => u = .tuple #[] ∧ H' = [Own 46 (ekI .u64) v0 q0]) := by
  unfold view_Plain_Write.f at h
  refine Ct.intro (n := 13) Try.func102 rfl rfl rfl ?_
  intro R w0 F hF hR
  refine S.rd fun hr1 => ?_
  refine S.seq ?_
  refine S.region ?_
  refine SO.v rfl (opv_move rfl) ?_
  refine SO.v rfl (opv_move rfl) ?_
  obtain ⟨t2, ht3, h⟩ := opt_bind h
  refine SO.call (pre := []) rfl Try.call34 rfl rfl rfl (view_Plain_has.ct v0 _ _ _ ht3) (Rd.head hr1) ?_
  rintro _ _ ⟨rfl, rfl⟩
  refine SO.nil ?_
  rcases bool_or t2 with b4 | b4
  · replace h := cond_t b4 h
    refine S.condT rfl b4 ?_
    refine S.region ?_
    refine SO.v rfl (opv_move rfl) ?_
    refine SO.v rfl (opv_move rfl) ?_
    refine SO.v rfl (opv_move rfl) ?_
    obtain ⟨x5, hx6, h⟩ := opt_bind h
    refine SO.v rfl (opv_idx Try.underlying40 Try.sizeOf46 hr1 rfl rfl hx6) ?_
    refine SO.storeI1 (j := 0) (z' := a2) Try.sizeOf46 hx6 rfl rfl rfl rfl rfl rfl ?_
    refine SO.rd fun hr7 => ?_
    refine SO.nil ?_
    refine S.to (ρ' := []) trivial ?_
    cases h
    refine S.b1 ?_
    refine S.b1 ?_
    exact S.fin0 Try.func102 rfl (fun w hs hk => hR w _ _ ⟨rfl, rfl⟩ hs hk)
  replace h := cond_f b4 h
  refine S.condF rfl b4 ?_
  refine S.skip ?_
  cases h
  refine S.b1 ?_
  refine S.b1 ?_
  exact S.fin0 Try.func102 rfl (fun w hs hk => hR w _ _ ⟨rfl, rfl⟩ hs hk)
end Go.Proofs
namespace Go.Proofs
open Go.Sl Go.RowKit
/-! A list of one's own, as a view. -/
theorem read_ok (s : List Int) (i : Int) : ∃ r, view_Plain_Read.f s i = some r := by
  cases h : view_Plain_Read.f s i with
  | some r => exact ⟨r, rfl⟩
  | none =>
    exfalso
    revert h
    unfold view_Plain_Read.f view_Plain_has.f
    by_cases h1 : 0 ≤ i ∧ i < (s.length : Int)
    · have : s[i.toNat]? = some s[i.toNat] := List.getElem?_eq_getElem (by omega)
      simp [h1, at_, this]
    · have : (decide (0 ≤ i) && decide (i < (s.length : Int))) = false := by simpa using h1
      simp [this]
theorem write_ok (s : List Int) (i x : Int) : ∃ r, view_Plain_Write.f s i x = some r := by
  cases h : view_Plain_Write.f s i x with
  | some r => exact ⟨r, rfl⟩
  | none =>
    exfalso
    revert h
    unfold view_Plain_Write.f view_Plain_has.f
    by_cases h1 : 0 ≤ i ∧ i < (s.length : Int)
    · have : s[i.toNat]? = some s[i.toNat] := List.getElem?_eq_getElem (by omega)
      simp [h1, at_, this]
    · have : (decide (0 ≤ i) && decide (i < (s.length : Int))) = false := by simpa using h1
      simp [this]
abbrev plainI : VI := ⟨List Int, fun s i => ((view_Plain_Read.f s i).getD 0, s), fun s i x => (view_Plain_Write.f s i x).getD s⟩
theorem ofRd {P : Program} {g : FuncId} {vals : List Value} {α : Type} {E : TypeId} {K : EK α} {v : Value} {xs : List α} {u0 : Value} (h : Ct P g vals (fun F => Rd K v xs F) [] (fun u H' => u = u0 ∧ H' = [])) :
    Ct P g vals (fun _ => True) [Own E K v xs] (fun u H' => u = u0 ∧ H' = [Own E K v xs]) := by
  intro w F _ hs
  have h2 : Sat w ([] ++ [stars [Own E K v xs, F]]) := Sat.pack (l1 := []) hs
  have hr : Rd K v xs (stars [Own E K v xs, F]) := by
    obtain ⟨m, hm, ho⟩ := Sat.head hs
    exact Rd.head (Own.rd ho)
  refine (h w _ hr h2).mono ?_
  rintro e w' ⟨u, H', he, ⟨hu, rfl⟩, hs', hk⟩
  exact ⟨u, _, he, ⟨hu, rfl⟩, Sat.unpack (l1 := []) hs', hk⟩
set_option maxRecDepth 100000 in
set_option maxHeartbeats 4000000 in
noncomputable def plainV (v : Value) : VW Try.prog :=
  { plainI with
    t := 40, v := v, rep := fun s => Own 46 (ekI .u64) v s
    rF := 16, rV := v, wF := 102, wV := v
    rM := by intro w; kernel_rfl
    wM := by intro w; kernel_rfl
    rN := by intro w; kernel_rfl
    wN := by intro w; kernel_rfl
    rC := Try.call16, wC := Try.call102
    rCt := fun s i => by
      obtain ⟨r, hr⟩ := read_ok s i
      have := ofRd (E := 46) (view_Plain_Read.ct v s i r hr)
      show Ct _ _ _ _ _ (fun u H' => u = .int .u64 ((view_Plain_Read.f s i).getD 0) ∧ H' = [Own 46 (ekI .u64) v s])
      rw [hr]; exact this
    wCt := fun s i x => by
      obtain ⟨r, hr⟩ := write_ok s i x
      have := view_Plain_Write.ct v s i x r hr
      show Ct _ _ _ _ _ (fun u H' => u = .tuple #[] ∧ H' = [Own 46 (ekI .u64) v ((view_Plain_Write.f s i x).getD s)])
      rw [hr]; exact this }
theorem plainV_rep (v : Value) (s : List Int) : (plainV v).rep s = Own 46 (ekI .u64) v s := rfl
theorem headEq {P : Program} {n : Nat} {Z : Act → World → Prop} {w0 : Beg} {ops : Array Oper} {l : List Oper} {ρ : Env} {A B : HProp} {rest : List HProp} (h : A = B) (k : SO P n Z w0 ops l ρ (B :: rest)) : SO P n Z w0 ops l ρ (A :: rest) := by
  subst h; exact k
end Go.Proofs
