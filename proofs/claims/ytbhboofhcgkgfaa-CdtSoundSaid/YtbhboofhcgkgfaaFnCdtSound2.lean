/- What the functions that CdtSound reaches come to, and that they do. On no condition. -/
import Derived.Test.YtbhboofhcgkgfaaFnCdtSound0
set_option linter.all false
namespace Go.Proofs
open Go.Sl Go.RowKit
/-! 15 padstone/padstonelaw00.Code -/
def law00_Code.l1 (a0 : Option Int) : Nat → Int → Option (Brk Int Unit)
  | 0, _ => none
  | k + 1, x3_1 => bif decide (x3_1 ≤ 14) then (bif a0 == some x3_1 then (some (Brk.ret x3_1)) else (law00_Code.l1 a0 k (w64 (x3_1 + 1)))) else (some (Brk.nx ()))
def law00_Code.f (k : Nat) (a0 : Option Int) : Option (Int) :=
  bif a0.isNone then (some 0) else ((law00_Code.l1 a0 k 1).bind fun o1 => Brk.go o1 (fun r => some r) (fun _ => some (-1)))
set_option maxHeartbeats 8000000 in
set_option maxRecDepth 100000 in
theorem law00_Code.ct (k : Nat) (a0 : Option Int) (r0 : Int) (h : law00_Code.f k a0 = some r0) :
    Ct Try.prog 15 [errV 53 a0] (fun _ => True) [] (fun u H' => u = .int .i64 r0 ∧ H' = []) := by
  unfold law00_Code.f at h
  refine Ct.intro (n := 15) Try.func15 rfl rfl rfl ?_
  intro R w0 F hF hR
  refine S.seq ?_
  refine S.region ?_
  refine SO.v rfl (opv_assign rfl) ?_
  refine SO.nil ?_
  refine S.seq ?_
  refine S.seq ?_
  refine S.region ?_
  refine SO.v rfl (opv_move rfl) ?_
  refine SO.v rfl (opv_eqlN (e := a0) Try.underlying31 rfl) ?_
  refine SO.nil ?_
  rcases bool_or a0.isNone with b1 | b1
  · replace h := cond_t b1 h
    refine S.condT rfl b1 ?_
    refine S.seq ?_
    refine S.region ?_
    refine SO.v rfl (opv_assign rfl) ?_
    refine SO.nil ?_
    cases h
    exact S.ret1 Try.func15 rfl rfl (fun w hs hk => hR w _ _ ⟨rfl, rfl⟩ hs hk)
  · replace h := cond_f b1 h
    refine S.condF rfl b1 ?_
    refine S.skip ?_
    refine S.seq ?_
    refine S.seq ?_
    refine S.region ?_
    refine SO.v rfl (opv_assign rfl) ?_
    refine SO.nil ?_
    obtain ⟨o1, hl1, h⟩ := opt_bind h
    refine S.to (ρ' := [(3, .int .i64 1), (2, .int .i64 0), (0, errV 53 a0)]) ⟨rfl, rfl, rfl, trivial⟩ ?_
    refine S.forloop (X := Int × Unit) (O := Brk Int Unit) (fun m x => law00_Code.l1 a0 m x.1) (fun x => match x with | (x3_1, _) => [(3, .int .i64 x3_1), (2, .int .i64 0), (0, errV 53 a0)]) (fun x => match x with | (x3_1, _) => [F]) (fun Sk o' => (∀ r', o' = Brk.ret r' → some r' = some r0) ∧ ∀ _ : Unit, ∀ _ : Unit, o' = Brk.nx () → Sk [(2, .int .i64 0)] [F]) (fun _ => rfl) ?_ (m := k) (x := (1, ())) hl1 ?_
    · clear h hl1
      intro k x o_1 h hK1 ih1
      obtain ⟨x3_1, _⟩ := x
      replace h : law00_Code.l1 a0 (k + 1) x3_1 = some o_1 := h
      first | rw [law00_Code.l1] at h | unfold law00_Code.l1 at h
      refine S.seq ?_
      refine S.seq ?_
      refine S.region ?_
      refine SO.v rfl (opv_move rfl) ?_
      refine SO.v rfl (opv_leq rfl rfl) ?_
      refine SO.nil ?_
      rcases bool_or (decide (x3_1 ≤ 14)) with b2 | b2
      · replace h := cond_t b2 h
        refine S.condT rfl b2 ?_
        refine S.skip ?_
        refine S.seq ?_
        refine S.block ?_
        refine S.seq ?_
        refine S.region ?_
        refine SO.v rfl (opv_move rfl) ?_
        refine SO.v rfl (opv_move rfl) ?_
        refine SO.v rfl (opv_iface Try.underlying53 rfl rfl) ?_
        refine SO.v rfl (opv_eqlE (e := a0) (c := x3_1) Try.underlying31 Try.underlying53 inf53 rfl rfl rfl) ?_
        refine SO.nil ?_
        rcases bool_or (a0 == some x3_1) with b3 | b3
        · replace h := cond_t b3 h
          refine S.condT rfl b3 ?_
          refine S.seq ?_
          refine S.region ?_
          refine SO.v rfl (opv_move rfl) ?_
          refine SO.v rfl (opv_assign rfl) ?_
          refine SO.nil ?_
          refine S.to (ρ' := [(2, .int .i64 x3_1)]) ⟨rfl, trivial⟩ ?_
          cases h
          replace h := hK1.1 _ rfl
          cases h
          exact S.ret1 Try.func15 rfl rfl (fun w hs hk => hR w _ _ ⟨rfl, rfl⟩ hs hk)
        · replace h := cond_f b3 h
          refine S.condF rfl b3 ?_
          refine S.skip ?_
          refine S.inBlock ?_
          refine S.region ?_
          refine SO.v rfl (opv_move rfl) ?_
          refine SO.v rfl (opv_add rfl rfl) ?_
          refine SO.v rfl (opv_assign rfl) ?_
          refine SO.nil ?_
          refine S.to (ρ' := [(3, .int .i64 (w64 (x3_1 + 1))), (2, .int .i64 0), (0, errV 53 a0)]) ⟨rfl, rfl, rfl, trivial⟩ ?_
          refine S.to ?_ (ih1 (w64 (x3_1 + 1), ()) h)
          exact ⟨rfl, rfl, rfl, trivial⟩
      · replace h := cond_f b2 h
        refine S.condF rfl b2 ?_
        refine S.exit rfl ?_
        cases h
        refine S.to ?_ (hK1.2 () () rfl)
        exact ⟨rfl, trivial⟩
    refine ⟨fun r' e' => ?_, ?_⟩
    · subst e'
      have h9 := Brk.of_ret h
      exact h9
    rintro _ _ e'
    subst e'
    replace h := Brk.of_nx h
    refine S.seq ?_
    refine S.region ?_
    refine SO.v rfl (opv_assign rfl) ?_
    refine SO.nil ?_
    cases h
    exact S.ret1 Try.func15 rfl rfl (fun w hs hk => hR w _ _ ⟨rfl, rfl⟩ hs hk)
end Go.Proofs
