/- What the functions that LayTakes reaches come to, and that they do. On no condition. -/
import Derived.Test.YtonelfkcginmcaaSlDraw
import Derived.Test.YtonelfkcginmcaaProg
set_option linter.all false
namespace Go.Proofs
open Go.Sl Go.RowKit
abbrev SV := {v : Value // v.oneCell' = true}
def ekS : EK SV := ⟨1, fun x => [x.1], fun _ => rfl, fun x v hv => by simp at hv; subst hv; exact x.2, by decide⟩
/-- A list of lists that may be read. -/
def Rd2 {α : Type} (K : EK α) (v : Value) (xss : List (List α)) (A : HProp) : Prop :=
  ∃ vs : List SV, Rd ekS v vs A ∧ vs.length = xss.length ∧ ∀ (i : Nat) (x : SV) (l : List α), vs[i]? = some x → xss[i]? = some l → Rd K x.1 l A
theorem Rd2.at_ {α : Type} {K : EK α} {xss : List (List α)} {A : HProp} {vs : List SV} {i : Int} {l : List α} (hl : vs.length = xss.length) (hR : ∀ (i : Nat) (x : SV) (l : List α), vs[i]? = some x → xss[i]? = some l → Rd K x.1 l A) (h : Go.Sl.at_ xss i = some l) : ∃ y : SV, Go.Sl.at_ vs i = some y ∧ Rd K y.1 l A := by
  obtain ⟨h1, h2, h3⟩ := at_spec h
  have h4 : vs[i.toNat]? = some (vs[i.toNat]'(by omega)) := List.getElem?_eq_getElem (by omega)
  refine ⟨vs[i.toNat]'(by omega), ?_, hR _ _ _ h4 h3⟩
  unfold Go.Sl.at_
  rw [decide_eq_true h1, cond_true, h4]
theorem opv_len2 {P : Program} {ρ : Env} {α : Type} {A : HProp} {vs : List SV} {xss : List (List α)} {v : Value} {x : Operand} {tys : Array TypeId} {t e : TypeId} (ht0 : tys[0]? = some t) (ht : P.underlying t = some (.slice e)) (hR : Rd ekS v vs A) (hl : vs.length = xss.length) (hx : ev ρ x = some v) :
    OpV P ρ (.call ⟨.builtin .len, #[x], tys⟩) (.int .i64 (xss.length : Int)) := by
  rw [← hl]; exact opv_lenR ht0 ht hR hx
theorem opv_pickB {P : Program} {ρ : Env} {c a b : Operand} {x y z : Bool} (hc : ev ρ c = some (.bool x)) (ha : ev ρ a = some (.bool y)) (hb : ev ρ b = some (.bool z)) : OpV P ρ (.pick c a b) (.bool (bif x then y else z)) := by
  cases x with
  | true => exact opv_pick_t' rfl hc ha
  | false => exact opv_pick_f' rfl hc hb
theorem opv_pickTF {P : Program} {ρ : Env} {c a b : Operand} {x : Bool} (hc : ev ρ c = some (.bool x)) (ha : ev ρ a = some (.bool true)) (hb : ev ρ b = some (.bool false)) : OpV P ρ (.pick c a b) (.bool x) := by
  cases x with
  | true => exact opv_pick_t' rfl hc ha
  | false => exact opv_pick_f' rfl hc hb
theorem inf22 : Try.prog.info? 22 = some Try.t22 := by kernel_rfl
theorem inf50 : Try.prog.info? 50 = some Try.t50 := by kernel_rfl

end Go.Proofs
namespace Go.Proofs
open Go.Sl Go.RowKit
/-! 37 (padstone/view.Plain).has -/
def view_Plain_has.f (a0 : List Int) (a1 : Int) : Option (Bool) :=
  some ((decide (0 ≤ a1)) && (decide (a1 < (a0.length : Int))))
set_option maxHeartbeats 8000000 in
set_option maxRecDepth 100000 in
theorem view_Plain_has.ct (v0 : Value) (a0 : List Int) (a1 : Int) (r0 : Bool) (h : view_Plain_has.f a0 a1 = some r0) :
    Ct Try.prog 37 [v0, .int .i64 a1] (fun F => Rd (ekI .u64) v0 a0 F) [] (fun u H' => u = .bool r0 ∧ H' = []) := by
  unfold view_Plain_has.f at h
  refine Ct.intro (n := 13) Try.func37 rfl rfl rfl ?_
  intro R w0 F hF hR
  have hF0 := hF
  refine S.seq ?_
  refine S.region ?_
  refine SO.v rfl (opv_assign rfl) ?_
  refine SO.nil ?_
  refine S.seq ?_
  refine S.region ?_
  refine SO.v rfl (opv_move rfl) ?_
  refine SO.v rfl (opv_geq rfl rfl) ?_
  refine SO.v rfl (opv_move rfl) ?_
  refine SO.cut 5 12 (.bool ((decide (0 ≤ a1)) && (decide (a1 < (a0.length : Int))))) [F] (fun l2 hk2 => ?_) ?_
  · rcases bool_or (decide (0 ≤ a1)) with b1 | b1
    · refine SO.takeT rfl rfl rfl b1 ?_
      refine SO.v rfl (opv_move rfl) ?_
      refine SO.takeT rfl rfl rfl b1 ?_
      refine SO.v rfl (opv_move rfl) ?_
      refine SO.takeT rfl rfl rfl b1 ?_
      refine SO.v rfl (opv_lenR rfl Try.underlying26 hF0 rfl) ?_
      refine SO.takeT rfl rfl rfl b1 ?_
      refine SO.v rfl (opv_lss rfl rfl) ?_
      refine SO.v rfl (opv_pick_t' b1 rfl rfl) ?_
      exact hk2.fitc (m := 5) rfl (and_t b1) rfl
    · refine SO.passF rfl rfl rfl b1 rfl rfl ?_
      refine SO.passF rfl rfl rfl b1 rfl rfl ?_
      refine SO.passF rfl rfl rfl b1 rfl rfl ?_
      refine SO.passF rfl rfl rfl b1 rfl rfl ?_
      refine SO.v rfl (opv_pick_f' b1 rfl rfl) ?_
      exact hk2.fitc (m := 5) rfl (and_f b1) rfl
  refine SO.v rfl (opv_assign rfl) ?_
  refine SO.nil ?_
  cases h
  exact S.ret1 Try.func37 rfl rfl (fun w hs hk => hR w _ _ ⟨rfl, rfl⟩ hs hk)
end Go.Proofs
namespace Go.Proofs
open Go.Sl Go.RowKit
/-! 35 (padstone/view.Plain).Read -/
def view_Plain_Read.f (a0 : List Int) (a1 : Int) : Option (Int) :=
  (view_Plain_has.f a0 a1).bind fun t1 => bif !t1 then (some 0) else ((at_ a0 a1).bind fun x4 => some x4)
set_option maxHeartbeats 8000000 in
set_option maxRecDepth 100000 in
theorem view_Plain_Read.ct (v0 : Value) (a0 : List Int) (a1 : Int) (r0 : Int) (h : view_Plain_Read.f a0 a1 = some r0) :
    Ct Try.prog 35 [v0, .int .i64 a1] (fun F => Rd (ekI .u64) v0 a0 F) [] (fun u H' => u = .int .u64 r0 ∧ H' = []) := by
  unfold view_Plain_Read.f at h
  refine Ct.intro (n := 13) Try.func35 rfl rfl rfl ?_
  intro R w0 F hF hR
  have hF0 := hF
  refine S.seq ?_
  refine S.region ?_
  refine SO.v rfl (opv_assign rfl) ?_
  refine SO.nil ?_
  refine S.seq ?_
  refine S.seq ?_
  refine S.region ?_
  refine SO.v rfl (opv_move rfl) ?_
  refine SO.v rfl (opv_move rfl) ?_
  obtain ⟨t1, ht2, h⟩ := opt_bind h
  refine SO.call (pre := []) rfl Try.call37 rfl rfl rfl (view_Plain_has.ct _ _ _ _ ht2) (Rd.head hF0) ?_
  rintro _ _ ⟨rfl, rfl⟩
  refine SO.v rfl (opv_not rfl) ?_
  refine SO.nil ?_
  rcases bool_or (!t1) with b3 | b3
  · replace h := cond_t b3 h
    refine S.condT rfl b3 ?_
    refine S.seq ?_
    refine S.region ?_
    refine SO.v rfl (opv_assign rfl) ?_
    refine SO.nil ?_
    cases h
    exact S.ret1 Try.func35 rfl rfl (fun w hs hk => hR w _ _ ⟨rfl, rfl⟩ hs hk)
  · replace h := cond_f b3 h
    refine S.condF rfl b3 ?_
    refine S.skip ?_
    refine S.seq ?_
    refine S.region ?_
    refine SO.v rfl (opv_move rfl) ?_
    refine SO.v rfl (opv_move rfl) ?_
    obtain ⟨x4, hx5, h⟩ := opt_bind h
    refine SO.v rfl (opv_idx Try.underlying26 Try.sizeOf22 hF0 rfl rfl hx5) ?_
    refine SO.loadI1 (j := 0) rfl Try.isAgg22 (Rd.head hF0) hx5 rfl rfl rfl rfl ?_
    refine SO.v rfl (opv_assign rfl) ?_
    refine SO.nil ?_
    refine S.to (ρ' := [(4, .int .u64 x4)]) ⟨rfl, trivial⟩ ?_
    cases h
    exact S.ret1 Try.func35 rfl rfl (fun w hs hk => hR w _ _ ⟨rfl, rfl⟩ hs hk)
end Go.Proofs
namespace Go.Proofs
open Go.Sl Go.RowKit
/-! 36 (padstone/view.Plain).Write -/
def view_Plain_Write.f (a0 : List Int) (a1 : Int) (a2 : Int) : Option ((List Int)) :=
  (view_Plain_has.f a0 a1).bind fun t2 => bif t2 then ((at_ a0 a1).bind fun x5 => some (a0.set a1.toNat a2)) else (some a0)
set_option maxHeartbeats 8000000 in
set_option maxRecDepth 100000 in
theorem view_Plain_Write.ct (v0 : Value) (a0 : List Int) (a1 : Int) (a2 : Int) (q0 : List Int) (h : view_Plain_Write.f a0 a1 a2 = some q0) :
    Ct Try.prog 36 [v0, .int .i64 a1, .int .u64 a2] (fun _ => True) [Own 22 (ekI .u64) v0 a0] (fun u H' => u = .tuple #[] ∧ H' = [Own 22 (ekI .u64) v0 q0]) := by
  unfold view_Plain_Write.f at h
  refine Ct.intro (n := 13) Try.func36 rfl rfl rfl ?_
  intro R w0 F hF hR
  refine S.rd fun hr1 => ?_
  refine S.seq ?_
  refine S.region ?_
  refine SO.v rfl (opv_move rfl) ?_
  refine SO.v rfl (opv_move rfl) ?_
  obtain ⟨t2, ht3, h⟩ := opt_bind h
  refine SO.call (pre := []) rfl Try.call37 rfl rfl rfl (view_Plain_has.ct _ _ _ _ ht3) (Rd.head hr1) ?_
  rintro _ _ ⟨rfl, rfl⟩
  refine SO.nil ?_
  rcases bool_or t2 with b4 | b4
  · replace h := cond_t b4 h
    refine S.condT rfl b4 ?_
    refine S.region ?_
    refine SO.v rfl (opv_move rfl) ?_
    refine SO.v rfl (opv_move rfl) ?_
    refine SO.v rfl (opv_move rfl) ?_
    obtain ⟨x5, hx6, h⟩ := opt_bind h
    refine SO.v rfl (opv_idx Try.underlying26 Try.sizeOf22 hr1 rfl rfl hx6) ?_
    refine SO.storeI1 (j := 0) (z' := a2) Try.sizeOf22 hx6 rfl rfl rfl rfl rfl rfl ?_
    refine SO.rd fun hr7 => ?_
    refine SO.nil ?_
    refine S.to (ρ' := []) trivial ?_
    cases h
    refine S.b1 ?_
    refine S.b1 ?_
    exact S.fin0 Try.func36 rfl (fun w hs hk => hR w _ _ ⟨rfl, rfl⟩ hs hk)
  · replace h := cond_f b4 h
    refine S.condF rfl b4 ?_
    refine S.skip ?_
    cases h
    refine S.b1 ?_
    refine S.b1 ?_
    exact S.fin0 Try.func36 rfl (fun w hs hk => hR w _ _ ⟨rfl, rfl⟩ hs hk)
end Go.Proofs
namespace Go.Proofs
open Go.Sl Go.RowKit
/-! A list of one's own, as a view. -/
theorem read_ok (s : List Int) (i : Int) : ∃ r, view_Plain_Read.f s i = some r := by
  cases h : view_Plain_Read.f s i with
  | some r => exact ⟨r, rfl⟩
  | none =>
    exfalso
    revert h
    unfold view_Plain_Read.f view_Plain_has.f
    by_cases h1 : 0 ≤ i ∧ i < (s.length : Int)
    · have : s[i.toNat]? = some s[i.toNat] := List.getElem?_eq_getElem (by omega)
      simp [h1, at_, this]
    · have : (decide (0 ≤ i) && decide (i < (s.length : Int))) = false := by simpa using h1
      simp [this]
theorem write_ok (s : List Int) (i x : Int) : ∃ r, view_Plain_Write.f s i x = some r := by
  cases h : view_Plain_Write.f s i x with
  | some r => exact ⟨r, rfl⟩
  | none =>
    exfalso
    revert h
    unfold view_Plain_Write.f view_Plain_has.f
    by_cases h1 : 0 ≤ i ∧ i < (s.length : Int)
    · have : s[i.toNat]? = some s[i.toNat] := List.getElem?_eq_getElem (by omega)
      simp [h1, at_, this]
    · have : (decide (0 ≤ i) && decide (i < (s.length : Int))) = false := by simpa using h1
      simp [this]
abbrev plainI : VI := ⟨List Int, fun s i => ((view_Plain_Read.f s i).getD 0, s), fun s i x => (view_Plain_Write.f s i x).getD s⟩
theorem ofRd {P : Program} {g : FuncId} {vals : List Value} {α : Type} {E : TypeId} {K : EK α} {v : Value} {xs : List α} {u0 : Value} (h : Ct P g vals (fun F => Rd K v xs F) [] (fun u H' => u = u0 ∧ H' = [])) :
    Ct P g vals (fun _ => True) [Own E K v xs] (fun u H' => u = u0 ∧ H' = [Own E K v xs]) := by
  intro w F _ hs
  have h2 : Sat w ([] ++ [stars [Own E K v xs, F]]) := Sat.pack (l1 := []) hs
  have hr : Rd K v xs (stars [Own E K v xs, F]) := by
    obtain ⟨m, hm, ho⟩ := Sat.head hs
    exact Rd.head (Own.rd ho)
  refine (h w _ hr h2).mono ?_
  rintro e w' ⟨u, H', he, ⟨hu, rfl⟩, hs', hk⟩
  exact ⟨u, _, he, ⟨hu, rfl⟩, Sat.unpack (l1 := []) hs', hk⟩
set_option maxRecDepth 100000 in
set_option maxHeartbeats 4000000 in
noncomputable def plainV (v : Value) : VW Try.prog :=
  { plainI with
    t := 26, v := v, rep := fun s => Own 22 (ekI .u64) v s
    rF := 35, rV := v, wF := 36, wV := v
    rM := by intro w; kernel_rfl
    wM := by intro w; kernel_rfl
    rC := Try.call35, wC := Try.call36
    rCt := fun s i => by
      obtain ⟨r, hr⟩ := read_ok s i
      have := ofRd (E := 22) (view_Plain_Read.ct v s i r hr)
      show Ct _ _ _ _ _ (fun u H' => u = .int .u64 ((view_Plain_Read.f s i).getD 0) ∧ H' = [Own 22 (ekI .u64) v s])
      rw [hr]; exact this
    wCt := fun s i x => by
      obtain ⟨r, hr⟩ := write_ok s i x
      have := view_Plain_Write.ct v s i x r hr
      show Ct _ _ _ _ _ (fun u H' => u = .tuple #[] ∧ H' = [Own 22 (ekI .u64) v ((view_Plain_Write.f s i x).getD s)])
      rw [hr]; exact this }
theorem plainV_rep (v : Value) (s : List Int) : (plainV v).rep s = Own 22 (ekI .u64) v s := rfl
theorem headEq {P : Program} {n : Nat} {Z : Act → World → Prop} {w0 : World} {ops : Array Oper} {l : List Oper} {ρ : Env} {A B : HProp} {rest : List HProp} (h : A = B) (k : SO P n Z w0 ops l ρ (B :: rest)) : SO P n Z w0 ops l ρ (A :: rest) := by
  subst h; exact k
end Go.Proofs
namespace Go.Proofs
open Go.Sl Go.RowKit
/-! 10 padstone/padstonelaw00.Code -/
def law00_Code.l1 (a0 : Option Int) : Nat → Int → Option (Brk Int Unit)
  | 0, _ => none
  | k + 1, x3_1 => bif decide (x3_1 ≤ 14) then (bif a0 == some x3_1 then (some (Brk.ret x3_1)) else (law00_Code.l1 a0 k (w64 (x3_1 + 1)))) else (some (Brk.nx ()))
def law00_Code.f (k : Nat) (a0 : Option Int) : Option (Int) :=
  bif a0.isNone then (some 0) else ((law00_Code.l1 a0 k 1).bind fun o1 => Brk.go o1 (fun r => some r) (fun _ => some (-1)))
set_option maxHeartbeats 8000000 in
set_option maxRecDepth 100000 in
theorem law00_Code.ct (k : Nat) (a0 : Option Int) (r0 : Int) (h : law00_Code.f k a0 = some r0) :
    Ct Try.prog 10 [errV 50 a0] (fun _ => True) [] (fun u H' => u = .int .i64 r0 ∧ H' = []) := by
  unfold law00_Code.f at h
  refine Ct.intro (n := 15) Try.func10 rfl rfl rfl ?_
  intro R w0 F hF hR
  refine S.seq ?_
  refine S.region ?_
  refine SO.v rfl (opv_assign rfl) ?_
  refine SO.nil ?_
  refine S.seq ?_
  refine S.seq ?_
  refine S.region ?_
  refine SO.v rfl (opv_move rfl) ?_
  refine SO.v rfl (opv_eqlN (e := a0) Try.underlying32 rfl) ?_
  refine SO.nil ?_
  rcases bool_or a0.isNone with b1 | b1
  · replace h := cond_t b1 h
    refine S.condT rfl b1 ?_
    refine S.seq ?_
    refine S.region ?_
    refine SO.v rfl (opv_assign rfl) ?_
    refine SO.nil ?_
    cases h
    exact S.ret1 Try.func10 rfl rfl (fun w hs hk => hR w _ _ ⟨rfl, rfl⟩ hs hk)
  · replace h := cond_f b1 h
    refine S.condF rfl b1 ?_
    refine S.skip ?_
    refine S.seq ?_
    refine S.seq ?_
    refine S.region ?_
    refine SO.v rfl (opv_assign rfl) ?_
    refine SO.nil ?_
    obtain ⟨o1, hl1, h⟩ := opt_bind h
    refine S.to (ρ' := [(3, .int .i64 1), (2, .int .i64 0), (0, errV 50 a0)]) ⟨rfl, rfl, rfl, trivial⟩ ?_
    refine S.forloop (X := Int × Unit) (O := Brk Int Unit) (fun m x => law00_Code.l1 a0 m x.1) (fun x => match x with | (x3_1, _) => [(3, .int .i64 x3_1), (2, .int .i64 0), (0, errV 50 a0)]) (fun x => match x with | (x3_1, _) => [F]) (fun Sk o' => (∀ r', o' = Brk.ret r' → some r' = some r0) ∧ ∀ _ : Unit, ∀ _ : Unit, o' = Brk.nx () → Sk [(2, .int .i64 0)] [F]) (fun _ => rfl) ?_ (m := k) (x := (1, ())) hl1 ?_
    · clear h hl1
      intro k x o_1 h hK1 ih1
      obtain ⟨x3_1, _⟩ := x
      replace h : law00_Code.l1 a0 (k + 1) x3_1 = some o_1 := h
      first | rw [law00_Code.l1] at h | unfold law00_Code.l1 at h
      refine S.seq ?_
      refine S.seq ?_
      refine S.region ?_
      refine SO.v rfl (opv_move rfl) ?_
      refine SO.v rfl (opv_leq rfl rfl) ?_
      refine SO.nil ?_
      rcases bool_or (decide (x3_1 ≤ 14)) with b2 | b2
      · replace h := cond_t b2 h
        refine S.condT rfl b2 ?_
        refine S.skip ?_
        refine S.seq ?_
        refine S.block ?_
        refine S.seq ?_
        refine S.region ?_
        refine SO.v rfl (opv_move rfl) ?_
        refine SO.v rfl (opv_move rfl) ?_
        refine SO.v rfl (opv_iface Try.underlying50 rfl rfl) ?_
        refine SO.v rfl (opv_eqlE (e := a0) (c := x3_1) Try.underlying32 Try.underlying50 inf50 rfl rfl rfl) ?_
        refine SO.nil ?_
        rcases bool_or (a0 == some x3_1) with b3 | b3
        · replace h := cond_t b3 h
          refine S.condT rfl b3 ?_
          refine S.seq ?_
          refine S.region ?_
          refine SO.v rfl (opv_move rfl) ?_
          refine SO.v rfl (opv_assign rfl) ?_
          refine SO.nil ?_
          cases h
          replace h := hK1.1 _ rfl
          cases h
          exact S.ret1 Try.func10 rfl rfl (fun w hs hk => hR w _ _ ⟨rfl, rfl⟩ hs hk)
        · replace h := cond_f b3 h
          refine S.condF rfl b3 ?_
          refine S.skip ?_
          refine S.inBlock ?_
          refine S.region ?_
          refine SO.v rfl (opv_move rfl) ?_
          refine SO.v rfl (opv_add rfl rfl) ?_
          refine SO.v rfl (opv_assign rfl) ?_
          refine SO.nil ?_
          refine S.to ?_ (ih1 (w64 (x3_1 + 1), ()) h)
          exact ⟨rfl, rfl, rfl, trivial⟩
      · replace h := cond_f b2 h
        refine S.condF rfl b2 ?_
        refine S.exit rfl ?_
        cases h
        refine S.to ?_ (hK1.2 () () rfl)
        exact ⟨rfl, trivial⟩
    refine ⟨fun r' e' => ?_, ?_⟩
    · subst e'
      have h9 := Brk.of_ret h
      exact h9
    rintro _ _ e'
    subst e'
    replace h := Brk.of_nx h
    refine S.seq ?_
    refine S.region ?_
    refine SO.v rfl (opv_assign rfl) ?_
    refine SO.nil ?_
    cases h
    exact S.ret1 Try.func10 rfl rfl (fun w hs hk => hR w _ _ ⟨rfl, rfl⟩ hs hk)
end Go.Proofs
namespace Go.Proofs
open Go.Sl Go.RowKit
/-! 19 padstone/lay.in -/
def lay_in.f (a0 : Int) (a1 : Int) : Option (Bool) :=
  some ((decide (0 ≤ a0)) && (decide (a0 < a1)))
set_option maxHeartbeats 8000000 in
set_option maxRecDepth 100000 in
theorem lay_in.ct (a0 : Int) (a1 : Int) (r0 : Bool) (h : lay_in.f a0 a1 = some r0) :
    Ct Try.prog 19 [.int .i64 a0, .int .i64 a1] (fun _ => True) [] (fun u H' => u = .bool r0 ∧ H' = []) := by
  unfold lay_in.f at h
  refine Ct.intro (n := 12) Try.func19 rfl rfl rfl ?_
  intro R w0 F hF hR
  refine S.seq ?_
  refine S.region ?_
  refine SO.v rfl (opv_assign rfl) ?_
  refine SO.nil ?_
  refine S.seq ?_
  refine S.region ?_
  refine SO.v rfl (opv_move rfl) ?_
  refine SO.v rfl (opv_geq rfl rfl) ?_
  refine SO.v rfl (opv_move rfl) ?_
  refine SO.cut 4 11 (.bool ((decide (0 ≤ a0)) && (decide (a0 < a1)))) [F] (fun l2 hk2 => ?_) ?_
  · rcases bool_or (decide (0 ≤ a0)) with b1 | b1
    · refine SO.takeT rfl rfl rfl b1 ?_
      refine SO.v rfl (opv_move rfl) ?_
      refine SO.takeT rfl rfl rfl b1 ?_
      refine SO.v rfl (opv_move rfl) ?_
      refine SO.takeT rfl rfl rfl b1 ?_
      refine SO.v rfl (opv_lss rfl rfl) ?_
      refine SO.v rfl (opv_pick_t' b1 rfl rfl) ?_
      exact hk2.fitc (m := 4) rfl (and_t b1) rfl
    · refine SO.passF rfl rfl rfl b1 rfl rfl ?_
      refine SO.passF rfl rfl rfl b1 rfl rfl ?_
      refine SO.passF rfl rfl rfl b1 rfl rfl ?_
      refine SO.v rfl (opv_pick_f' b1 rfl rfl) ?_
      exact hk2.fitc (m := 4) rfl (and_f b1) rfl
  refine SO.v rfl (opv_assign rfl) ?_
  refine SO.nil ?_
  cases h
  exact S.ret1 Try.func19 rfl rfl (fun w hs hk => hR w _ _ ⟨rfl, rfl⟩ hs hk)
end Go.Proofs
namespace Go.Proofs
open Go.Sl Go.RowKit
/-! 12 padstone/lay.Obj -/
def lay_Obj.f (a0 : Int) (a1 : Int) : Option ((Int × Bool)) :=
  (lay_in.f a0 32).bind fun t1 => (bif !t1 then (some true) else ((lay_in.f a1 8).bind fun t6 => some (!t6))).bind fun c4 => bif c4 then (some (0, false)) else (some (w64 ((w64 (480 + (w64 (a0 * 8)))) + a1), true))
set_option maxHeartbeats 8000000 in
set_option maxRecDepth 100000 in
theorem lay_Obj.ct (a0 : Int) (a1 : Int) (r0 : Int) (r1 : Bool) (h : lay_Obj.f a0 a1 = some (r0, r1)) :
    Ct Try.prog 12 [.int .i64 a0, .int .i64 a1] (fun _ => True) [] (fun u H' => u = .tuple #[.int .i64 r0, .bool r1] ∧ H' = []) := by
  unfold lay_Obj.f at h
  refine Ct.intro (n := 19) Try.func12 rfl rfl rfl ?_
  intro R w0 F hF hR
  refine S.seq ?_
  refine S.region ?_
  refine SO.v rfl (opv_assign rfl) ?_
  refine SO.v rfl (opv_assign rfl) ?_
  refine SO.nil ?_
  refine S.seq ?_
  refine S.seq ?_
  refine S.region ?_
  refine SO.v rfl (opv_move rfl) ?_
  obtain ⟨t1, ht2, h⟩ := opt_bind h
  refine SO.call (pre := []) rfl Try.call19 rfl rfl rfl (lay_in.ct _ _ _ ht2) trivial ?_
  rintro _ _ ⟨rfl, rfl⟩
  refine SO.v rfl (opv_not rfl) ?_
  refine SO.v rfl (opv_move rfl) ?_
  obtain ⟨c4, hc5, hgk⟩ := opt_bind h
  refine SO.cut 4 13 (.bool c4) [F] (fun l2 hk2 => ?_) ?_
  · clear hgk
    replace h := hc5
    rcases bool_or (!t1) with b3 | b3
    · replace h := cond_t b3 h
      refine SO.passF rfl rfl rfl b3 rfl rfl ?_
      refine SO.passF rfl rfl rfl b3 rfl rfl ?_
      refine SO.passF rfl rfl rfl b3 rfl rfl ?_
      cases h
      refine SO.v rfl (opv_pick_t' b3 rfl rfl) ?_
      exact hk2.fitc (m := 4) rfl (rfl) rfl
    · replace h := cond_f b3 h
      refine SO.takeT rfl rfl rfl b3 ?_
      refine SO.v rfl (opv_move rfl) ?_
      refine SO.takeT rfl rfl rfl b3 ?_
      obtain ⟨t6, ht7, h⟩ := opt_bind h
      refine SO.call (pre := []) rfl Try.call19 rfl rfl rfl (lay_in.ct _ _ _ ht7) trivial ?_
      rintro _ _ ⟨rfl, rfl⟩
      refine SO.takeT rfl rfl rfl b3 ?_
      refine SO.v rfl (opv_not rfl) ?_
      cases h
      refine SO.v rfl (opv_pick_f' b3 rfl rfl) ?_
      exact hk2.fitc (m := 4) rfl (rfl) rfl
  clear hc5
  replace h := hgk
  refine SO.nil ?_
  rcases bool_or c4 with b8 | b8
  · replace h := cond_t b8 h
    refine S.condT rfl b8 ?_
    refine S.seq ?_
    refine S.region ?_
    refine SO.v rfl (opv_assign rfl) ?_
    refine SO.v rfl (opv_assign rfl) ?_
    refine SO.nil ?_
    cases h
    exact S.ret2 Try.func12 rfl rfl rfl (fun w hs hk => hR w _ _ ⟨rfl, rfl⟩ hs hk)
  · replace h := cond_f b8 h
    refine S.condF rfl b8 ?_
    refine S.skip ?_
    refine S.seq ?_
    refine S.region ?_
    refine SO.v rfl (opv_move rfl) ?_
    refine SO.v rfl (opv_mul rfl rfl) ?_
    refine SO.v rfl (opv_add rfl rfl) ?_
    refine SO.v rfl (opv_move rfl) ?_
    refine SO.v rfl (opv_add rfl rfl) ?_
    refine SO.v rfl (opv_assign rfl) ?_
    refine SO.v rfl (opv_assign rfl) ?_
    refine SO.nil ?_
    refine S.to (ρ' := [(4, .int .i64 (w64 ((w64 (480 + (w64 (a0 * 8)))) + a1))), (5, .bool true)]) ⟨rfl, rfl, trivial⟩ ?_
    cases h
    exact S.ret2 Try.func12 rfl rfl rfl (fun w hs hk => hR w _ _ ⟨rfl, rfl⟩ hs hk)
end Go.Proofs
namespace Go.Proofs
open Go.Sl Go.RowKit
/-! 13 padstone/lay.Size -/
def lay_Size.f : Option (Int) :=
  some 738
set_option maxHeartbeats 8000000 in
set_option maxRecDepth 100000 in
theorem lay_Size.ct (r0 : Int) (h : lay_Size.f  = some r0) :
    Ct Try.prog 13 [] (fun _ => True) [] (fun u H' => u = .int .i64 r0 ∧ H' = []) := by
  unfold lay_Size.f at h
  refine Ct.intro (n := 1) Try.func13 rfl rfl rfl ?_
  intro R w0 F hF hR
  refine S.seq ?_
  refine S.region ?_
  refine SO.v rfl (opv_assign rfl) ?_
  refine SO.nil ?_
  refine S.seq ?_
  refine S.region ?_
  refine SO.v rfl (opv_assign rfl) ?_
  refine SO.nil ?_
  cases h
  exact S.ret1 Try.func13 rfl rfl (fun w hs hk => hR w _ _ ⟨rfl, rfl⟩ hs hk)
end Go.Proofs
namespace Go.Proofs
open Go.Sl Go.RowKit
/-! 11 padstone/lay.Slot -/
def lay_Slot.f (a0 : Int) (a1 : Int) : Option ((Int × Bool)) :=
  (lay_in.f a0 96).bind fun t1 => (bif !t1 then (some true) else ((lay_in.f a1 5).bind fun t6 => some (!t6))).bind fun c4 => bif c4 then (some (0, false)) else (some (w64 ((w64 (a0 * 5)) + a1), true))
set_option maxHeartbeats 8000000 in
set_option maxRecDepth 100000 in
theorem lay_Slot.ct (a0 : Int) (a1 : Int) (r0 : Int) (r1 : Bool) (h : lay_Slot.f a0 a1 = some (r0, r1)) :
    Ct Try.prog 11 [.int .i64 a0, .int .i64 a1] (fun _ => True) [] (fun u H' => u = .tuple #[.int .i64 r0, .bool r1] ∧ H' = []) := by
  unfold lay_Slot.f at h
  refine Ct.intro (n := 18) Try.func11 rfl rfl rfl ?_
  intro R w0 F hF hR
  refine S.seq ?_
  refine S.region ?_
  refine SO.v rfl (opv_assign rfl) ?_
  refine SO.v rfl (opv_assign rfl) ?_
  refine SO.nil ?_
  refine S.seq ?_
  refine S.seq ?_
  refine S.region ?_
  refine SO.v rfl (opv_move rfl) ?_
  obtain ⟨t1, ht2, h⟩ := opt_bind h
  refine SO.call (pre := []) rfl Try.call19 rfl rfl rfl (lay_in.ct _ _ _ ht2) trivial ?_
  rintro _ _ ⟨rfl, rfl⟩
  refine SO.v rfl (opv_not rfl) ?_
  refine SO.v rfl (opv_move rfl) ?_
  obtain ⟨c4, hc5, hgk⟩ := opt_bind h
  refine SO.cut 4 13 (.bool c4) [F] (fun l2 hk2 => ?_) ?_
  · clear hgk
    replace h := hc5
    rcases bool_or (!t1) with b3 | b3
    · replace h := cond_t b3 h
      refine SO.passF rfl rfl rfl b3 rfl rfl ?_
      refine SO.passF rfl rfl rfl b3 rfl rfl ?_
      refine SO.passF rfl rfl rfl b3 rfl rfl ?_
      cases h
      refine SO.v rfl (opv_pick_t' b3 rfl rfl) ?_
      exact hk2.fitc (m := 4) rfl (rfl) rfl
    · replace h := cond_f b3 h
      refine SO.takeT rfl rfl rfl b3 ?_
      refine SO.v rfl (opv_move rfl) ?_
      refine SO.takeT rfl rfl rfl b3 ?_
      obtain ⟨t6, ht7, h⟩ := opt_bind h
      refine SO.call (pre := []) rfl Try.call19 rfl rfl rfl (lay_in.ct _ _ _ ht7) trivial ?_
      rintro _ _ ⟨rfl, rfl⟩
      refine SO.takeT rfl rfl rfl b3 ?_
      refine SO.v rfl (opv_not rfl) ?_
      cases h
      refine SO.v rfl (opv_pick_f' b3 rfl rfl) ?_
      exact hk2.fitc (m := 4) rfl (rfl) rfl
  clear hc5
  replace h := hgk
  refine SO.nil ?_
  rcases bool_or c4 with b8 | b8
  · replace h := cond_t b8 h
    refine S.condT rfl b8 ?_
    refine S.seq ?_
    refine S.region ?_
    refine SO.v rfl (opv_assign rfl) ?_
    refine SO.v rfl (opv_assign rfl) ?_
    refine SO.nil ?_
    cases h
    exact S.ret2 Try.func11 rfl rfl rfl (fun w hs hk => hR w _ _ ⟨rfl, rfl⟩ hs hk)
  · replace h := cond_f b8 h
    refine S.condF rfl b8 ?_
    refine S.skip ?_
    refine S.seq ?_
    refine S.region ?_
    refine SO.v rfl (opv_move rfl) ?_
    refine SO.v rfl (opv_mul rfl rfl) ?_
    refine SO.v rfl (opv_move rfl) ?_
    refine SO.v rfl (opv_add rfl rfl) ?_
    refine SO.v rfl (opv_assign rfl) ?_
    refine SO.v rfl (opv_assign rfl) ?_
    refine SO.nil ?_
    refine S.to (ρ' := [(4, .int .i64 (w64 ((w64 (a0 * 5)) + a1))), (5, .bool true)]) ⟨rfl, rfl, trivial⟩ ?_
    cases h
    exact S.ret2 Try.func11 rfl rfl rfl (fun w hs hk => hR w _ _ ⟨rfl, rfl⟩ hs hk)
end Go.Proofs
namespace Go.Proofs
open Go.Sl Go.RowKit
/-! 6 padstone/padstonelaw09.up -/
def law09_up.f : Option (Bool) :=
  (lay_Slot.f 1 1).bind fun (t1, t2) => (lay_Obj.f 32 0).bind fun (t4, t5) => (bif ((t1 == 6) && t2) && (!t5) then ((lay_Size.f ).bind fun t12 => some (t12 == 738)) else (some false)).bind fun c10 => some c10
set_option maxHeartbeats 8000000 in
set_option maxRecDepth 100000 in
theorem law09_up.ct (r0 : Bool) (h : law09_up.f  = some r0) :
    Ct Try.prog 6 [] (fun _ => True) [] (fun u H' => u = .bool r0 ∧ H' = []) := by
  unfold law09_up.f at h
  refine Ct.intro (n := 26) Try.func6 rfl rfl rfl ?_
  intro R w0 F hF hR
  refine S.seq ?_
  refine S.region ?_
  refine SO.v rfl (opv_assign rfl) ?_
  refine SO.nil ?_
  refine S.seq ?_
  refine S.region ?_
  obtain ⟨⟨t1, t2⟩, ht3, h⟩ := opt_bind h
  refine SO.call (pre := []) rfl Try.call11 rfl rfl rfl (lay_Slot.ct _ _ _ _ ht3) trivial ?_
  rintro _ _ ⟨rfl, rfl⟩
  refine SO.v rfl (opv_move rfl) ?_
  refine SO.v rfl (opv_extract rfl rfl) ?_
  refine SO.v rfl (opv_extract rfl rfl) ?_
  refine SO.v rfl (opv_assign rfl) ?_
  refine SO.v rfl (opv_assign rfl) ?_
  refine SO.nil ?_
  refine S.seq ?_
  refine S.region ?_
  obtain ⟨⟨t4, t5⟩, ht6, h⟩ := opt_bind h
  refine SO.call (pre := []) rfl Try.call12 rfl rfl rfl (lay_Obj.ct _ _ _ _ ht6) trivial ?_
  rintro _ _ ⟨rfl, rfl⟩
  refine SO.v rfl (opv_move rfl) ?_
  refine SO.v rfl (opv_extract rfl rfl) ?_
  refine SO.v rfl (opv_extract rfl rfl) ?_
  refine SO.v rfl (opv_assign rfl) ?_
  refine SO.v rfl (opv_assign rfl) ?_
  refine SO.nil ?_
  refine S.to (ρ' := [(0, .bool false), (1, .int .i64 t1), (2, .bool t2), (4, .bool t5)]) ⟨rfl, rfl, rfl, rfl, trivial⟩ ?_
  refine S.seq ?_
  refine S.region ?_
  refine SO.v rfl (opv_move rfl) ?_
  refine SO.v rfl (opv_eql rfl rfl) ?_
  refine SO.v rfl (opv_move rfl) ?_
  refine SO.cut 2 17 (.bool ((t1 == 6) && t2)) [F] (fun l2 hk2 => ?_) ?_
  · rcases bool_or (t1 == 6) with b7 | b7
    · refine SO.takeT rfl rfl rfl b7 ?_
      refine SO.v rfl (opv_move rfl) ?_
      refine SO.v rfl (opv_pick_t' b7 rfl rfl) ?_
      exact hk2.fitc (m := 2) rfl (and_t b7) rfl
    · refine SO.passF rfl rfl rfl b7 rfl rfl ?_
      refine SO.v rfl (opv_pick_f' b7 rfl rfl) ?_
      exact hk2.fitc (m := 2) rfl (and_f b7) rfl
  refine SO.v rfl (opv_move rfl) ?_
  refine SO.cut 3 21 (.bool (((t1 == 6) && t2) && (!t5))) [F] (fun l2 hk2 => ?_) ?_
  · rcases bool_or ((t1 == 6) && t2) with b8 | b8
    · refine SO.takeT rfl rfl rfl b8 ?_
      refine SO.v rfl (opv_move rfl) ?_
      refine SO.takeT rfl rfl rfl b8 ?_
      refine SO.v rfl (opv_not rfl) ?_
      refine SO.v rfl (opv_pick_t' b8 rfl rfl) ?_
      exact hk2.fitc (m := 3) rfl (and_t b8) rfl
    · refine SO.passF rfl rfl rfl b8 rfl rfl ?_
      refine SO.passF rfl rfl rfl b8 rfl rfl ?_
      refine SO.v rfl (opv_pick_f' b8 rfl rfl) ?_
      exact hk2.fitc (m := 3) rfl (and_f b8) rfl
  refine SO.v rfl (opv_move rfl) ?_
  obtain ⟨c10, hc11, hgk⟩ := opt_bind h
  refine SO.cut 3 25 (.bool c10) [F] (fun l2 hk2 => ?_) ?_
  · clear hgk
    replace h := hc11
    rcases bool_or (((t1 == 6) && t2) && (!t5)) with b9 | b9
    · replace h := cond_t b9 h
      refine SO.takeT rfl rfl rfl b9 ?_
      obtain ⟨t12, ht13, h⟩ := opt_bind h
      refine SO.call (pre := []) rfl Try.call13 rfl rfl rfl (lay_Size.ct _ ht13) trivial ?_
      rintro _ _ ⟨rfl, rfl⟩
      refine SO.takeT rfl rfl rfl b9 ?_
      refine SO.v rfl (opv_eql rfl rfl) ?_
      cases h
      refine SO.v rfl (opv_pick_t' b9 rfl rfl) ?_
      exact hk2.fitc (m := 3) rfl (rfl) rfl
    · replace h := cond_f b9 h
      refine SO.passF rfl rfl rfl b9 rfl rfl ?_
      refine SO.passF rfl rfl rfl b9 rfl rfl ?_
      cases h
      refine SO.v rfl (opv_pick_f' b9 rfl rfl) ?_
      exact hk2.fitc (m := 3) rfl (rfl) rfl
  clear hc11
  replace h := hgk
  refine SO.v rfl (opv_assign rfl) ?_
  refine SO.nil ?_
  refine S.to (ρ' := [(0, .bool c10)]) ⟨rfl, trivial⟩ ?_
  cases h
  exact S.ret1 Try.func6 rfl rfl (fun w hs hk => hR w _ _ ⟨rfl, rfl⟩ hs hk)
end Go.Proofs
namespace Go.Proofs
open Go.Sl Go.RowKit
/-! 7 padstone/padstonelaw09.words -/
def law09_words.l1 (a0 : List Int) : Nat → (Int × (List Int)) → Option ((List Int))
  | 0, _ => none
  | k + 1, (x4_1, qv1_1) => bif (decide (x4_1 < (a0.length : Int))) && (decide (x4_1 < 738)) then ((at_ a0 x4_1).bind fun x8 => (at_ qv1_1 x4_1).bind fun x10 => law09_words.l1 a0 k (w64 (x4_1 + 1), qv1_1.set x4_1.toNat x8)) else (some qv1_1)
def law09_words.f (k : Nat) (a0 : List Int) : Option ((List Int)) :=
  (mk_ 0 738).bind fun xs3 => (law09_words.l1 a0 k (0, xs3)).bind fun qv1_e1 => some qv1_e1
set_option maxHeartbeats 8000000 in
set_option maxRecDepth 100000 in
theorem law09_words.ct (k : Nat) (v0 : Value) (a0 : List Int) (r0 : List Int) (h : law09_words.f k a0 = some r0) :
    Ct Try.prog 7 [v0] (fun F => Rd (ekI .u64) v0 a0 F) [] (fun u H' => ∃ v_r0, u = v_r0 ∧ H' = [Own 22 (ekI .u64) v_r0 r0]) := by
  unfold law09_words.f at h
  refine Ct.intro (n := 24) Try.func7 rfl rfl rfl ?_
  intro R w0 F hF hR
  have hF0 := hF
  refine S.seq ?_
  refine S.region ?_
  refine SO.v rfl (opv_assign rfl) ?_
  refine SO.nil ?_
  refine S.seq ?_
  refine S.region ?_
  obtain ⟨xs3, hx4, h⟩ := opt_bind h
  refine SO.makeSlice (K := ekI .u64) rfl Try.underlying25 inf22 rfl rfl rfl (by decide) rfl rfl rfl hx4 (fun v1 hr2 => ?_)
  refine SO.v rfl (opv_assign rfl) ?_
  refine SO.nil ?_
  refine S.seq ?_
  refine S.seq ?_
  refine S.region ?_
  refine SO.v rfl (opv_assign rfl) ?_
  refine SO.nil ?_
  obtain ⟨qv1_e1, hl1, h⟩ := opt_bind h
  refine S.b1 ?_
  refine S.b1 ?_
  refine S.to (ρ' := [(4, .int .i64 0), (3, v1), (2, .slice none 0 0), (0, v0)]) ⟨rfl, rfl, rfl, rfl, trivial⟩ ?_
  refine S.forloop (X := (Int × (List Int)) × Unit) (O := (List Int)) (fun m x => law09_words.l1 a0 m x.1) (fun x => match x with | ((x4_1, qv1_1), _) => [(4, .int .i64 x4_1), (3, v1), (2, .slice none 0 0), (0, v0)]) (fun x => match x with | ((x4_1, qv1_1), _) => [Own 22 (ekI .u64) v1 qv1_1, F]) (fun Sk => (fun qv1_e1 => ∀ _ : Unit, Sk [(2, .slice none 0 0), (3, v1)] [Own 22 (ekI .u64) v1 qv1_e1, F])) (fun _ => rfl) ?_ (m := k) (x := ((0, xs3), ())) hl1 ?_
  · clear h hl1
    intro k x o_1 h hK1 ih1
    obtain ⟨⟨x4_1, qv1_1⟩, _⟩ := x
    replace h : law09_words.l1 a0 (k + 1) (x4_1, qv1_1) = some o_1 := h
    first | rw [law09_words.l1] at h | unfold law09_words.l1 at h
    refine S.rd fun hr5 => ?_
    refine S.seq ?_
    refine S.seq ?_
    refine S.region ?_
    refine SO.v rfl (opv_move rfl) ?_
    refine SO.v rfl (opv_move rfl) ?_
    refine SO.v rfl (opv_lenR rfl Try.underlying25 hF0 rfl) ?_
    refine SO.v rfl (opv_lss rfl rfl) ?_
    refine SO.v rfl (opv_move rfl) ?_
    refine SO.cut 3 13 (.bool ((decide (x4_1 < (a0.length : Int))) && (decide (x4_1 < 738)))) [Own 22 (ekI .u64) v1 qv1_1, F] (fun l2 hk2 => ?_) ?_
    · rcases bool_or (decide (x4_1 < (a0.length : Int))) with b6 | b6
      · refine SO.takeT rfl rfl rfl b6 ?_
        refine SO.v rfl (opv_move rfl) ?_
        refine SO.takeT rfl rfl rfl b6 ?_
        refine SO.v rfl (opv_lss rfl rfl) ?_
        refine SO.v rfl (opv_pick_t' b6 rfl rfl) ?_
        refine SO.b1 ?_
        refine SO.b1 ?_
        exact hk2.fitc (m := 3) rfl (and_t b6) rfl
      · refine SO.passF rfl rfl rfl b6 rfl rfl ?_
        refine SO.passF rfl rfl rfl b6 rfl rfl ?_
        refine SO.v rfl (opv_pick_f' b6 rfl rfl) ?_
        refine SO.b1 ?_
        refine SO.b1 ?_
        exact hk2.fitc (m := 3) rfl (and_f b6) rfl
    refine SO.nil ?_
    rcases bool_or ((decide (x4_1 < (a0.length : Int))) && (decide (x4_1 < 738))) with b7 | b7
    · replace h := cond_t b7 h
      refine S.condT rfl b7 ?_
      refine S.skip ?_
      refine S.seq ?_
      refine S.block ?_
      refine S.region ?_
      refine SO.v rfl (opv_move rfl) ?_
      refine SO.v rfl (opv_move rfl) ?_
      refine SO.v rfl (opv_move rfl) ?_
      refine SO.v rfl (opv_move rfl) ?_
      obtain ⟨x8, hx9, h⟩ := opt_bind h
      refine SO.v rfl (opv_idx Try.underlying25 Try.sizeOf22 hF0 rfl rfl hx9) ?_
      refine SO.loadI1 (j := 0) rfl Try.isAgg22 (Rd.tail (Rd.head hF0)) hx9 rfl rfl rfl rfl ?_
      obtain ⟨x10, hx11, h⟩ := opt_bind h
      refine SO.v rfl (opv_idx Try.underlying25 Try.sizeOf22 hr5 rfl rfl hx11) ?_
      refine SO.storeI1 (j := 0) (z' := x8) Try.sizeOf22 hx11 rfl rfl rfl rfl rfl rfl ?_
      refine SO.rd fun hr12 => ?_
      refine SO.nil ?_
      refine S.inBlock ?_
      refine S.region ?_
      refine SO.v rfl (opv_move rfl) ?_
      refine SO.v rfl (opv_add rfl rfl) ?_
      refine SO.v rfl (opv_assign rfl) ?_
      refine SO.nil ?_
      refine S.b1 ?_
      refine S.b1 ?_
      refine S.to ?_ (ih1 ((w64 (x4_1 + 1), qv1_1.set x4_1.toNat x8), ()) h)
      exact ⟨rfl, rfl, rfl, rfl, trivial⟩
    · replace h := cond_f b7 h
      refine S.condF rfl b7 ?_
      refine S.exit rfl ?_
      cases h
      refine S.b1 ?_
      refine S.b1 ?_
      refine S.to ?_ (hK1 ())
      exact ⟨rfl, rfl, trivial⟩
  rintro _
  refine S.rd fun hr13 => ?_
  refine S.seq ?_
  refine S.region ?_
  refine SO.v rfl (opv_move rfl) ?_
  refine SO.v rfl (opv_assign rfl) ?_
  refine SO.nil ?_
  cases h
  refine S.b1 ?_
  refine S.b1 ?_
  exact S.ret1 Try.func7 rfl rfl (fun w hs hk => hR w _ _ ⟨v1, rfl, rfl⟩ hs hk)
end Go.Proofs
namespace Go.Proofs
open Go.Sl Go.RowKit
/-! 8 padstone/lay.Used -/
def lay_Used.f : VM ((Int × Int)) :=
  VM.rd 736 fun t1 => VM.rd 737 fun t4 => VM.ret (w64 (if 96 < t1 then 96 else t1), w64 (if 32 < t4 then 32 else t4))
set_option maxHeartbeats 8000000 in
set_option maxRecDepth 100000 in
theorem lay_Used.ct (V : VW Try.prog) (r0 : Int) (r1 : Int) (s s' : V.S) (h : VM.run V.toVI (lay_Used.f ) s = some ((r0, r1), s')) :
    Ct Try.prog 8 [V.val] (fun _ => True) [V.rep s] (fun u H' => u = .tuple #[.int .i64 r0, .int .i64 r1] ∧ H' = [V.rep s']) := by
  unfold lay_Used.f at h
  refine Ct.intro (n := 12) Try.func8 rfl rfl rfl ?_
  intro R w0 F hF hR
  refine S.seq ?_
  refine S.region ?_
  refine SO.v rfl (opv_assign rfl) ?_
  refine SO.v rfl (opv_assign rfl) ?_
  refine SO.nil ?_
  refine S.seq ?_
  refine S.region ?_
  refine SO.v rfl (opv_move rfl) ?_
  obtain ⟨t1, s2, hv3, h⟩ := VM.rd_some V.toVI h
  refine SO.vread' V rfl rfl rfl hv3 ?_
  refine SO.v rfl (opv_min rfl rfl) ?_
  refine SO.v rfl (opv_conv Try.underlying22 Try.underlying3 rfl) ?_
  refine SO.v rfl (opv_move rfl) ?_
  obtain ⟨t4, s5, hv6, h⟩ := VM.rd_some V.toVI h
  refine SO.vread' V rfl rfl rfl hv6 ?_
  refine SO.v rfl (opv_min rfl rfl) ?_
  refine SO.v rfl (opv_conv Try.underlying22 Try.underlying3 rfl) ?_
  refine SO.v rfl (opv_assign rfl) ?_
  refine SO.v rfl (opv_assign rfl) ?_
  refine SO.nil ?_
  refine S.to (ρ' := [(2, .int .i64 (w64 (if 96 < t1 then 96 else t1))), (3, .int .i64 (w64 (if 32 < t4 then 32 else t4)))]) ⟨rfl, rfl, trivial⟩ ?_
  obtain ⟨hq, rfl⟩ := VM.ret_some V.toVI h
  cases hq
  refine S.b1 ?_
  refine S.b1 ?_
  exact S.ret2 Try.func8 rfl rfl rfl (fun w hs hk => hR w _ _ ⟨rfl, rfl⟩ hs hk)
end Go.Proofs
namespace Go.Proofs
open Go.Sl Go.RowKit
/-! 9 padstone/lay.Take -/
def lay_Take.f (a1 : Int) (a2 : Int) : VM ((Int × Int × (Option Int))) :=
  bif (decide (a1 < 0)) || (decide (a2 < 0)) then (VM.ret (0, 0, (some 1))) else ((lay_Used.f ).bind fun (t3, t4) => bif (decide ((w64 (96 - t3)) < a1)) || (decide ((w64 (32 - t4)) < a2)) then (VM.ret (0, 0, (some 7))) else (VM.wr 736 (wu64 (w64 (t3 + a1))) (VM.wr 737 (wu64 (w64 (t4 + a2))) (VM.ret (t3, t4, none)))))
set_option maxHeartbeats 8000000 in
set_option maxRecDepth 100000 in
theorem lay_Take.ct (V : VW Try.prog) (a1 : Int) (a2 : Int) (r0 : Int) (r1 : Int) (r2 : Option Int) (s s' : V.S) (h : VM.run V.toVI (lay_Take.f a1 a2) s = some ((r0, r1, r2), s')) :
    Ct Try.prog 9 [V.val, .int .i64 a1, .int .i64 a2] (fun _ => True) [V.rep s] (fun u H' => u = .tuple #[.int .i64 r0, .int .i64 r1, errV 50 r2] ∧ H' = [V.rep s']) := by
  unfold lay_Take.f at h
  refine Ct.intro (n := 48) Try.func9 rfl rfl rfl ?_
  intro R w0 F hF hR
  refine S.seq ?_
  refine S.region ?_
  refine SO.v rfl (opv_assign rfl) ?_
  refine SO.v rfl (opv_assign rfl) ?_
  refine SO.v rfl (opv_assign rfl) ?_
  refine SO.nil ?_
  refine S.seq ?_
  refine S.seq ?_
  refine S.region ?_
  refine SO.v rfl (opv_move rfl) ?_
  refine SO.v rfl (opv_lss rfl rfl) ?_
  refine SO.v rfl (opv_move rfl) ?_
  refine SO.cut 3 16 (.bool ((decide (a1 < 0)) || (decide (a2 < 0)))) [V.rep s, F] (fun l2 hk2 => ?_) ?_
  · rcases bool_or (decide (a1 < 0)) with b1 | b1
    · refine SO.passF rfl rfl rfl b1 rfl rfl ?_
      refine SO.passF rfl rfl rfl b1 rfl rfl ?_
      refine SO.v rfl (opv_pick_t' b1 rfl rfl) ?_
      refine SO.b1 ?_
      refine SO.b1 ?_
      exact hk2.fitc (m := 3) rfl (or_t b1) rfl
    · refine SO.takeT rfl rfl rfl b1 ?_
      refine SO.v rfl (opv_move rfl) ?_
      refine SO.takeT rfl rfl rfl b1 ?_
      refine SO.v rfl (opv_lss rfl rfl) ?_
      refine SO.v rfl (opv_pick_f' b1 rfl rfl) ?_
      refine SO.b1 ?_
      refine SO.b1 ?_
      exact hk2.fitc (m := 3) rfl (or_f b1) rfl
  refine SO.nil ?_
  rcases bool_or ((decide (a1 < 0)) || (decide (a2 < 0))) with b2 | b2
  · replace h := VM.cond_t V.toVI b2 h
    refine S.condT rfl b2 ?_
    refine S.seq ?_
    refine S.region ?_
    refine SO.v rfl (opv_iface Try.underlying50 rfl rfl) ?_
    refine SO.v rfl (opv_assign rfl) ?_
    refine SO.v rfl (opv_assign rfl) ?_
    refine SO.v rfl (opv_assign rfl) ?_
    refine SO.nil ?_
    obtain ⟨hq, rfl⟩ := VM.ret_some V.toVI h
    cases hq
    refine S.b1 ?_
    refine S.b1 ?_
    exact S.ret3 Try.func9 rfl rfl rfl rfl (fun w hs hk => hR w _ _ ⟨rfl, rfl⟩ hs hk)
  · replace h := VM.cond_f V.toVI b2 h
    refine S.condF rfl b2 ?_
    refine S.skip ?_
    refine S.seq ?_
    refine S.region ?_
    refine SO.v rfl (opv_move rfl) ?_
    obtain ⟨⟨t3, t4⟩, s6, ht5, h⟩ := VM.bind_some V.toVI h
    refine SO.call (pre := [V.rep _]) rfl Try.call8 rfl rfl rfl (lay_Used.ct V _ _ _ _ ht5) trivial ?_
    rintro _ _ ⟨rfl, rfl⟩
    refine SO.v rfl (opv_move rfl) ?_
    refine SO.v rfl (opv_extract rfl rfl) ?_
    refine SO.v rfl (opv_extract rfl rfl) ?_
    refine SO.v rfl (opv_assign rfl) ?_
    refine SO.v rfl (opv_assign rfl) ?_
    refine SO.nil ?_
    refine S.to (ρ' := [(0, V.val), (1, .int .i64 a1), (2, .int .i64 a2), (6, .int .i64 0), (7, .int .i64 0), (8, errV 50 none), (9, .int .i64 t3), (10, .int .i64 t4)]) ⟨rfl, rfl, rfl, rfl, rfl, rfl, rfl, rfl, trivial⟩ ?_
    refine S.seq ?_
    refine S.seq ?_
    refine S.region ?_
    refine SO.v rfl (opv_move rfl) ?_
    refine SO.v rfl (opv_move rfl) ?_
    refine SO.v rfl (opv_sub rfl rfl) ?_
    refine SO.v rfl (opv_gtr rfl rfl) ?_
    refine SO.v rfl (opv_move rfl) ?_
    refine SO.cut 5 32 (.bool ((decide ((w64 (96 - t3)) < a1)) || (decide ((w64 (32 - t4)) < a2)))) [V.rep s6, F] (fun l2 hk2 => ?_) ?_
    · rcases bool_or (decide ((w64 (96 - t3)) < a1)) with b7 | b7
      · refine SO.passF rfl rfl rfl b7 rfl rfl ?_
        refine SO.passF rfl rfl rfl b7 rfl rfl ?_
        refine SO.passF rfl rfl rfl b7 rfl rfl ?_
        refine SO.passF rfl rfl rfl b7 rfl rfl ?_
        refine SO.v rfl (opv_pick_t' b7 rfl rfl) ?_
        refine SO.b1 ?_
        refine SO.b1 ?_
        exact hk2.fitc (m := 5) rfl (or_t b7) rfl
      · refine SO.takeT rfl rfl rfl b7 ?_
        refine SO.v rfl (opv_move rfl) ?_
        refine SO.takeT rfl rfl rfl b7 ?_
        refine SO.v rfl (opv_move rfl) ?_
        refine SO.takeT rfl rfl rfl b7 ?_
        refine SO.v rfl (opv_sub rfl rfl) ?_
        refine SO.takeT rfl rfl rfl b7 ?_
        refine SO.v rfl (opv_gtr rfl rfl) ?_
        refine SO.v rfl (opv_pick_f' b7 rfl rfl) ?_
        refine SO.b1 ?_
        refine SO.b1 ?_
        exact hk2.fitc (m := 5) rfl (or_f b7) rfl
    refine SO.nil ?_
    rcases bool_or ((decide ((w64 (96 - t3)) < a1)) || (decide ((w64 (32 - t4)) < a2))) with b8 | b8
    · replace h := VM.cond_t V.toVI b8 h
      refine S.condT rfl b8 ?_
      refine S.seq ?_
      refine S.region ?_
      refine SO.v rfl (opv_iface Try.underlying50 rfl rfl) ?_
      refine SO.v rfl (opv_assign rfl) ?_
      refine SO.v rfl (opv_assign rfl) ?_
      refine SO.v rfl (opv_assign rfl) ?_
      refine SO.nil ?_
      refine S.to (ρ' := [(0, V.val), (1, .int .i64 a1), (2, .int .i64 a2), (6, .int .i64 0), (7, .int .i64 0), (8, errV 50 (some 7)), (9, .int .i64 t3), (10, .int .i64 t4)]) ⟨rfl, rfl, rfl, rfl, rfl, rfl, rfl, rfl, trivial⟩ ?_
      obtain ⟨hq, rfl⟩ := VM.ret_some V.toVI h
      cases hq
      refine S.b1 ?_
      refine S.b1 ?_
      exact S.ret3 Try.func9 rfl rfl rfl rfl (fun w hs hk => hR w _ _ ⟨rfl, rfl⟩ hs hk)
    · replace h := VM.cond_f V.toVI b8 h
      refine S.condF rfl b8 ?_
      refine S.skip ?_
      refine S.seq ?_
      refine S.region ?_
      refine SO.v rfl (opv_move rfl) ?_
      refine SO.v rfl (opv_move rfl) ?_
      refine SO.v rfl (opv_move rfl) ?_
      refine SO.v rfl (opv_add rfl rfl) ?_
      refine SO.v rfl (opv_conv Try.underlying3 Try.underlying22 rfl) ?_
      obtain ⟨s9, hv10, h⟩ := VM.wr_some V.toVI h
      refine SO.vwrite' V rfl rfl rfl rfl hv10 ?_
      refine SO.nil ?_
      refine S.to (ρ' := [(0, V.val), (2, .int .i64 a2), (6, .int .i64 0), (7, .int .i64 0), (8, errV 50 none), (9, .int .i64 t3), (10, .int .i64 t4)]) ⟨rfl, rfl, rfl, rfl, rfl, rfl, rfl, trivial⟩ ?_
      refine S.seq ?_
      refine S.region ?_
      refine SO.v rfl (opv_move rfl) ?_
      refine SO.v rfl (opv_move rfl) ?_
      refine SO.v rfl (opv_move rfl) ?_
      refine SO.v rfl (opv_add rfl rfl) ?_
      refine SO.v rfl (opv_conv Try.underlying3 Try.underlying22 rfl) ?_
      obtain ⟨s11, hv12, h⟩ := VM.wr_some V.toVI h
      refine SO.vwrite' V rfl rfl rfl rfl hv12 ?_
      refine SO.nil ?_
      refine S.to (ρ' := [(6, .int .i64 0), (7, .int .i64 0), (8, errV 50 none), (9, .int .i64 t3), (10, .int .i64 t4)]) ⟨rfl, rfl, rfl, rfl, rfl, trivial⟩ ?_
      refine S.seq ?_
      refine S.region ?_
      refine SO.v rfl (opv_move rfl) ?_
      refine SO.v rfl (opv_move rfl) ?_
      refine SO.v rfl (opv_assign rfl) ?_
      refine SO.v rfl (opv_assign rfl) ?_
      refine SO.v rfl (opv_assign rfl) ?_
      refine SO.nil ?_
      obtain ⟨hq, rfl⟩ := VM.ret_some V.toVI h
      cases hq
      refine S.b1 ?_
      refine S.b1 ?_
      exact S.ret3 Try.func9 rfl rfl rfl rfl (fun w hs hk => hR w _ _ ⟨rfl, rfl⟩ hs hk)
end Go.Proofs
namespace Go.Proofs
open Go.Sl Go.RowKit
/-! 3 padstone/padstonelaw09.LayTakes -/
def law09_LayTakes.l3 (a2 : List (List Int)) : Nat → (Int × Int × Int × (List Int)) → Option (Brk Bool (Int × Int × (List Int)))
  | 0, _ => none
  | k + 1, (x11_3, x9_3, x10_3, qv5_3) => bif (decide (x11_3 < (a2.length : Int))) && (decide (x11_3 < 100)) then ((VM.run plainI (lay_Used.f ) qv5_3).bind fun ((t18, t19), s21) => bif (t18 != x9_3) || (t19 != x10_3) then (some (Brk.ret false)) else ((at_ a2 x11_3).bind fun x25 => bif (x25.length : Int) != 2 then (law09_LayTakes.l3 a2 k (w64 (x11_3 + 1), x9_3, x10_3, s21)) else ((at_ a2 x11_3).bind fun x31 => (at_ x31 0).bind fun x36 => (at_ a2 x11_3).bind fun x38 => (at_ x38 1).bind fun x43 => (VM.run plainI (lay_Take.f x36 x43) s21).bind fun ((t45, t46, t47), s49) => (at_ a2 x11_3).bind fun x51 => (at_ x51 0).bind fun x56 => (bif decide (x56 < 0) then (some true) else ((at_ a2 x11_3).bind fun x61 => (at_ x61 1).bind fun x66 => some (decide (x66 < 0)))).bind fun c59 => (bif c59 then (some 1) else ((at_ a2 x11_3).bind fun x69 => (at_ x69 0).bind fun x74 => (bif decide ((w64 (96 - x9_3)) < x74) then (some true) else ((at_ a2 x11_3).bind fun x79 => (at_ x79 1).bind fun x84 => some (decide ((w64 (32 - x10_3)) < x84)))).bind fun c77 => bif c77 then (some 7) else (some 0))).bind fun j17_4 => (law00_Code.f k t47).bind fun t87 => bif t87 != j17_4 then (some (Brk.ret false)) else (bif j17_4 != 0 then (bif (t45 != 0) || (t46 != 0) then (some (Brk.ret false)) else (law09_LayTakes.l3 a2 k (w64 (x11_3 + 1), x9_3, x10_3, s49))) else (bif (t45 != x9_3) || (t46 != x10_3) then (some (Brk.ret false)) else ((at_ a2 x11_3).bind fun x95 => (at_ x95 0).bind fun x100 => (at_ a2 x11_3).bind fun x102 => (at_ x102 1).bind fun x107 => law09_LayTakes.l3 a2 k (w64 (x11_3 + 1), w64 (x9_3 + x100), w64 (x10_3 + x107), s49))))))) else (some (Brk.nx (x9_3, x10_3, qv5_3)))
def law09_LayTakes.f (k : Nat) (a0 : Int) (a1 : Int) (a2 : List (List Int)) : Option (Bool) :=
  (law09_up.f ).bind fun t1 => (law09_words.f k ([])).bind fun t3 => (at_ t3 736).bind fun x7 => (at_ (t3.set (736 : Int).toNat a0) 737).bind fun x10 => (bif decide (a0 < 96) then (some (w64 a0)) else (some 96)).bind fun j9_1 => (bif decide (a1 < 32) then (some (w64 a1)) else (some 32)).bind fun j10_2 => (law09_LayTakes.l3 a2 k (0, j9_1, j10_2, (t3.set (736 : Int).toNat a0).set (737 : Int).toNat a1)).bind fun o3 => Brk.go o3 (fun r => some r) (fun (j9_e3, j10_e3, qv5_e3) => (VM.run plainI (lay_Used.f ) qv5_e3).bind fun ((t110, t111), s113) => some ((t1 && (t110 == j9_e3)) && (t111 == j10_e3)))
set_option maxHeartbeats 8000000 in
set_option maxRecDepth 100000 in
theorem law09_LayTakes.ct (k : Nat) (v2 : Value) (a0 : Int) (a1 : Int) (a2 : List (List Int)) (r0 : Bool) (h : law09_LayTakes.f k a0 a1 a2 = some r0) :
    Ct Try.prog 3 [.int .u64 a0, .int .u64 a1, v2] (fun F => Rd2 (ekI .i64) v2 a2 F) [] (fun u H' => u = .bool r0 ∧ H' = []) := by
  unfold law09_LayTakes.f at h
  refine Ct.intro (n := 174) Try.func3 rfl rfl rfl ?_
  intro R w0 F hF hR
  have hF2 := hF
  obtain ⟨vs2, hF2, hl2, hR2⟩ := hF2
  refine S.seq ?_
  refine S.region ?_
  refine SO.v rfl (opv_assign rfl) ?_
  refine SO.nil ?_
  refine S.seq ?_
  refine S.region ?_
  obtain ⟨t1, ht2, h⟩ := opt_bind h
  refine SO.call (pre := []) rfl Try.call6 rfl rfl rfl (law09_up.ct _ ht2) trivial ?_
  rintro _ _ ⟨rfl, rfl⟩
  refine SO.v rfl (opv_assign rfl) ?_
  refine SO.nil ?_
  refine S.seq ?_
  refine S.region ?_
  obtain ⟨t3, ht4, h⟩ := opt_bind h
  refine SO.call (pre := []) rfl Try.call7 rfl rfl rfl (law09_words.ct _ _ _ _ ht4) ⟨none, 0, rfl, fun _ _ h => by simp at h⟩ ?_
  rintro v5 _ ⟨_, rfl, rfl⟩
  refine SO.rd fun hr6 => ?_
  refine SO.v rfl (opv_assign rfl) ?_
  refine SO.nil ?_
  refine S.seq ?_
  refine S.region ?_
  refine SO.v rfl (opv_move rfl) ?_
  refine SO.v rfl (opv_move rfl) ?_
  obtain ⟨x7, hx8, h⟩ := opt_bind h
  refine SO.v rfl (opv_idx Try.underlying26 Try.sizeOf22 hr6 rfl rfl hx8) ?_
  refine SO.storeI1 (j := 0) (z' := a0) Try.sizeOf22 hx8 rfl rfl rfl rfl rfl rfl ?_
  refine SO.rd fun hr9 => ?_
  refine SO.nil ?_
  refine S.seq ?_
  refine S.region ?_
  refine SO.v rfl (opv_move rfl) ?_
  refine SO.v rfl (opv_move rfl) ?_
  obtain ⟨x10, hx11, h⟩ := opt_bind h
  refine SO.v rfl (opv_idx Try.underlying26 Try.sizeOf22 hr9 rfl rfl hx11) ?_
  refine SO.storeI1 (j := 0) (z' := a1) Try.sizeOf22 hx11 rfl rfl rfl rfl rfl rfl ?_
  refine SO.rd fun hr12 => ?_
  refine SO.nil ?_
  refine S.to (ρ' := [(0, .int .u64 a0), (1, .int .u64 a1), (2, v2), (6, .bool false), (7, .bool t1), (8, v5)]) ⟨rfl, rfl, rfl, rfl, rfl, rfl, trivial⟩ ?_
  refine S.seq ?_
  refine S.region ?_
  refine SO.v rfl (opv_assign rfl) ?_
  refine SO.nil ?_
  refine S.seq ?_
  refine S.region ?_
  refine SO.v rfl (opv_assign rfl) ?_
  refine SO.nil ?_
  refine S.seq ?_
  refine S.seq ?_
  refine S.region ?_
  refine SO.v rfl (opv_move rfl) ?_
  refine SO.v rfl (opv_lss rfl rfl) ?_
  refine SO.nil ?_
  obtain ⟨j9_1, hC1, hJ1⟩ := opt_bind h
  clear h
  refine S.cutP (G := Unit) (fun _ => True) (fun _ => [(1, .int .u64 a1), (2, v2), (6, .bool false), (7, .bool t1), (8, v5), (9, .int .i64 j9_1), (10, .int .i64 32)]) (fun _ => [Own 22 (ekI .u64) v5 ((t3.set (736 : Int).toNat a0).set (737 : Int).toNat a1), F]) (fun hk1 => ?_) ?_
  · replace h := hC1
    rcases bool_or (decide (a0 < 96)) with b13 | b13
    · replace h := cond_t b13 h
      refine S.condT rfl b13 ?_
      refine S.region ?_
      refine SO.v rfl (opv_move rfl) ?_
      refine SO.v rfl (opv_conv Try.underlying22 Try.underlying3 rfl) ?_
      refine SO.v rfl (opv_assign rfl) ?_
      refine SO.nil ?_
      cases h
      refine S.b1 ?_
      refine S.b1 ?_
      refine S.to ?_ (hk1 () trivial)
      exact ⟨rfl, rfl, rfl, rfl, rfl, rfl, rfl, trivial⟩
    · replace h := cond_f b13 h
      refine S.condF rfl b13 ?_
      refine S.skip ?_
      cases h
      refine S.b1 ?_
      refine S.b1 ?_
      refine S.to ?_ (hk1 () trivial)
      exact ⟨rfl, rfl, rfl, rfl, rfl, rfl, rfl, trivial⟩
  rintro _ -
  replace h := hJ1
  refine S.seq ?_
  refine S.seq ?_
  refine S.region ?_
  refine SO.v rfl (opv_move rfl) ?_
  refine SO.v rfl (opv_lss rfl rfl) ?_
  refine SO.nil ?_
  obtain ⟨j10_2, hC2, hJ2⟩ := opt_bind h
  clear h
  refine S.cutP (G := Unit) (fun _ => True) (fun _ => [(2, v2), (6, .bool false), (7, .bool t1), (8, v5), (9, .int .i64 j9_1), (10, .int .i64 j10_2)]) (fun _ => [Own 22 (ekI .u64) v5 ((t3.set (736 : Int).toNat a0).set (737 : Int).toNat a1), F]) (fun hk2 => ?_) ?_
  · replace h := hC2
    rcases bool_or (decide (a1 < 32)) with b14 | b14
    · replace h := cond_t b14 h
      refine S.condT rfl b14 ?_
      refine S.region ?_
      refine SO.v rfl (opv_move rfl) ?_
      refine SO.v rfl (opv_conv Try.underlying22 Try.underlying3 rfl) ?_
      refine SO.v rfl (opv_assign rfl) ?_
      refine SO.nil ?_
      cases h
      refine S.b1 ?_
      refine S.b1 ?_
      refine S.to ?_ (hk2 () trivial)
      exact ⟨rfl, rfl, rfl, rfl, rfl, rfl, trivial⟩
    · replace h := cond_f b14 h
      refine S.condF rfl b14 ?_
      refine S.skip ?_
      cases h
      refine S.b1 ?_
      refine S.b1 ?_
      refine S.to ?_ (hk2 () trivial)
      exact ⟨rfl, rfl, rfl, rfl, rfl, rfl, trivial⟩
  rintro _ -
  replace h := hJ2
  refine S.seq ?_
  refine S.seq ?_
  refine S.region ?_
  refine SO.v rfl (opv_assign rfl) ?_
  refine SO.nil ?_
  obtain ⟨o3, hl3, h⟩ := opt_bind h
  refine S.b1 ?_
  refine S.b1 ?_
  refine S.to (ρ' := [(11, .int .i64 0), (2, v2), (6, .bool false), (7, .bool t1), (8, v5), (9, .int .i64 j9_1), (10, .int .i64 j10_2)]) ⟨rfl, rfl, rfl, rfl, rfl, rfl, rfl, trivial⟩ ?_
  refine S.forloop (X := (Int × Int × Int × (List Int)) × Unit) (O := Brk Bool (Int × Int × (List Int))) (fun m x => law09_LayTakes.l3 a2 m x.1) (fun x => match x with | ((x11_3, x9_3, x10_3, qv5_3), _) => [(11, .int .i64 x11_3), (2, v2), (6, .bool false), (7, .bool t1), (8, v5), (9, .int .i64 x9_3), (10, .int .i64 x10_3)]) (fun x => match x with | ((x11_3, x9_3, x10_3, qv5_3), _) => [Own 22 (ekI .u64) v5 qv5_3, F]) (fun Sk o' => (∀ r', o' = Brk.ret r' → some r' = some r0) ∧ ∀ j : (Int × Int × (List Int)), match j with | (j9_e3, j10_e3, qv5_e3) => ∀ _ : Unit, o' = Brk.nx (j9_e3, j10_e3, qv5_e3) → Sk [(6, .bool false), (7, .bool t1), (8, v5), (9, .int .i64 j9_e3), (10, .int .i64 j10_e3)] [Own 22 (ekI .u64) v5 qv5_e3, F]) (fun _ => rfl) ?_ (m := k) (x := ((0, j9_1, j10_2, (t3.set (736 : Int).toNat a0).set (737 : Int).toNat a1), ())) hl3 ?_
  · clear h hl3
    intro k x o_3 h hK3 ih3
    obtain ⟨⟨x11_3, x9_3, x10_3, qv5_3⟩, _⟩ := x
    replace h : law09_LayTakes.l3 a2 (k + 1) (x11_3, x9_3, x10_3, qv5_3) = some o_3 := h
    first | rw [law09_LayTakes.l3] at h | unfold law09_LayTakes.l3 at h
    refine S.rd fun hr15 => ?_
    refine S.seq ?_
    refine S.seq ?_
    refine S.region ?_
    refine SO.v rfl (opv_move rfl) ?_
    refine SO.v rfl (opv_move rfl) ?_
    refine SO.v rfl (opv_len2 rfl Try.underlying23 hF2 hl2 rfl) ?_
    refine SO.v rfl (opv_lss rfl rfl) ?_
    refine SO.v rfl (opv_move rfl) ?_
    refine SO.cut 3 43 (.bool ((decide (x11_3 < (a2.length : Int))) && (decide (x11_3 < 100)))) [Own 22 (ekI .u64) v5 qv5_3, F] (fun l2 hk2 => ?_) ?_
    · rcases bool_or (decide (x11_3 < (a2.length : Int))) with b16 | b16
      · refine SO.takeT rfl rfl rfl b16 ?_
        refine SO.v rfl (opv_move rfl) ?_
        refine SO.takeT rfl rfl rfl b16 ?_
        refine SO.v rfl (opv_lss rfl rfl) ?_
        refine SO.v rfl (opv_pick_t' b16 rfl rfl) ?_
        refine SO.b1 ?_
        refine SO.b1 ?_
        exact hk2.fitc (m := 3) rfl (and_t b16) rfl
      · refine SO.passF rfl rfl rfl b16 rfl rfl ?_
        refine SO.passF rfl rfl rfl b16 rfl rfl ?_
        refine SO.v rfl (opv_pick_f' b16 rfl rfl) ?_
        refine SO.b1 ?_
        refine SO.b1 ?_
        exact hk2.fitc (m := 3) rfl (and_f b16) rfl
    refine SO.nil ?_
    rcases bool_or ((decide (x11_3 < (a2.length : Int))) && (decide (x11_3 < 100))) with b17 | b17
    · replace h := cond_t b17 h
      refine S.condT rfl b17 ?_
      refine S.skip ?_
      refine S.seq ?_
      refine S.block ?_
      refine S.seq ?_
      refine S.region ?_
      refine SO.v rfl (opv_move rfl) ?_
      refine SO.v rfl (opv_iface Try.underlying26 rfl rfl) ?_
      obtain ⟨⟨⟨t18, t19⟩, s21⟩, ht20, h⟩ := opt_bind h
      refine SO.call (pre := [(plainV v5).rep _]) rfl Try.call8 rfl rfl rfl (lay_Used.ct (plainV v5) _ _ _ _ ht20) trivial ?_
      rintro _ _ ⟨rfl, rfl⟩
      refine headEq (plainV_rep _ _) ?_
      refine SO.rd fun hr22 => ?_
      refine SO.v rfl (opv_move rfl) ?_
      refine SO.v rfl (opv_extract rfl rfl) ?_
      refine SO.v rfl (opv_extract rfl rfl) ?_
      refine SO.v rfl (opv_assign rfl) ?_
      refine SO.v rfl (opv_assign rfl) ?_
      refine SO.nil ?_
      refine S.seq ?_
      refine S.seq ?_
      refine S.region ?_
      refine SO.v rfl (opv_move rfl) ?_
      refine SO.v rfl (opv_move rfl) ?_
      refine SO.v rfl (opv_neq rfl rfl) ?_
      refine SO.v rfl (opv_move rfl) ?_
      refine SO.cut 4 59 (.bool ((t18 != x9_3) || (t19 != x10_3))) [Own 22 (ekI .u64) v5 s21, F] (fun l2 hk2 => ?_) ?_
      · rcases bool_or (t18 != x9_3) with b23 | b23
        · refine SO.passF rfl rfl rfl b23 rfl rfl ?_
          refine SO.passF rfl rfl rfl b23 rfl rfl ?_
          refine SO.passF rfl rfl rfl b23 rfl rfl ?_
          refine SO.v rfl (opv_pick_t' b23 rfl rfl) ?_
          refine SO.b1 ?_
          refine SO.b1 ?_
          exact hk2.fitc (m := 4) rfl (or_t b23) rfl
        · refine SO.takeT rfl rfl rfl b23 ?_
          refine SO.v rfl (opv_move rfl) ?_
          refine SO.takeT rfl rfl rfl b23 ?_
          refine SO.v rfl (opv_move rfl) ?_
          refine SO.takeT rfl rfl rfl b23 ?_
          refine SO.v rfl (opv_neq rfl rfl) ?_
          refine SO.v rfl (opv_pick_f' b23 rfl rfl) ?_
          refine SO.b1 ?_
          refine SO.b1 ?_
          exact hk2.fitc (m := 4) rfl (or_f b23) rfl
      refine SO.nil ?_
      rcases bool_or ((t18 != x9_3) || (t19 != x10_3)) with b24 | b24
      · replace h := cond_t b24 h
        refine S.condT rfl b24 ?_
        refine S.seq ?_
        refine S.region ?_
        refine SO.v rfl (opv_assign rfl) ?_
        refine SO.nil ?_
        cases h
        replace h := hK3.1 _ rfl
        cases h
        refine S.drop ?_
        exact S.ret1 Try.func3 rfl rfl (fun w hs hk => hR w _ _ ⟨rfl, rfl⟩ hs hk)
      · replace h := cond_f b24 h
        refine S.condF rfl b24 ?_
        refine S.skip ?_
        refine S.seq ?_
        refine S.seq ?_
        refine S.region ?_
        refine SO.v rfl (opv_move rfl) ?_
        refine SO.v rfl (opv_move rfl) ?_
        obtain ⟨x25, hx26, h⟩ := opt_bind h
        obtain ⟨y27, hy28, hr29⟩ := Rd2.at_ hl2 hR2 hx26
        refine SO.v rfl (opv_idx Try.underlying23 Try.sizeOf30 hF2 rfl rfl hy28) ?_
        refine SO.loadI1 (j := 0) rfl Try.isAgg30 (Rd.tail (Rd.head hF2)) hy28 rfl rfl rfl rfl ?_
        refine SO.v rfl (opv_lenR rfl Try.underlying30 hr29 rfl) ?_
        refine SO.v rfl (opv_neq rfl rfl) ?_
        refine SO.nil ?_
        rcases bool_or ((x25.length : Int) != 2) with b30 | b30
        · replace h := cond_t b30 h
          refine S.condT rfl b30 ?_
          refine S.exit rfl ?_
          refine S.region ?_
          refine SO.v rfl (opv_move rfl) ?_
          refine SO.v rfl (opv_add rfl rfl) ?_
          refine SO.v rfl (opv_assign rfl) ?_
          refine SO.nil ?_
          refine S.b1 ?_
          refine S.b1 ?_
          refine S.to ?_ (ih3 ((w64 (x11_3 + 1), x9_3, x10_3, s21), ()) h)
          exact ⟨rfl, rfl, rfl, rfl, rfl, rfl, rfl, trivial⟩
        · replace h := cond_f b30 h
          refine S.condF rfl b30 ?_
          refine S.skip ?_
          refine S.seq ?_
          obtain ⟨x31, hx32, h⟩ := opt_bind h
          obtain ⟨y33, hy34, hr35⟩ := Rd2.at_ hl2 hR2 hx32
          obtain ⟨x36, hx37, h⟩ := opt_bind h
          obtain ⟨x38, hx39, h⟩ := opt_bind h
          obtain ⟨y40, hy41, hr42⟩ := Rd2.at_ hl2 hR2 hx39
          obtain ⟨x43, hx44, h⟩ := opt_bind h
          obtain ⟨⟨⟨t45, t46, t47⟩, s49⟩, ht48, h⟩ := opt_bind h
          refine S.draw' (Z := fun Q => ∀ (_ : Unit) (_ : Unit) (_ : Unit) (_ : Unit) (_ : Unit) (_ : Unit) (_ : Unit) (_ : Unit) (_ : Unit) (_ : Unit) (_ : Unit) (_ : Unit) (_ : Unit) (_ : Unit) (_ : Unit) (_ : Unit) (_ : Unit) (_ : Unit) (_ : Unit) (_ : Unit) (_ : Unit) (_ : Unit) (_ : Unit) (_ : Unit) (_ : Unit) (_ : Unit) (_ : Unit) (_ : Unit), Q [(11, .int .i64 x11_3), (2, v2), (65, .bool ((x25.length : Int) != 2)), (64, .int .i64 (x25.length : Int)), (63, y27.1), (62, idxp v2 (x11_3.toNat * ekS.sz)), (61, .int .i64 x11_3), (60, v2), (59, .bool ((t18 != x9_3) || (t19 != x10_3))), (55, .bool (t18 != x9_3)), (54, .bool (t18 != x9_3)), (53, .int .i64 x9_3), (52, .int .i64 t18), (13, .int .i64 t19), (12, .int .i64 t18), (51, .int .i64 t19), (50, .int .i64 t18), (46, .tuple #[.int .i64 t18, .int .i64 t19]), (49, .tuple #[.int .i64 t18, .int .i64 t19]), (48, (plainV v5).val), (47, v5), (43, .bool ((decide (x11_3 < (a2.length : Int))) && (decide (x11_3 < 100)))), (40, .bool (decide (x11_3 < (a2.length : Int)))), (39, .bool (decide (x11_3 < (a2.length : Int)))), (38, .int .i64 (a2.length : Int)), (37, v2), (36, .int .i64 x11_3), (6, .bool false), (7, .bool t1), (9, .int .i64 x9_3), (10, .int .i64 x10_3), (8, v5), (67, v5), (68, (plainV v5).val), (69, v2), (70, .int .i64 x11_3), (71, idxp v2 (x11_3.toNat * ekS.sz)), (72, y33.1), (73, idxp y33.1 ((0 : Int).toNat * (ekI .i64).sz)), (74, .int .i64 x36), (75, v2), (76, .int .i64 x11_3), (77, idxp v2 (x11_3.toNat * ekS.sz)), (78, y40.1), (79, idxp y40.1 ((1 : Int).toNat * (ekI .i64).sz)), (80, .int .i64 x43), (81, .tuple #[.int .i64 t45, .int .i64 t46, errV 50 t47]), (66, .tuple #[.int .i64 t45, .int .i64 t46, errV 50 t47]), (82, .int .i64 t45), (83, .int .i64 t46), (84, errV 50 t47), (14, .int .i64 t45), (15, .int .i64 t46), (16, errV 50 t47)] [Own 22 (ekI .u64) v5 s49, F]) (T := [tS 8 (v5), tS 2 (v2), tS 11 (.int .i64 x11_3), tE [(65, .bool ((x25.length : Int) != 2)), (64, .int .i64 (x25.length : Int)), (63, y27.1), (62, idxp v2 (x11_3.toNat * ekS.sz)), (61, .int .i64 x11_3), (60, v2), (59, .bool ((t18 != x9_3) || (t19 != x10_3))), (55, .bool (t18 != x9_3)), (54, .bool (t18 != x9_3)), (53, .int .i64 x9_3), (52, .int .i64 t18), (13, .int .i64 t19), (12, .int .i64 t18), (51, .int .i64 t19), (50, .int .i64 t18), (46, .tuple #[.int .i64 t18, .int .i64 t19]), (49, .tuple #[.int .i64 t18, .int .i64 t19]), (48, (plainV v5).val), (47, v5), (43, .bool ((decide (x11_3 < (a2.length : Int))) && (decide (x11_3 < 100)))), (40, .bool (decide (x11_3 < (a2.length : Int)))), (39, .bool (decide (x11_3 < (a2.length : Int)))), (38, .int .i64 (a2.length : Int)), (37, v2), (36, .int .i64 x11_3), (6, .bool false), (7, .bool t1), (9, .int .i64 x9_3), (10, .int .i64 x10_3)], tR (Own 22 (ekI .u64) v5 s21), tR (F), tS 67 (v5), tS 68 ((plainV v5).val), tS 69 (v2), tS 70 (.int .i64 x11_3), tS 71 (idxp v2 (x11_3.toNat * ekS.sz)), tS 72 (y33.1), tS 73 (idxp y33.1 ((0 : Int).toNat * (ekI .i64).sz)), tS 74 (.int .i64 x36), tS 75 (v2), tS 76 (.int .i64 x11_3), tS 77 (idxp v2 (x11_3.toNat * ekS.sz)), tS 78 (y40.1), tS 79 (idxp y40.1 ((1 : Int).toNat * (ekI .i64).sz)), tS 80 (.int .i64 x43), tR (Own 22 (ekI .u64) v5 s49), tS 81 (.tuple #[.int .i64 t45, .int .i64 t46, errV 50 t47]), tS 66 (.tuple #[.int .i64 t45, .int .i64 t46, errV 50 t47]), tS 82 (.int .i64 t45), tS 83 (.int .i64 t46), tS 84 (errV 50 t47), tS 14 (.int .i64 t45), tS 15 (.int .i64 t46), tS 16 (errV 50 t47)]) (D := [⟨[0], [], [6]⟩, ⟨[6], [], [7]⟩, ⟨[1], [], [8]⟩, ⟨[2], [], [9]⟩, ⟨[8, 9, 5], [], [10]⟩, ⟨[10, 5], [], [11]⟩, ⟨[11, 5], [], [12]⟩, ⟨[12, 5], [], [13]⟩, ⟨[1], [], [14]⟩, ⟨[2], [], [15]⟩, ⟨[14, 15, 5], [], [16]⟩, ⟨[16, 5], [], [17]⟩, ⟨[17, 5], [], [18]⟩, ⟨[18, 5], [], [19]⟩, ⟨[7, 13, 19], [4], [20, 21]⟩, ⟨[21], [], [22]⟩, ⟨[22], [], [23]⟩, ⟨[22], [], [24]⟩, ⟨[22], [], [25]⟩, ⟨[23], [], [26]⟩, ⟨[24], [], [27]⟩, ⟨[25], [], [28]⟩]) (ini := [0, 1, 2, 3, 4, 5]) (fin := [2, 1, 3, 0, 6, 7, 8, 9, 10, 11, 12, 13, 14, 15, 16, 17, 18, 19, 21, 22, 23, 24, 25, 26, 27, 28, 20, 5]) (bf := [[], [0], [], [], [2, 3], [2, 3, 4], [2, 3, 4, 5], [2, 3, 4, 5, 6], [], [], [8, 9], [8, 9, 10], [8, 9, 10, 11], [8, 9, 10, 11, 12], [0, 1, 2, 3, 4, 5, 6, 7, 8, 9, 10, 11, 12, 13], [0, 1, 2, 3, 4, 5, 6, 7, 8, 9, 10, 11, 12, 13, 14], [0, 1, 2, 3, 4, 5, 6, 7, 8, 9, 10, 11, 12, 13, 14, 15], [0, 1, 2, 3, 4, 5, 6, 7, 8, 9, 10, 11, 12, 13, 14, 15], [0, 1, 2, 3, 4, 5, 6, 7, 8, 9, 10, 11, 12, 13, 14, 15], [0, 1, 2, 3, 4, 5, 6, 7, 8, 9, 10, 11, 12, 13, 14, 15, 16], [0, 1, 2, 3, 4, 5, 6, 7, 8, 9, 10, 11, 12, 13, 14, 15, 16, 17, 19], [0, 1, 2, 3, 4, 5, 6, 7, 8, 9, 10, 11, 12, 13, 14, 15, 16, 17, 18, 19, 20]]) (by kernel_rfl) (by kernel_rfl) (fun x w h1 h2 => (.cons () (.cons () (.cons () (.cons () (.cons () (.cons () (.nil ⟨EnvAll.of h1 ⟨rfl, rfl, rfl, rfl, rfl, rfl, rfl, rfl, rfl, rfl, rfl, rfl, rfl, rfl, rfl, rfl, rfl, rfl, rfl, rfl, rfl, rfl, rfl, rfl, rfl, rfl, rfl, rfl, rfl, rfl, rfl, rfl, trivial⟩, h2⟩)))))))) (fun Q => by kernel_rfl) ⟨?_, ?_, ?_, ?_, ?_, ?_, ?_, ?_, ?_, ?_, ?_, ?_, ?_, ?_, ?_, ?_, ?_, ?_, ?_, ?_, ?_, ?_, trivial⟩ ?_
          · rintro Fr _
            refine SO.v rfl (opv_move rfl) ?_
            exact SO.nilZ fun a w h1 h2 h3 h4 h5 => PZ.of h1 h3 h5 (.cons () (.cons () (.nil ⟨EnvAll.of h2 ⟨rfl, rfl, trivial⟩, h4⟩)))
          · rintro Fr _
            refine SO.v rfl (opv_iface Try.underlying26 rfl rfl) ?_
            exact SO.nilZ fun a w h1 h2 h3 h4 h5 => PZ.of h1 h3 h5 (.cons () (.cons () (.nil ⟨EnvAll.of h2 ⟨rfl, rfl, trivial⟩, h4⟩)))
          · rintro Fr _
            refine SO.v rfl (opv_move rfl) ?_
            exact SO.nilZ fun a w h1 h2 h3 h4 h5 => PZ.of h1 h3 h5 (.cons () (.cons () (.nil ⟨EnvAll.of h2 ⟨rfl, rfl, trivial⟩, h4⟩)))
          · rintro Fr _
            refine SO.v rfl (opv_move rfl) ?_
            exact SO.nilZ fun a w h1 h2 h3 h4 h5 => PZ.of h1 h3 h5 (.cons () (.cons () (.nil ⟨EnvAll.of h2 ⟨rfl, rfl, trivial⟩, h4⟩)))
          · rintro Fr _ _ _
            refine SO.v rfl (opv_idx Try.underlying23 Try.sizeOf30 hF2 rfl rfl hy34) ?_
            exact SO.nilZ fun a w h1 h2 h3 h4 h5 => PZ.of h1 h3 h5 (.cons () (.cons () (.cons () (.cons () (.nil ⟨EnvAll.of h2 ⟨rfl, rfl, rfl, trivial⟩, h4⟩)))))
          · rintro Fr _ _
            refine SO.loadI1 (j := 0) rfl Try.isAgg30 (Rd.head hF2) hy34 rfl rfl rfl rfl ?_
            exact SO.nilZ fun a w h1 h2 h3 h4 h5 => PZ.of h1 h3 h5 (.cons () (.cons () (.cons () (.nil ⟨EnvAll.of h2 ⟨rfl, rfl, trivial⟩, h4⟩))))
          · rintro Fr _ _
            refine SO.v rfl (opv_idx Try.underlying30 Try.sizeOf3 hr35 rfl rfl hx37) ?_
            exact SO.nilZ fun a w h1 h2 h3 h4 h5 => PZ.of h1 h3 h5 (.cons () (.cons () (.cons () (.nil ⟨EnvAll.of h2 ⟨rfl, rfl, trivial⟩, h4⟩))))
          · rintro Fr _ _
            refine SO.loadI1 (j := 0) rfl Try.isAgg3 (Rd.head hr35) hx37 rfl rfl rfl rfl ?_
            exact SO.nilZ fun a w h1 h2 h3 h4 h5 => PZ.of h1 h3 h5 (.cons () (.cons () (.cons () (.nil ⟨EnvAll.of h2 ⟨rfl, rfl, trivial⟩, h4⟩))))
          · rintro Fr _
            refine SO.v rfl (opv_move rfl) ?_
            exact SO.nilZ fun a w h1 h2 h3 h4 h5 => PZ.of h1 h3 h5 (.cons () (.cons () (.nil ⟨EnvAll.of h2 ⟨rfl, rfl, trivial⟩, h4⟩)))
          · rintro Fr _
            refine SO.v rfl (opv_move rfl) ?_
            exact SO.nilZ fun a w h1 h2 h3 h4 h5 => PZ.of h1 h3 h5 (.cons () (.cons () (.nil ⟨EnvAll.of h2 ⟨rfl, rfl, trivial⟩, h4⟩)))
          · rintro Fr _ _ _
            refine SO.v rfl (opv_idx Try.underlying23 Try.sizeOf30 hF2 rfl rfl hy41) ?_
            exact SO.nilZ fun a w h1 h2 h3 h4 h5 => PZ.of h1 h3 h5 (.cons () (.cons () (.cons () (.cons () (.nil ⟨EnvAll.of h2 ⟨rfl, rfl, rfl, trivial⟩, h4⟩)))))
          · rintro Fr _ _
            refine SO.loadI1 (j := 0) rfl Try.isAgg30 (Rd.head hF2) hy41 rfl rfl rfl rfl ?_
            exact SO.nilZ fun a w h1 h2 h3 h4 h5 => PZ.of h1 h3 h5 (.cons () (.cons () (.cons () (.nil ⟨EnvAll.of h2 ⟨rfl, rfl, trivial⟩, h4⟩))))
          · rintro Fr _ _
            refine SO.v rfl (opv_idx Try.underlying30 Try.sizeOf3 hr42 rfl rfl hx44) ?_
            exact SO.nilZ fun a w h1 h2 h3 h4 h5 => PZ.of h1 h3 h5 (.cons () (.cons () (.cons () (.nil ⟨EnvAll.of h2 ⟨rfl, rfl, trivial⟩, h4⟩))))
          · rintro Fr _ _
            refine SO.loadI1 (j := 0) rfl Try.isAgg3 (Rd.head hr42) hx44 rfl rfl rfl rfl ?_
            exact SO.nilZ fun a w h1 h2 h3 h4 h5 => PZ.of h1 h3 h5 (.cons () (.cons () (.cons () (.nil ⟨EnvAll.of h2 ⟨rfl, rfl, trivial⟩, h4⟩))))
          · rintro Fr _ _ _ _
            refine SO.call (pre := [(plainV v5).rep _]) rfl Try.call9 rfl rfl rfl (lay_Take.ct (plainV v5) _ _ _ _ _ _ _ ht48) trivial ?_
            rintro _ _ ⟨rfl, rfl⟩
            refine headEq (plainV_rep _ _) ?_
            refine SO.rd fun hr50 => ?_
            exact SO.nilZ fun a w h1 h2 h3 h4 h5 => PZ.of h1 h3 h5 (.cons () (.cons () (.cons () (.cons () (.cons () (.nil ⟨EnvAll.of h2 ⟨rfl, rfl, rfl, rfl, trivial⟩, h4⟩))))))
          · rintro Fr _
            refine SO.v rfl (opv_move rfl) ?_
            exact SO.nilZ fun a w h1 h2 h3 h4 h5 => PZ.of h1 h3 h5 (.cons () (.cons () (.nil ⟨EnvAll.of h2 ⟨rfl, rfl, trivial⟩, h4⟩)))
          · rintro Fr _
            refine SO.v rfl (opv_extract rfl rfl) ?_
            exact SO.nilZ fun a w h1 h2 h3 h4 h5 => PZ.of h1 h3 h5 (.cons () (.cons () (.nil ⟨EnvAll.of h2 ⟨rfl, rfl, trivial⟩, h4⟩)))
          · rintro Fr _
            refine SO.v rfl (opv_extract rfl rfl) ?_
            exact SO.nilZ fun a w h1 h2 h3 h4 h5 => PZ.of h1 h3 h5 (.cons () (.cons () (.nil ⟨EnvAll.of h2 ⟨rfl, rfl, trivial⟩, h4⟩)))
          · rintro Fr _
            refine SO.v rfl (opv_extract rfl rfl) ?_
            exact SO.nilZ fun a w h1 h2 h3 h4 h5 => PZ.of h1 h3 h5 (.cons () (.cons () (.nil ⟨EnvAll.of h2 ⟨rfl, rfl, trivial⟩, h4⟩)))
          · rintro Fr _
            refine SO.v rfl (opv_assign rfl) ?_
            exact SO.nilZ fun a w h1 h2 h3 h4 h5 => PZ.of h1 h3 h5 (.cons () (.cons () (.nil ⟨EnvAll.of h2 ⟨rfl, rfl, trivial⟩, h4⟩)))
          · rintro Fr _
            refine SO.v rfl (opv_assign rfl) ?_
            exact SO.nilZ fun a w h1 h2 h3 h4 h5 => PZ.of h1 h3 h5 (.cons () (.cons () (.nil ⟨EnvAll.of h2 ⟨rfl, rfl, trivial⟩, h4⟩)))
          · rintro Fr _
            refine SO.v rfl (opv_assign rfl) ?_
            exact SO.nilZ fun a w h1 h2 h3 h4 h5 => PZ.of h1 h3 h5 (.cons () (.cons () (.nil ⟨EnvAll.of h2 ⟨rfl, rfl, trivial⟩, h4⟩)))
          rintro _ _ _ _ _ _ _ _ _ _ _ _ _ _ _ _ _ _ _ _ _ _ _ _ _ _ _ _
          refine S.to (ρ' := [(11, .int .i64 x11_3), (2, v2), (65, .bool ((x25.length : Int) != 2)), (64, .int .i64 (x25.length : Int)), (63, y27.1), (62, idxp v2 (x11_3.toNat * ekS.sz)), (61, .int .i64 x11_3), (60, v2), (59, .bool ((t18 != x9_3) || (t19 != x10_3))), (55, .bool (t18 != x9_3)), (54, .bool (t18 != x9_3)), (53, .int .i64 x9_3), (52, .int .i64 t18), (13, .int .i64 t19), (12, .int .i64 t18), (51, .int .i64 t19), (50, .int .i64 t18), (46, .tuple #[.int .i64 t18, .int .i64 t19]), (49, .tuple #[.int .i64 t18, .int .i64 t19]), (48, (plainV v5).val), (47, v5), (43, .bool ((decide (x11_3 < (a2.length : Int))) && (decide (x11_3 < 100)))), (40, .bool (decide (x11_3 < (a2.length : Int)))), (39, .bool (decide (x11_3 < (a2.length : Int)))), (38, .int .i64 (a2.length : Int)), (37, v2), (36, .int .i64 x11_3), (6, .bool false), (7, .bool t1), (9, .int .i64 x9_3), (10, .int .i64 x10_3), (8, v5), (67, v5), (68, (plainV v5).val), (69, v2), (70, .int .i64 x11_3), (71, idxp v2 (x11_3.toNat * ekS.sz)), (72, y33.1), (73, idxp y33.1 ((0 : Int).toNat * (ekI .i64).sz)), (74, .int .i64 x36), (75, v2), (76, .int .i64 x11_3), (77, idxp v2 (x11_3.toNat * ekS.sz)), (78, y40.1), (79, idxp y40.1 ((1 : Int).toNat * (ekI .i64).sz)), (80, .int .i64 x43), (81, .tuple #[.int .i64 t45, .int .i64 t46, errV 50 t47]), (66, .tuple #[.int .i64 t45, .int .i64 t46, errV 50 t47]), (82, .int .i64 t45), (83, .int .i64 t46), (84, errV 50 t47), (14, .int .i64 t45), (15, .int .i64 t46), (16, errV 50 t47)]) ⟨rfl, rfl, rfl, rfl, rfl, rfl, rfl, rfl, rfl, rfl, rfl, rfl, rfl, rfl, rfl, rfl, rfl, rfl, rfl, rfl, rfl, rfl, rfl, rfl, rfl, rfl, rfl, rfl, rfl, rfl, rfl, rfl, rfl, rfl, rfl, rfl, rfl, rfl, rfl, rfl, rfl, rfl, rfl, rfl, rfl, rfl, rfl, rfl, rfl, rfl, rfl, rfl, rfl, rfl, trivial⟩ ?_
          refine S.seq ?_
          refine S.region ?_
          refine SO.v rfl (opv_assign rfl) ?_
          refine SO.nil ?_
          refine S.seq ?_
          refine S.seq ?_
          refine S.region ?_
          refine SO.v rfl (opv_move rfl) ?_
          refine SO.v rfl (opv_move rfl) ?_
          obtain ⟨x51, hx52, h⟩ := opt_bind h
          obtain ⟨y53, hy54, hr55⟩ := Rd2.at_ hl2 hR2 hx52
          refine SO.v rfl (opv_idx Try.underlying23 Try.sizeOf30 hF2 rfl rfl hy54) ?_
          refine SO.loadI1 (j := 0) rfl Try.isAgg30 (Rd.tail (Rd.head hF2)) hy54 rfl rfl rfl rfl ?_
          obtain ⟨x56, hx57, h⟩ := opt_bind h
          refine SO.v rfl (opv_idx Try.underlying30 Try.sizeOf3 hr55 rfl rfl hx57) ?_
          refine SO.loadI1 (j := 0) rfl Try.isAgg3 (Rd.tail (Rd.head hr55)) hx57 rfl rfl rfl rfl ?_
          refine SO.v rfl (opv_lss rfl rfl) ?_
          refine SO.v rfl (opv_move rfl) ?_
          obtain ⟨c59, hc60, hgk⟩ := opt_bind h
          refine SO.cut 8 100 (.bool c59) [Own 22 (ekI .u64) v5 s49, F] (fun l2 hk2 => ?_) ?_
          · clear hgk
            replace h := hc60
            rcases bool_or (decide (x56 < 0)) with b58 | b58
            · replace h := cond_t b58 h
              refine SO.passF rfl rfl rfl b58 rfl rfl ?_
              refine SO.passF rfl rfl rfl b58 rfl rfl ?_
              refine SO.passF rfl rfl rfl b58 rfl rfl ?_
              refine SO.passF rfl rfl rfl b58 rfl rfl ?_
              refine SO.passF rfl rfl rfl b58 rfl rfl ?_
              refine SO.passF rfl rfl rfl b58 rfl rfl ?_
              refine SO.passF rfl rfl rfl b58 rfl rfl ?_
              cases h
              refine SO.v rfl (opv_pick_t' b58 rfl rfl) ?_
              refine SO.b1 ?_
              refine SO.b1 ?_
              exact hk2.fitc (m := 8) rfl (rfl) rfl
            · replace h := cond_f b58 h
              refine SO.takeT rfl rfl rfl b58 ?_
              refine SO.v rfl (opv_move rfl) ?_
              refine SO.takeT rfl rfl rfl b58 ?_
              refine SO.v rfl (opv_move rfl) ?_
              refine SO.takeT rfl rfl rfl b58 ?_
              obtain ⟨x61, hx62, h⟩ := opt_bind h
              obtain ⟨y63, hy64, hr65⟩ := Rd2.at_ hl2 hR2 hx62
              refine SO.v rfl (opv_idx Try.underlying23 Try.sizeOf30 hF2 rfl rfl hy64) ?_
              refine SO.takeT rfl rfl rfl b58 ?_
              refine SO.loadI1 (j := 0) rfl Try.isAgg30 (Rd.tail (Rd.head hF2)) hy64 rfl rfl rfl rfl ?_
              refine SO.takeT rfl rfl rfl b58 ?_
              obtain ⟨x66, hx67, h⟩ := opt_bind h
              refine SO.v rfl (opv_idx Try.underlying30 Try.sizeOf3 hr65 rfl rfl hx67) ?_
              refine SO.takeT rfl rfl rfl b58 ?_
              refine SO.loadI1 (j := 0) rfl Try.isAgg3 (Rd.tail (Rd.head hr65)) hx67 rfl rfl rfl rfl ?_
              refine SO.takeT rfl rfl rfl b58 ?_
              refine SO.v rfl (opv_lss rfl rfl) ?_
              cases h
              refine SO.v rfl (opv_pick_f' b58 rfl rfl) ?_
              refine SO.b1 ?_
              refine SO.b1 ?_
              exact hk2.fitc (m := 8) rfl (rfl) rfl
          clear hc60
          replace h := hgk
          refine SO.nil ?_
          obtain ⟨j17_4, hC4, hJ4⟩ := opt_bind h
          clear h
          refine S.cutP (G := Unit) (fun _ => True) (fun _ => [(2, v2), (6, .bool false), (7, .bool t1), (8, v5), (9, .int .i64 x9_3), (10, .int .i64 x10_3), (11, .int .i64 x11_3), (12, .int .i64 t18), (13, .int .i64 t19), (14, .int .i64 t45), (15, .int .i64 t46), (16, errV 50 t47), (17, .int .i64 j17_4), (36, .int .i64 x11_3), (37, v2), (38, .int .i64 (a2.length : Int)), (39, .bool (decide (x11_3 < (a2.length : Int)))), (40, .bool (decide (x11_3 < (a2.length : Int)))), (43, .bool ((decide (x11_3 < (a2.length : Int))) && (decide (x11_3 < 100)))), (46, .tuple #[.int .i64 t18, .int .i64 t19]), (47, v5), (48, (plainV v5).val), (49, .tuple #[.int .i64 t18, .int .i64 t19]), (50, .int .i64 t18), (51, .int .i64 t19), (52, .int .i64 t18), (53, .int .i64 x9_3), (54, .bool (t18 != x9_3)), (55, .bool (t18 != x9_3)), (59, .bool ((t18 != x9_3) || (t19 != x10_3))), (60, v2), (61, .int .i64 x11_3), (62, idxp v2 (x11_3.toNat * ekS.sz)), (63, y27.1), (64, .int .i64 (x25.length : Int)), (65, .bool ((x25.length : Int) != 2)), (66, .tuple #[.int .i64 t45, .int .i64 t46, errV 50 t47]), (67, v5), (68, (plainV v5).val), (69, v2), (70, .int .i64 x11_3), (71, idxp v2 (x11_3.toNat * ekS.sz)), (72, y33.1), (73, idxp y33.1 ((0 : Int).toNat * (ekI .i64).sz)), (74, .int .i64 x36), (75, v2), (76, .int .i64 x11_3), (77, idxp v2 (x11_3.toNat * ekS.sz)), (78, y40.1), (79, idxp y40.1 ((1 : Int).toNat * (ekI .i64).sz)), (80, .int .i64 x43), (81, .tuple #[.int .i64 t45, .int .i64 t46, errV 50 t47]), (82, .int .i64 t45), (83, .int .i64 t46), (84, errV 50 t47), (85, v2), (86, .int .i64 x11_3), (87, idxp v2 (x11_3.toNat * ekS.sz)), (88, y53.1), (89, idxp y53.1 ((0 : Int).toNat * (ekI .i64).sz)), (90, .int .i64 x56), (91, .bool (decide (x56 < 0))), (92, .bool (decide (x56 < 0))), (100, .bool c59)]) (fun _ => [Own 22 (ekI .u64) v5 s49, F]) (fun hk4 => ?_) ?_
          · replace h := hC4
            rcases bool_or c59 with b68 | b68
            · replace h := cond_t b68 h
              refine S.condT rfl b68 ?_
              refine S.region ?_
              refine SO.v rfl (opv_assign rfl) ?_
              refine SO.nil ?_
              cases h
              refine S.b1 ?_
              refine S.b1 ?_
              refine S.to ?_ (hk4 () trivial)
              exact ⟨rfl, rfl, rfl, rfl, rfl, rfl, rfl, rfl, rfl, rfl, rfl, rfl, rfl, rfl, rfl, rfl, rfl, rfl, rfl, rfl, rfl, rfl, rfl, rfl, rfl, rfl, rfl, rfl, rfl, rfl, rfl, rfl, rfl, rfl, rfl, rfl, rfl, rfl, rfl, rfl, rfl, rfl, rfl, rfl, rfl, rfl, rfl, rfl, rfl, rfl, rfl, rfl, rfl, rfl, rfl, rfl, rfl, rfl, rfl, rfl, rfl, rfl, rfl, rfl, trivial⟩
            · replace h := cond_f b68 h
              refine S.condF rfl b68 ?_
              refine S.seq ?_
              refine S.region ?_
              refine SO.v rfl (opv_move rfl) ?_
              refine SO.v rfl (opv_move rfl) ?_
              obtain ⟨x69, hx70, h⟩ := opt_bind h
              obtain ⟨y71, hy72, hr73⟩ := Rd2.at_ hl2 hR2 hx70
              refine SO.v rfl (opv_idx Try.underlying23 Try.sizeOf30 hF2 rfl rfl hy72) ?_
              refine SO.loadI1 (j := 0) rfl Try.isAgg30 (Rd.tail (Rd.head hF2)) hy72 rfl rfl rfl rfl ?_
              obtain ⟨x74, hx75, h⟩ := opt_bind h
              refine SO.v rfl (opv_idx Try.underlying30 Try.sizeOf3 hr73 rfl rfl hx75) ?_
              refine SO.loadI1 (j := 0) rfl Try.isAgg3 (Rd.tail (Rd.head hr73)) hx75 rfl rfl rfl rfl ?_
              refine SO.v rfl (opv_move rfl) ?_
              refine SO.v rfl (opv_sub rfl rfl) ?_
              refine SO.v rfl (opv_gtr rfl rfl) ?_
              refine SO.v rfl (opv_move rfl) ?_
              obtain ⟨c77, hc78, hgk⟩ := opt_bind h
              refine SO.cut 10 120 (.bool c77) [Own 22 (ekI .u64) v5 s49, F] (fun l2 hk2 => ?_) ?_
              · clear hgk
                replace h := hc78
                rcases bool_or (decide ((w64 (96 - x9_3)) < x74)) with b76 | b76
                · replace h := cond_t b76 h
                  refine SO.passF rfl rfl rfl b76 rfl rfl ?_
                  refine SO.passF rfl rfl rfl b76 rfl rfl ?_
                  refine SO.passF rfl rfl rfl b76 rfl rfl ?_
                  refine SO.passF rfl rfl rfl b76 rfl rfl ?_
                  refine SO.passF rfl rfl rfl b76 rfl rfl ?_
                  refine SO.passF rfl rfl rfl b76 rfl rfl ?_
                  refine SO.passF rfl rfl rfl b76 rfl rfl ?_
                  refine SO.passF rfl rfl rfl b76 rfl rfl ?_
                  refine SO.passF rfl rfl rfl b76 rfl rfl ?_
                  cases h
                  refine SO.v rfl (opv_pick_t' b76 rfl rfl) ?_
                  refine SO.b1 ?_
                  refine SO.b1 ?_
                  exact hk2.fitc (m := 10) rfl (rfl) rfl
                · replace h := cond_f b76 h
                  refine SO.takeT rfl rfl rfl b76 ?_
                  refine SO.v rfl (opv_move rfl) ?_
                  refine SO.takeT rfl rfl rfl b76 ?_
                  refine SO.v rfl (opv_move rfl) ?_
                  refine SO.takeT rfl rfl rfl b76 ?_
                  obtain ⟨x79, hx80, h⟩ := opt_bind h
                  obtain ⟨y81, hy82, hr83⟩ := Rd2.at_ hl2 hR2 hx80
                  refine SO.v rfl (opv_idx Try.underlying23 Try.sizeOf30 hF2 rfl rfl hy82) ?_
                  refine SO.takeT rfl rfl rfl b76 ?_
                  refine SO.loadI1 (j := 0) rfl Try.isAgg30 (Rd.tail (Rd.head hF2)) hy82 rfl rfl rfl rfl ?_
                  refine SO.takeT rfl rfl rfl b76 ?_
                  obtain ⟨x84, hx85, h⟩ := opt_bind h
                  refine SO.v rfl (opv_idx Try.underlying30 Try.sizeOf3 hr83 rfl rfl hx85) ?_
                  refine SO.takeT rfl rfl rfl b76 ?_
                  refine SO.loadI1 (j := 0) rfl Try.isAgg3 (Rd.tail (Rd.head hr83)) hx85 rfl rfl rfl rfl ?_
                  refine SO.takeT rfl rfl rfl b76 ?_
                  refine SO.v rfl (opv_move rfl) ?_
                  refine SO.takeT rfl rfl rfl b76 ?_
                  refine SO.v rfl (opv_sub rfl rfl) ?_
                  refine SO.takeT rfl rfl rfl b76 ?_
                  refine SO.v rfl (opv_gtr rfl rfl) ?_
                  cases h
                  refine SO.v rfl (opv_pick_f' b76 rfl rfl) ?_
                  refine SO.b1 ?_
                  refine SO.b1 ?_
                  exact hk2.fitc (m := 10) rfl (rfl) rfl
              clear hc78
              replace h := hgk
              refine SO.nil ?_
              rcases bool_or c77 with b86 | b86
              · replace h := cond_t b86 h
                refine S.condT rfl b86 ?_
                refine S.region ?_
                refine SO.v rfl (opv_assign rfl) ?_
                refine SO.nil ?_
                cases h
                refine S.b1 ?_
                refine S.b1 ?_
                refine S.to ?_ (hk4 () trivial)
                exact ⟨rfl, rfl, rfl, rfl, rfl, rfl, rfl, rfl, rfl, rfl, rfl, rfl, rfl, rfl, rfl, rfl, rfl, rfl, rfl, rfl, rfl, rfl, rfl, rfl, rfl, rfl, rfl, rfl, rfl, rfl, rfl, rfl, rfl, rfl, rfl, rfl, rfl, rfl, rfl, rfl, rfl, rfl, rfl, rfl, rfl, rfl, rfl, rfl, rfl, rfl, rfl, rfl, rfl, rfl, rfl, rfl, rfl, rfl, rfl, rfl, rfl, rfl, rfl, rfl, trivial⟩
              · replace h := cond_f b86 h
                refine S.condF rfl b86 ?_
                refine S.skip ?_
                cases h
                refine S.b1 ?_
                refine S.b1 ?_
                refine S.to ?_ (hk4 () trivial)
                exact ⟨rfl, rfl, rfl, rfl, rfl, rfl, rfl, rfl, rfl, rfl, rfl, rfl, rfl, rfl, rfl, rfl, rfl, rfl, rfl, rfl, rfl, rfl, rfl, rfl, rfl, rfl, rfl, rfl, rfl, rfl, rfl, rfl, rfl, rfl, rfl, rfl, rfl, rfl, rfl, rfl, rfl, rfl, rfl, rfl, rfl, rfl, rfl, rfl, rfl, rfl, rfl, rfl, rfl, rfl, rfl, rfl, rfl, rfl, rfl, rfl, rfl, rfl, rfl, rfl, trivial⟩
          rintro _ -
          replace h := hJ4
          refine S.seq ?_
          refine S.seq ?_
          refine S.region ?_
          refine SO.v rfl (opv_move rfl) ?_
          obtain ⟨t87, ht88, h⟩ := opt_bind h
          refine SO.call (pre := []) rfl Try.call10 rfl rfl rfl (law00_Code.ct _ _ _ ht88) trivial ?_
          rintro _ _ ⟨rfl, rfl⟩
          refine SO.v rfl (opv_move rfl) ?_
          refine SO.v rfl (opv_neq rfl rfl) ?_
          refine SO.nil ?_
          rcases bool_or (t87 != j17_4) with b89 | b89
          · replace h := cond_t b89 h
            refine S.condT rfl b89 ?_
            refine S.seq ?_
            refine S.region ?_
            refine SO.v rfl (opv_assign rfl) ?_
            refine SO.nil ?_
            cases h
            replace h := hK3.1 _ rfl
            cases h
            refine S.drop ?_
            exact S.ret1 Try.func3 rfl rfl (fun w hs hk => hR w _ _ ⟨rfl, rfl⟩ hs hk)
          · replace h := cond_f b89 h
            refine S.condF rfl b89 ?_
            refine S.skip ?_
            refine S.seq ?_
            refine S.seq ?_
            refine S.region ?_
            refine SO.v rfl (opv_move rfl) ?_
            refine SO.v rfl (opv_neq rfl rfl) ?_
            refine SO.nil ?_
            rcases bool_or (j17_4 != 0) with b90 | b90
            · replace h := cond_t b90 h
              refine S.condT rfl b90 ?_
              refine S.seq ?_
              refine S.seq ?_
              refine S.region ?_
              refine SO.v rfl (opv_move rfl) ?_
              refine SO.v rfl (opv_neq rfl rfl) ?_
              refine SO.v rfl (opv_move rfl) ?_
              refine SO.cut 3 132 (.bool ((t45 != 0) || (t46 != 0))) [Own 22 (ekI .u64) v5 s49, F] (fun l2 hk2 => ?_) ?_
              · rcases bool_or (t45 != 0) with b91 | b91
                · refine SO.passF rfl rfl rfl b91 rfl rfl ?_
                  refine SO.passF rfl rfl rfl b91 rfl rfl ?_
                  refine SO.v rfl (opv_pick_t' b91 rfl rfl) ?_
                  refine SO.b1 ?_
                  refine SO.b1 ?_
                  exact hk2.fitc (m := 3) rfl (or_t b91) rfl
                · refine SO.takeT rfl rfl rfl b91 ?_
                  refine SO.v rfl (opv_move rfl) ?_
                  refine SO.takeT rfl rfl rfl b91 ?_
                  refine SO.v rfl (opv_neq rfl rfl) ?_
                  refine SO.v rfl (opv_pick_f' b91 rfl rfl) ?_
                  refine SO.b1 ?_
                  refine SO.b1 ?_
                  exact hk2.fitc (m := 3) rfl (or_f b91) rfl
              refine SO.nil ?_
              rcases bool_or ((t45 != 0) || (t46 != 0)) with b92 | b92
              · replace h := cond_t b92 h
                refine S.condT rfl b92 ?_
                refine S.seq ?_
                refine S.region ?_
                refine SO.v rfl (opv_assign rfl) ?_
                refine SO.nil ?_
                cases h
                replace h := hK3.1 _ rfl
                cases h
                refine S.drop ?_
                exact S.ret1 Try.func3 rfl rfl (fun w hs hk => hR w _ _ ⟨rfl, rfl⟩ hs hk)
              · replace h := cond_f b92 h
                refine S.condF rfl b92 ?_
                refine S.skip ?_
                refine S.exit rfl ?_
                refine S.region ?_
                refine SO.v rfl (opv_move rfl) ?_
                refine SO.v rfl (opv_add rfl rfl) ?_
                refine SO.v rfl (opv_assign rfl) ?_
                refine SO.nil ?_
                refine S.b1 ?_
                refine S.b1 ?_
                refine S.to ?_ (ih3 ((w64 (x11_3 + 1), x9_3, x10_3, s49), ()) h)
                exact ⟨rfl, rfl, rfl, rfl, rfl, rfl, rfl, trivial⟩
            · replace h := cond_f b90 h
              refine S.condF rfl b90 ?_
              refine S.skip ?_
              refine S.seq ?_
              refine S.seq ?_
              refine S.region ?_
              refine SO.v rfl (opv_move rfl) ?_
              refine SO.v rfl (opv_move rfl) ?_
              refine SO.v rfl (opv_neq rfl rfl) ?_
              refine SO.v rfl (opv_move rfl) ?_
              refine SO.cut 4 140 (.bool ((t45 != x9_3) || (t46 != x10_3))) [Own 22 (ekI .u64) v5 s49, F] (fun l2 hk2 => ?_) ?_
              · rcases bool_or (t45 != x9_3) with b93 | b93
                · refine SO.passF rfl rfl rfl b93 rfl rfl ?_
                  refine SO.passF rfl rfl rfl b93 rfl rfl ?_
                  refine SO.passF rfl rfl rfl b93 rfl rfl ?_
                  refine SO.v rfl (opv_pick_t' b93 rfl rfl) ?_
                  refine SO.b1 ?_
                  refine SO.b1 ?_
                  exact hk2.fitc (m := 4) rfl (or_t b93) rfl
                · refine SO.takeT rfl rfl rfl b93 ?_
                  refine SO.v rfl (opv_move rfl) ?_
                  refine SO.takeT rfl rfl rfl b93 ?_
                  refine SO.v rfl (opv_move rfl) ?_
                  refine SO.takeT rfl rfl rfl b93 ?_
                  refine SO.v rfl (opv_neq rfl rfl) ?_
                  refine SO.v rfl (opv_pick_f' b93 rfl rfl) ?_
                  refine SO.b1 ?_
                  refine SO.b1 ?_
                  exact hk2.fitc (m := 4) rfl (or_f b93) rfl
              refine SO.nil ?_
              rcases bool_or ((t45 != x9_3) || (t46 != x10_3)) with b94 | b94
              · replace h := cond_t b94 h
                refine S.condT rfl b94 ?_
                refine S.seq ?_
                refine S.region ?_
                refine SO.v rfl (opv_assign rfl) ?_
                refine SO.nil ?_
                cases h
                replace h := hK3.1 _ rfl
                cases h
                refine S.drop ?_
                exact S.ret1 Try.func3 rfl rfl (fun w hs hk => hR w _ _ ⟨rfl, rfl⟩ hs hk)
              · replace h := cond_f b94 h
                refine S.condF rfl b94 ?_
                refine S.skip ?_
                refine S.seq ?_
                refine S.region ?_
                refine SO.v rfl (opv_move rfl) ?_
                refine SO.v rfl (opv_move rfl) ?_
                refine SO.v rfl (opv_move rfl) ?_
                obtain ⟨x95, hx96, h⟩ := opt_bind h
                obtain ⟨y97, hy98, hr99⟩ := Rd2.at_ hl2 hR2 hx96
                refine SO.v rfl (opv_idx Try.underlying23 Try.sizeOf30 hF2 rfl rfl hy98) ?_
                refine SO.loadI1 (j := 0) rfl Try.isAgg30 (Rd.tail (Rd.head hF2)) hy98 rfl rfl rfl rfl ?_
                obtain ⟨x100, hx101, h⟩ := opt_bind h
                refine SO.v rfl (opv_idx Try.underlying30 Try.sizeOf3 hr99 rfl rfl hx101) ?_
                refine SO.loadI1 (j := 0) rfl Try.isAgg3 (Rd.tail (Rd.head hr99)) hx101 rfl rfl rfl rfl ?_
                refine SO.v rfl (opv_add rfl rfl) ?_
                refine SO.v rfl (opv_assign rfl) ?_
                refine SO.nil ?_
                refine S.region ?_
                refine SO.v rfl (opv_move rfl) ?_
                refine SO.v rfl (opv_move rfl) ?_
                refine SO.v rfl (opv_move rfl) ?_
                obtain ⟨x102, hx103, h⟩ := opt_bind h
                obtain ⟨y104, hy105, hr106⟩ := Rd2.at_ hl2 hR2 hx103
                refine SO.v rfl (opv_idx Try.underlying23 Try.sizeOf30 hF2 rfl rfl hy105) ?_
                refine SO.loadI1 (j := 0) rfl Try.isAgg30 (Rd.tail (Rd.head hF2)) hy105 rfl rfl rfl rfl ?_
                obtain ⟨x107, hx108, h⟩ := opt_bind h
                refine SO.v rfl (opv_idx Try.underlying30 Try.sizeOf3 hr106 rfl rfl hx108) ?_
                refine SO.loadI1 (j := 0) rfl Try.isAgg3 (Rd.tail (Rd.head hr106)) hx108 rfl rfl rfl rfl ?_
                refine SO.v rfl (opv_add rfl rfl) ?_
                refine SO.v rfl (opv_assign rfl) ?_
                refine SO.nil ?_
                refine S.inBlock ?_
                refine S.region ?_
                refine SO.v rfl (opv_move rfl) ?_
                refine SO.v rfl (opv_add rfl rfl) ?_
                refine SO.v rfl (opv_assign rfl) ?_
                refine SO.nil ?_
                refine S.b1 ?_
                refine S.b1 ?_
                refine S.to ?_ (ih3 ((w64 (x11_3 + 1), w64 (x9_3 + x100), w64 (x10_3 + x107), s49), ()) h)
                exact ⟨rfl, rfl, rfl, rfl, rfl, rfl, rfl, trivial⟩
    · replace h := cond_f b17 h
      refine S.condF rfl b17 ?_
      refine S.exit rfl ?_
      cases h
      refine S.b1 ?_
      refine S.b1 ?_
      refine S.to ?_ (hK3.2 (x9_3, x10_3, qv5_3) () rfl)
      exact ⟨rfl, rfl, rfl, rfl, rfl, trivial⟩
  refine ⟨fun r' e' => ?_, ?_⟩
  · subst e'
    have h9 := Brk.of_ret h
    exact h9
  rintro ⟨j9_e3, j10_e3, qv5_e3⟩ _ e'
  subst e'
  replace h := Brk.of_nx h
  refine S.rd fun hr109 => ?_
  refine S.seq ?_
  refine S.region ?_
  refine SO.v rfl (opv_move rfl) ?_
  refine SO.v rfl (opv_iface Try.underlying26 rfl rfl) ?_
  obtain ⟨⟨⟨t110, t111⟩, s113⟩, ht112, h⟩ := opt_bind h
  refine SO.call (pre := [(plainV v5).rep _]) rfl Try.call8 rfl rfl rfl (lay_Used.ct (plainV v5) _ _ _ _ ht112) trivial ?_
  rintro _ _ ⟨rfl, rfl⟩
  refine headEq (plainV_rep _ _) ?_
  refine SO.rd fun hr114 => ?_
  refine SO.v rfl (opv_move rfl) ?_
  refine SO.v rfl (opv_extract rfl rfl) ?_
  refine SO.v rfl (opv_extract rfl rfl) ?_
  refine SO.v rfl (opv_assign rfl) ?_
  refine SO.v rfl (opv_assign rfl) ?_
  refine SO.nil ?_
  refine S.to (ρ' := [(6, .bool false), (7, .bool t1), (9, .int .i64 j9_e3), (10, .int .i64 j10_e3), (18, .int .i64 t110), (19, .int .i64 t111)]) ⟨rfl, rfl, rfl, rfl, rfl, rfl, trivial⟩ ?_
  refine S.seq ?_
  refine S.region ?_
  refine SO.v rfl (opv_move rfl) ?_
  refine SO.v rfl (opv_move rfl) ?_
  refine SO.cut 4 168 (.bool (t1 && (t110 == j9_e3))) [Own 22 (ekI .u64) v5 s113, F] (fun l2 hk2 => ?_) ?_
  · rcases bool_or t1 with b115 | b115
    · refine SO.takeT rfl rfl rfl b115 ?_
      refine SO.v rfl (opv_move rfl) ?_
      refine SO.takeT rfl rfl rfl b115 ?_
      refine SO.v rfl (opv_move rfl) ?_
      refine SO.takeT rfl rfl rfl b115 ?_
      refine SO.v rfl (opv_eql rfl rfl) ?_
      refine SO.v rfl (opv_pick_t' b115 rfl rfl) ?_
      refine SO.b1 ?_
      refine SO.b1 ?_
      exact hk2.fitc (m := 4) rfl (and_t b115) rfl
    · refine SO.passF rfl rfl rfl b115 rfl rfl ?_
      refine SO.passF rfl rfl rfl b115 rfl rfl ?_
      refine SO.passF rfl rfl rfl b115 rfl rfl ?_
      refine SO.v rfl (opv_pick_f' b115 rfl rfl) ?_
      refine SO.b1 ?_
      refine SO.b1 ?_
      exact hk2.fitc (m := 4) rfl (and_f b115) rfl
  refine SO.v rfl (opv_move rfl) ?_
  refine SO.cut 4 173 (.bool ((t1 && (t110 == j9_e3)) && (t111 == j10_e3))) [Own 22 (ekI .u64) v5 s113, F] (fun l2 hk2 => ?_) ?_
  · rcases bool_or (t1 && (t110 == j9_e3)) with b116 | b116
    · refine SO.takeT rfl rfl rfl b116 ?_
      refine SO.v rfl (opv_move rfl) ?_
      refine SO.takeT rfl rfl rfl b116 ?_
      refine SO.v rfl (opv_move rfl) ?_
      refine SO.takeT rfl rfl rfl b116 ?_
      refine SO.v rfl (opv_eql rfl rfl) ?_
      refine SO.v rfl (opv_pick_t' b116 rfl rfl) ?_
      refine SO.b1 ?_
      refine SO.b1 ?_
      exact hk2.fitc (m := 4) rfl (and_t b116) rfl
    · refine SO.passF rfl rfl rfl b116 rfl rfl ?_
      refine SO.passF rfl rfl rfl b116 rfl rfl ?_
      refine SO.passF rfl rfl rfl b116 rfl rfl ?_
      refine SO.v rfl (opv_pick_f' b116 rfl rfl) ?_
      refine SO.b1 ?_
      refine SO.b1 ?_
      exact hk2.fitc (m := 4) rfl (and_f b116) rfl
  refine SO.v rfl (opv_assign rfl) ?_
  refine SO.nil ?_
  refine S.to (ρ' := [(6, .bool ((t1 && (t110 == j9_e3)) && (t111 == j10_e3)))]) ⟨rfl, trivial⟩ ?_
  cases h
  refine S.drop ?_
  exact S.ret1 Try.func3 rfl rfl (fun w hs hk => hR w _ _ ⟨rfl, rfl⟩ hs hk)
end Go.Proofs
namespace Go.Proofs
open Go.Sl Go.RowKit
/-! 14 padstone/lay.Put -/
def lay_Put.f (a1 : Int) (a2 : Int) (a3 : Int) : VM (Unit) :=
  (VM.opt (lay_Obj.f a1 a2)).bind fun (t1, t2) => bif t2 && (decide (0 ≤ a3)) then (VM.wr t1 (wu64 a3) (VM.ret ())) else (VM.ret ())
set_option maxHeartbeats 8000000 in
set_option maxRecDepth 100000 in
theorem lay_Put.ct (V : VW Try.prog) (a1 : Int) (a2 : Int) (a3 : Int) (s s' : V.S) (h : VM.run V.toVI (lay_Put.f a1 a2 a3) s = some ((), s')) :
    Ct Try.prog 14 [V.val, .int .i64 a1, .int .i64 a2, .int .i64 a3] (fun _ => True) [V.rep s] (fun u H' => u = .tuple #[] ∧ H' = [V.rep s']) := by
  unfold lay_Put.f at h
  refine Ct.intro (n := 26) Try.func14 rfl rfl rfl ?_
  intro R w0 F hF hR
  refine S.seq ?_
  refine S.region ?_
  refine SO.v rfl (opv_move rfl) ?_
  refine SO.v rfl (opv_move rfl) ?_
  obtain ⟨⟨t1, t2⟩, ht3, h⟩ := VM.opt_some V.toVI h
  refine SO.call (pre := []) rfl Try.call12 rfl rfl rfl (lay_Obj.ct _ _ _ _ ht3) trivial ?_
  rintro _ _ ⟨rfl, rfl⟩
  refine SO.v rfl (opv_move rfl) ?_
  refine SO.v rfl (opv_extract rfl rfl) ?_
  refine SO.v rfl (opv_extract rfl rfl) ?_
  refine SO.v rfl (opv_assign rfl) ?_
  refine SO.v rfl (opv_assign rfl) ?_
  refine SO.nil ?_
  refine S.to (ρ' := [(0, V.val), (3, .int .i64 a3), (8, .int .i64 t1), (9, .bool t2)]) ⟨rfl, rfl, rfl, rfl, trivial⟩ ?_
  refine S.seq ?_
  refine S.region ?_
  refine SO.v rfl (opv_move rfl) ?_
  refine SO.v rfl (opv_move rfl) ?_
  refine SO.cut 3 20 (.bool (t2 && (decide (0 ≤ a3)))) [V.rep s, F] (fun l2 hk2 => ?_) ?_
  · rcases bool_or t2 with b4 | b4
    · refine SO.takeT rfl rfl rfl b4 ?_
      refine SO.v rfl (opv_move rfl) ?_
      refine SO.takeT rfl rfl rfl b4 ?_
      refine SO.v rfl (opv_geq rfl rfl) ?_
      refine SO.v rfl (opv_pick_t' b4 rfl rfl) ?_
      refine SO.b1 ?_
      refine SO.b1 ?_
      exact hk2.fitc (m := 3) rfl (and_t b4) rfl
    · refine SO.passF rfl rfl rfl b4 rfl rfl ?_
      refine SO.passF rfl rfl rfl b4 rfl rfl ?_
      refine SO.v rfl (opv_pick_f' b4 rfl rfl) ?_
      refine SO.b1 ?_
      refine SO.b1 ?_
      exact hk2.fitc (m := 3) rfl (and_f b4) rfl
  refine SO.nil ?_
  rcases bool_or (t2 && (decide (0 ≤ a3))) with b5 | b5
  · replace h := VM.cond_t V.toVI b5 h
    refine S.condT rfl b5 ?_
    refine S.region ?_
    refine SO.v rfl (opv_move rfl) ?_
    refine SO.v rfl (opv_move rfl) ?_
    refine SO.v rfl (opv_move rfl) ?_
    refine SO.v rfl (opv_conv Try.underlying3 Try.underlying22 rfl) ?_
    obtain ⟨s6, hv7, h⟩ := VM.wr_some V.toVI h
    refine SO.vwrite' V rfl rfl rfl rfl hv7 ?_
    refine SO.nil ?_
    refine S.to (ρ' := []) trivial ?_
    obtain ⟨hq, rfl⟩ := VM.ret_some V.toVI h
    cases hq
    refine S.b1 ?_
    refine S.b1 ?_
    exact S.fin0 Try.func14 rfl (fun w hs hk => hR w _ _ ⟨rfl, rfl⟩ hs hk)
  · replace h := VM.cond_f V.toVI b5 h
    refine S.condF rfl b5 ?_
    refine S.skip ?_
    obtain ⟨hq, rfl⟩ := VM.ret_some V.toVI h
    cases hq
    refine S.b1 ?_
    refine S.b1 ?_
    exact S.fin0 Try.func14 rfl (fun w hs hk => hR w _ _ ⟨rfl, rfl⟩ hs hk)
end Go.Proofs
namespace Go.Proofs
open Go.Sl Go.RowKit
/-! 15 padstone/lay.Field -/
def lay_Field.f (a1 : Int) (a2 : Int) : VM (Int) :=
  (VM.opt (lay_Obj.f a1 a2)).bind fun (t1, t2) => bif !t2 then (VM.ret 0) else (VM.rd t1 fun t5 => bif decide (4611686018427387904 < t5) then (VM.ret 0) else (VM.ret (w64 t5)))
set_option maxHeartbeats 8000000 in
set_option maxRecDepth 100000 in
theorem lay_Field.ct (V : VW Try.prog) (a1 : Int) (a2 : Int) (r0 : Int) (s s' : V.S) (h : VM.run V.toVI (lay_Field.f a1 a2) s = some (r0, s')) :
    Ct Try.prog 15 [V.val, .int .i64 a1, .int .i64 a2] (fun _ => True) [V.rep s] (fun u H' => u = .int .i64 r0 ∧ H' = [V.rep s']) := by
  unfold lay_Field.f at h
  refine Ct.intro (n := 25) Try.func15 rfl rfl rfl ?_
  intro R w0 F hF hR
  refine S.seq ?_
  refine S.region ?_
  refine SO.v rfl (opv_assign rfl) ?_
  refine SO.nil ?_
  refine S.seq ?_
  refine S.region ?_
  refine SO.v rfl (opv_move rfl) ?_
  refine SO.v rfl (opv_move rfl) ?_
  obtain ⟨⟨t1, t2⟩, ht3, h⟩ := VM.opt_some V.toVI h
  refine SO.call (pre := []) rfl Try.call12 rfl rfl rfl (lay_Obj.ct _ _ _ _ ht3) trivial ?_
  rintro _ _ ⟨rfl, rfl⟩
  refine SO.v rfl (opv_move rfl) ?_
  refine SO.v rfl (opv_extract rfl rfl) ?_
  refine SO.v rfl (opv_extract rfl rfl) ?_
  refine SO.v rfl (opv_assign rfl) ?_
  refine SO.v rfl (opv_assign rfl) ?_
  refine SO.nil ?_
  refine S.to (ρ' := [(0, V.val), (6, .int .i64 0), (7, .int .i64 t1), (8, .bool t2)]) ⟨rfl, rfl, rfl, rfl, trivial⟩ ?_
  refine S.seq ?_
  refine S.seq ?_
  refine S.region ?_
  refine SO.v rfl (opv_move rfl) ?_
  refine SO.v rfl (opv_not rfl) ?_
  refine SO.nil ?_
  rcases bool_or (!t2) with b4 | b4
  · replace h := VM.cond_t V.toVI b4 h
    refine S.condT rfl b4 ?_
    refine S.seq ?_
    refine S.region ?_
    refine SO.v rfl (opv_assign rfl) ?_
    refine SO.nil ?_
    obtain ⟨hq, rfl⟩ := VM.ret_some V.toVI h
    cases hq
    refine S.b1 ?_
    refine S.b1 ?_
    exact S.ret1 Try.func15 rfl rfl (fun w hs hk => hR w _ _ ⟨rfl, rfl⟩ hs hk)
  · replace h := VM.cond_f V.toVI b4 h
    refine S.condF rfl b4 ?_
    refine S.skip ?_
    refine S.seq ?_
    refine S.region ?_
    refine SO.v rfl (opv_move rfl) ?_
    refine SO.v rfl (opv_move rfl) ?_
    obtain ⟨t5, s6, hv7, h⟩ := VM.rd_some V.toVI h
    refine SO.vread' V rfl rfl rfl hv7 ?_
    refine SO.v rfl (opv_assign rfl) ?_
    refine SO.nil ?_
    refine S.to (ρ' := [(6, .int .i64 0), (9, .int .u64 t5)]) ⟨rfl, rfl, trivial⟩ ?_
    refine S.seq ?_
    refine S.seq ?_
    refine S.region ?_
    refine SO.v rfl (opv_move rfl) ?_
    refine SO.v rfl (opv_gtr rfl rfl) ?_
    refine SO.nil ?_
    rcases bool_or (decide (4611686018427387904 < t5)) with b8 | b8
    · replace h := VM.cond_t V.toVI b8 h
      refine S.condT rfl b8 ?_
      refine S.seq ?_
      refine S.region ?_
      refine SO.v rfl (opv_assign rfl) ?_
      refine SO.nil ?_
      obtain ⟨hq, rfl⟩ := VM.ret_some V.toVI h
      cases hq
      refine S.b1 ?_
      refine S.b1 ?_
      exact S.ret1 Try.func15 rfl rfl (fun w hs hk => hR w _ _ ⟨rfl, rfl⟩ hs hk)
    · replace h := VM.cond_f V.toVI b8 h
      refine S.condF rfl b8 ?_
      refine S.skip ?_
      refine S.seq ?_
      refine S.region ?_
      refine SO.v rfl (opv_move rfl) ?_
      refine SO.v rfl (opv_conv Try.underlying22 Try.underlying3 rfl) ?_
      refine SO.v rfl (opv_assign rfl) ?_
      refine SO.nil ?_
      obtain ⟨hq, rfl⟩ := VM.ret_some V.toVI h
      cases hq
      refine S.b1 ?_
      refine S.b1 ?_
      exact S.ret1 Try.func15 rfl rfl (fun w hs hk => hR w _ _ ⟨rfl, rfl⟩ hs hk)
end Go.Proofs
namespace Go.Proofs
open Go.Sl Go.RowKit
/-! 16 padstone/lay.Ref -/
def lay_Ref.f (a1 : Int) (a2 : Int) : VM ((Int × Bool)) :=
  (lay_Field.f a1 a2).bind fun t1 => bif (decide (t1 < 1)) || (decide (32 < t1)) then (VM.ret (0, false)) else (VM.ret (w64 (t1 - 1), true))
set_option maxHeartbeats 8000000 in
set_option maxRecDepth 100000 in
theorem lay_Ref.ct (V : VW Try.prog) (a1 : Int) (a2 : Int) (r0 : Int) (r1 : Bool) (s s' : V.S) (h : VM.run V.toVI (lay_Ref.f a1 a2) s = some ((r0, r1), s')) :
    Ct Try.prog 16 [V.val, .int .i64 a1, .int .i64 a2] (fun _ => True) [V.rep s] (fun u H' => u = .tuple #[.int .i64 r0, .bool r1] ∧ H' = [V.rep s']) := by
  unfold lay_Ref.f at h
  refine Ct.intro (n := 21) Try.func16 rfl rfl rfl ?_
  intro R w0 F hF hR
  refine S.seq ?_
  refine S.region ?_
  refine SO.v rfl (opv_assign rfl) ?_
  refine SO.v rfl (opv_assign rfl) ?_
  refine SO.nil ?_
  refine S.seq ?_
  refine S.region ?_
  refine SO.v rfl (opv_move rfl) ?_
  refine SO.v rfl (opv_move rfl) ?_
  refine SO.v rfl (opv_move rfl) ?_
  obtain ⟨t1, s3, ht2, h⟩ := VM.bind_some V.toVI h
  refine SO.call (pre := [V.rep _]) rfl Try.call15 rfl rfl rfl (lay_Field.ct V _ _ _ _ _ ht2) trivial ?_
  rintro _ _ ⟨rfl, rfl⟩
  refine SO.v rfl (opv_assign rfl) ?_
  refine SO.nil ?_
  refine S.to (ρ' := [(6, .int .i64 0), (7, .bool false), (8, .int .i64 t1)]) ⟨rfl, rfl, rfl, trivial⟩ ?_
  refine S.seq ?_
  refine S.seq ?_
  refine S.region ?_
  refine SO.v rfl (opv_move rfl) ?_
  refine SO.v rfl (opv_lss rfl rfl) ?_
  refine SO.v rfl (opv_move rfl) ?_
  refine SO.cut 3 18 (.bool ((decide (t1 < 1)) || (decide (32 < t1)))) [V.rep s3, F] (fun l2 hk2 => ?_) ?_
  · rcases bool_or (decide (t1 < 1)) with b4 | b4
    · refine SO.passF rfl rfl rfl b4 rfl rfl ?_
      refine SO.passF rfl rfl rfl b4 rfl rfl ?_
      refine SO.v rfl (opv_pick_t' b4 rfl rfl) ?_
      refine SO.b1 ?_
      refine SO.b1 ?_
      exact hk2.fitc (m := 3) rfl (or_t b4) rfl
    · refine SO.takeT rfl rfl rfl b4 ?_
      refine SO.v rfl (opv_move rfl) ?_
      refine SO.takeT rfl rfl rfl b4 ?_
      refine SO.v rfl (opv_gtr rfl rfl) ?_
      refine SO.v rfl (opv_pick_f' b4 rfl rfl) ?_
      refine SO.b1 ?_
      refine SO.b1 ?_
      exact hk2.fitc (m := 3) rfl (or_f b4) rfl
  refine SO.nil ?_
  rcases bool_or ((decide (t1 < 1)) || (decide (32 < t1))) with b5 | b5
  · replace h := VM.cond_t V.toVI b5 h
    refine S.condT rfl b5 ?_
    refine S.seq ?_
    refine S.region ?_
    refine SO.v rfl (opv_assign rfl) ?_
    refine SO.v rfl (opv_assign rfl) ?_
    refine SO.nil ?_
    obtain ⟨hq, rfl⟩ := VM.ret_some V.toVI h
    cases hq
    refine S.b1 ?_
    refine S.b1 ?_
    exact S.ret2 Try.func16 rfl rfl rfl (fun w hs hk => hR w _ _ ⟨rfl, rfl⟩ hs hk)
  · replace h := VM.cond_f V.toVI b5 h
    refine S.condF rfl b5 ?_
    refine S.skip ?_
    refine S.seq ?_
    refine S.region ?_
    refine SO.v rfl (opv_move rfl) ?_
    refine SO.v rfl (opv_sub rfl rfl) ?_
    refine SO.v rfl (opv_assign rfl) ?_
    refine SO.v rfl (opv_assign rfl) ?_
    refine SO.nil ?_
    refine S.to (ρ' := [(6, .int .i64 (w64 (t1 - 1))), (7, .bool true)]) ⟨rfl, rfl, trivial⟩ ?_
    obtain ⟨hq, rfl⟩ := VM.ret_some V.toVI h
    cases hq
    refine S.b1 ?_
    refine S.b1 ?_
    exact S.ret2 Try.func16 rfl rfl rfl (fun w hs hk => hR w _ _ ⟨rfl, rfl⟩ hs hk)
end Go.Proofs
namespace Go.Proofs
open Go.Sl Go.RowKit
/-! 17 padstone/lay.Is -/
def lay_Is.f (a1 : Int) (a2 : Int) : VM (Bool) :=
  (VM.opt (lay_Obj.f a1 0)).bind fun (t1, t2) => (bif t2 && (decide (0 ≤ a2)) then (VM.rd t1 fun t8 => VM.ret (t8 == (wu64 a2))) else (VM.ret false)).bind fun c6 => VM.ret c6
set_option maxHeartbeats 8000000 in
set_option maxRecDepth 100000 in
theorem lay_Is.ct (V : VW Try.prog) (a1 : Int) (a2 : Int) (r0 : Bool) (s s' : V.S) (h : VM.run V.toVI (lay_Is.f a1 a2) s = some (r0, s')) :
    Ct Try.prog 17 [V.val, .int .i64 a1, .int .i64 a2] (fun _ => True) [V.rep s] (fun u H' => u = .bool r0 ∧ H' = [V.rep s']) := by
  unfold lay_Is.f at h
  refine Ct.intro (n := 27) Try.func17 rfl rfl rfl ?_
  intro R w0 F hF hR
  refine S.seq ?_
  refine S.region ?_
  refine SO.v rfl (opv_assign rfl) ?_
  refine SO.nil ?_
  refine S.seq ?_
  refine S.region ?_
  refine SO.v rfl (opv_move rfl) ?_
  obtain ⟨⟨t1, t2⟩, ht3, h⟩ := VM.opt_some V.toVI h
  refine SO.call (pre := []) rfl Try.call12 rfl rfl rfl (lay_Obj.ct _ _ _ _ ht3) trivial ?_
  rintro _ _ ⟨rfl, rfl⟩
  refine SO.v rfl (opv_move rfl) ?_
  refine SO.v rfl (opv_extract rfl rfl) ?_
  refine SO.v rfl (opv_extract rfl rfl) ?_
  refine SO.v rfl (opv_assign rfl) ?_
  refine SO.v rfl (opv_assign rfl) ?_
  refine SO.nil ?_
  refine S.seq ?_
  refine S.region ?_
  refine SO.v rfl (opv_move rfl) ?_
  refine SO.v rfl (opv_move rfl) ?_
  refine SO.cut 3 18 (.bool (t2 && (decide (0 ≤ a2)))) [V.rep s, F] (fun l2 hk2 => ?_) ?_
  · rcases bool_or t2 with b4 | b4
    · refine SO.takeT rfl rfl rfl b4 ?_
      refine SO.v rfl (opv_move rfl) ?_
      refine SO.takeT rfl rfl rfl b4 ?_
      refine SO.v rfl (opv_geq rfl rfl) ?_
      refine SO.v rfl (opv_pick_t' b4 rfl rfl) ?_
      refine SO.b1 ?_
      refine SO.b1 ?_
      exact hk2.fitc (m := 3) rfl (and_t b4) rfl
    · refine SO.passF rfl rfl rfl b4 rfl rfl ?_
      refine SO.passF rfl rfl rfl b4 rfl rfl ?_
      refine SO.v rfl (opv_pick_f' b4 rfl rfl) ?_
      refine SO.b1 ?_
      refine SO.b1 ?_
      exact hk2.fitc (m := 3) rfl (and_f b4) rfl
  refine SO.v rfl (opv_move rfl) ?_
  obtain ⟨c6, s11, hc7, hgk⟩ := VM.bind_some V.toVI h
  refine SO.cut 7 26 (.bool c6) [V.rep s11, F] (fun l2 hk2 => ?_) ?_
  · clear hgk
    replace h := hc7
    rcases bool_or (t2 && (decide (0 ≤ a2))) with b5 | b5
    · replace h := VM.cond_t V.toVI b5 h
      refine SO.takeT rfl rfl rfl b5 ?_
      refine SO.v rfl (opv_move rfl) ?_
      refine SO.takeT rfl rfl rfl b5 ?_
      refine SO.v rfl (opv_move rfl) ?_
      refine SO.takeT rfl rfl rfl b5 ?_
      obtain ⟨t8, s9, hv10, h⟩ := VM.rd_some V.toVI h
      refine SO.vread' V rfl rfl rfl hv10 ?_
      refine SO.takeT rfl rfl rfl b5 ?_
      refine SO.v rfl (opv_move rfl) ?_
      refine SO.takeT rfl rfl rfl b5 ?_
      refine SO.v rfl (opv_conv Try.underlying3 Try.underlying22 rfl) ?_
      refine SO.takeT rfl rfl rfl b5 ?_
      refine SO.v rfl (opv_eql rfl rfl) ?_
      obtain ⟨hq, rfl⟩ := VM.ret_some V.toVI h
      cases hq
      refine SO.v rfl (opv_pick_t' b5 rfl rfl) ?_
      refine SO.b1 ?_
      refine SO.b1 ?_
      exact hk2.fitc (m := 7) rfl (rfl) rfl
    · replace h := VM.cond_f V.toVI b5 h
      refine SO.passF rfl rfl rfl b5 rfl rfl ?_
      refine SO.passF rfl rfl rfl b5 rfl rfl ?_
      refine SO.passF rfl rfl rfl b5 rfl rfl ?_
      refine SO.passF rfl rfl rfl b5 rfl rfl ?_
      refine SO.passF rfl rfl rfl b5 rfl rfl ?_
      refine SO.passF rfl rfl rfl b5 rfl rfl ?_
      obtain ⟨hq, rfl⟩ := VM.ret_some V.toVI h
      cases hq
      refine SO.v rfl (opv_pick_f' b5 rfl rfl) ?_
      refine SO.b1 ?_
      refine SO.b1 ?_
      exact hk2.fitc (m := 7) rfl (rfl) rfl
  clear hc7
  replace h := hgk
  refine SO.v rfl (opv_assign rfl) ?_
  refine SO.nil ?_
  refine S.to (ρ' := [(6, .bool c6)]) ⟨rfl, trivial⟩ ?_
  obtain ⟨hq, rfl⟩ := VM.ret_some V.toVI h
  cases hq
  refine S.b1 ?_
  refine S.b1 ?_
  exact S.ret1 Try.func17 rfl rfl (fun w hs hk => hR w _ _ ⟨rfl, rfl⟩ hs hk)
end Go.Proofs
