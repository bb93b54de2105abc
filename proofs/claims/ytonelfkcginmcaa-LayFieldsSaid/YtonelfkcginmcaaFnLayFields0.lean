/- What the functions that LayFields reaches come to, and that they do. On no condition. -/
import Derived.Test.YtonelfkcginmcaaSlDraw
import Derived.Test.YtonelfkcginmcaaProg
set_option linter.all false
namespace Go.Proofs
open Go.Sl Go.RowKit
abbrev SV := {v : Value // v.oneCell' = true}
def ekS : EK SV := ⟨1, fun x => [x.1], fun _ => rfl, fun x v hv => by simp at hv; subst hv; exact x.2, by decide⟩
/-- A list of lists that may be read. -/
def Rd2 {α : Type} (K : EK α) (v : Value) (xss : List (List α)) (A : HProp) : Prop :=
  ∃ vs : List SV, Rd ekS v vs A ∧ vs.length = xss.length ∧ ∀ (i : Nat) (x : SV) (l : List α), vs[i]? = some x → xss[i]? = some l → Rd K x.1 l A
theorem Rd2.at_ {α : Type} {K : EK α} {xss : List (List α)} {A : HProp} {vs : List SV} {i : Int} {l : List α} (hl : vs.length = xss.length) (hR : ∀ (i : Nat) (x : SV) (l : List α), vs[i]? = some x → xss[i]? = some l → Rd K x.1 l A) (h : Go.Sl.at_ xss i = some l) : ∃ y : SV, Go.Sl.at_ vs i = some y ∧ Rd K y.1 l A := by
  obtain ⟨h1, h2, h3⟩ := at_spec h
  have h4 : vs[i.toNat]? = some (vs[i.toNat]'(by omega)) := List.getElem?_eq_getElem (by omega)
  refine ⟨vs[i.toNat]'(by omega), ?_, hR _ _ _ h4 h3⟩
  unfold Go.Sl.at_
  rw [decide_eq_true h1, cond_true, h4]
theorem opv_len2 {P : Program} {ρ : Env} {α : Type} {A : HProp} {vs : List SV} {xss : List (List α)} {v : Value} {x : Operand} {tys : Array TypeId} {t e : TypeId} (ht0 : tys[0]? = some t) (ht : P.underlying t = some (.slice e)) (hR : Rd ekS v vs A) (hl : vs.length = xss.length) (hx : ev ρ x = some v) :
    OpV P ρ (.call ⟨.builtin .len, #[x], tys⟩) (.int .i64 (xss.length : Int)) := by
  rw [← hl]; exact opv_lenR ht0 ht hR hx
theorem opv_pickB {P : Program} {ρ : Env} {c a b : Operand} {x y z : Bool} (hc : ev ρ c = some (.bool x)) (ha : ev ρ a = some (.bool y)) (hb : ev ρ b = some (.bool z)) : OpV P ρ (.pick c a b) (.bool (bif x then y else z)) := by
  cases x with
  | true => exact opv_pick_t' rfl hc ha
  | false => exact opv_pick_f' rfl hc hb
theorem opv_pickTF {P : Program} {ρ : Env} {c a b : Operand} {x : Bool} (hc : ev ρ c = some (.bool x)) (ha : ev ρ a = some (.bool true)) (hb : ev ρ b = some (.bool false)) : OpV P ρ (.pick c a b) (.bool x) := by
  cases x with
  | true => exact opv_pick_t' rfl hc ha
  | false => exact opv_pick_f' rfl hc hb
theorem inf22 : Try.prog.info? 22 = some Try.t22 := by kernel_rfl

end Go.Proofs
namespace Go.Proofs
open Go.Sl Go.RowKit
/-! 37 (padstone/view.Plain).has -/
def view_Plain_has.f (a0 : List Int) (a1 : Int) : Option (Bool) :=
  some ((decide (0 ≤ a1)) && (decide (a1 < (a0.length : Int))))
set_option maxHeartbeats 8000000 in
set_option maxRecDepth 100000 in
theorem view_Plain_has.ct (v0 : Value) (a0 : List Int) (a1 : Int) (r0 : Bool) (h : view_Plain_has.f a0 a1 = some r0) :
    Ct Try.prog 37 [v0, .int .i64 a1] (fun F => Rd (ekI .u64) v0 a0 F) [] (fun u H' => u = .bool r0 ∧ H' = []) := by
  unfold view_Plain_has.f at h
  refine Ct.intro (n := 13) Try.func37 rfl rfl rfl ?_
  intro R w0 F hF hR
  have hF0 := hF
  refine S.seq ?_
  refine S.region ?_
  refine SO.v rfl (opv_assign rfl) ?_
  refine SO.nil ?_
  refine S.seq ?_
  refine S.region ?_
  refine SO.v rfl (opv_move rfl) ?_
  refine SO.v rfl (opv_geq rfl rfl) ?_
  refine SO.v rfl (opv_move rfl) ?_
  refine SO.cut 5 12 (.bool ((decide (0 ≤ a1)) && (decide (a1 < (a0.length : Int))))) [F] (fun l2 hk2 => ?_) ?_
  · rcases bool_or (decide (0 ≤ a1)) with b1 | b1
    · refine SO.takeT rfl rfl rfl b1 ?_
      refine SO.v rfl (opv_move rfl) ?_
      refine SO.takeT rfl rfl rfl b1 ?_
      refine SO.v rfl (opv_move rfl) ?_
      refine SO.takeT rfl rfl rfl b1 ?_
      refine SO.v rfl (opv_lenR rfl Try.underlying26 hF0 rfl) ?_
      refine SO.takeT rfl rfl rfl b1 ?_
      refine SO.v rfl (opv_lss rfl rfl) ?_
      refine SO.v rfl (opv_pick_t' b1 rfl rfl) ?_
      exact hk2.fitc (m := 5) rfl (and_t b1) rfl
    · refine SO.passF rfl rfl rfl b1 rfl rfl ?_
      refine SO.passF rfl rfl rfl b1 rfl rfl ?_
      refine SO.passF rfl rfl rfl b1 rfl rfl ?_
      refine SO.passF rfl rfl rfl b1 rfl rfl ?_
      refine SO.v rfl (opv_pick_f' b1 rfl rfl) ?_
      exact hk2.fitc (m := 5) rfl (and_f b1) rfl
  refine SO.v rfl (opv_assign rfl) ?_
  refine SO.nil ?_
  cases h
  exact S.ret1 Try.func37 rfl rfl (fun w hs hk => hR w _ _ ⟨rfl, rfl⟩ hs hk)
end Go.Proofs
namespace Go.Proofs
open Go.Sl Go.RowKit
/-! 35 (padstone/view.Plain).Read -/
def view_Plain_Read.f (a0 : List Int) (a1 : Int) : Option (Int) :=
  (view_Plain_has.f a0 a1).bind fun t1 => bif !t1 then (some 0) else ((at_ a0 a1).bind fun x4 => some x4)
set_option maxHeartbeats 8000000 in
set_option maxRecDepth 100000 in
theorem view_Plain_Read.ct (v0 : Value) (a0 : List Int) (a1 : Int) (r0 : Int) (h : view_Plain_Read.f a0 a1 = some r0) :
    Ct Try.prog 35 [v0, .int .i64 a1] (fun F => Rd (ekI .u64) v0 a0 F) [] (fun u H' => u = .int .u64 r0 ∧ H' = []) := by
  unfold view_Plain_Read.f at h
  refine Ct.intro (n := 13) Try.func35 rfl rfl rfl ?_
  intro R w0 F hF hR
  have hF0 := hF
  refine S.seq ?_
  refine S.region ?_
  refine SO.v rfl (opv_assign rfl) ?_
  refine SO.nil ?_
  refine S.seq ?_
  refine S.seq ?_
  refine S.region ?_
  refine SO.v rfl (opv_move rfl) ?_
  refine SO.v rfl (opv_move rfl) ?_
  obtain ⟨t1, ht2, h⟩ := opt_bind h
  refine SO.call (pre := []) rfl Try.call37 rfl rfl rfl (view_Plain_has.ct _ _ _ _ ht2) (Rd.head hF0) ?_
  rintro _ _ ⟨rfl, rfl⟩
  refine SO.v rfl (opv_not rfl) ?_
  refine SO.nil ?_
  rcases bool_or (!t1) with b3 | b3
  · replace h := cond_t b3 h
    refine S.condT rfl b3 ?_
    refine S.seq ?_
    refine S.region ?_
    refine SO.v rfl (opv_assign rfl) ?_
    refine SO.nil ?_
    cases h
    exact S.ret1 Try.func35 rfl rfl (fun w hs hk => hR w _ _ ⟨rfl, rfl⟩ hs hk)
  · replace h := cond_f b3 h
    refine S.condF rfl b3 ?_
    refine S.skip ?_
    refine S.seq ?_
    refine S.region ?_
    refine SO.v rfl (opv_move rfl) ?_
    refine SO.v rfl (opv_move rfl) ?_
    obtain ⟨x4, hx5, h⟩ := opt_bind h
    refine SO.v rfl (opv_idx Try.underlying26 Try.sizeOf22 hF0 rfl rfl hx5) ?_
    refine SO.loadI1 (j := 0) rfl Try.isAgg22 (Rd.head hF0) hx5 rfl rfl rfl rfl ?_
    refine SO.v rfl (opv_assign rfl) ?_
    refine SO.nil ?_
    refine S.to (ρ' := [(4, .int .u64 x4)]) ⟨rfl, trivial⟩ ?_
    cases h
    exact S.ret1 Try.func35 rfl rfl (fun w hs hk => hR w _ _ ⟨rfl, rfl⟩ hs hk)
end Go.Proofs
namespace Go.Proofs
open Go.Sl Go.RowKit
/-! 36 (padstone/view.Plain).Write -/
def view_Plain_Write.f (a0 : List Int) (a1 : Int) (a2 : Int) : Option ((List Int)) :=
  (view_Plain_has.f a0 a1).bind fun t2 => bif t2 then ((at_ a0 a1).bind fun x5 => some (a0.set a1.toNat a2)) else (some a0)
set_option maxHeartbeats 8000000 in
set_option maxRecDepth 100000 in
theorem view_Plain_Write.ct (v0 : Value) (a0 : List Int) (a1 : Int) (a2 : Int) (q0 : List Int) (h : view_Plain_Write.f a0 a1 a2 = some q0) :
    Ct Try.prog 36 [v0, .int .i64 a1, .int .u64 a2] (fun _ => True) [Own 22 (ekI .u64) v0 a0] (fun u H' => u = .tuple #[] ∧ H' = [Own 22 (ekI .u64) v0 q0]) := by
  unfold view_Plain_Write.f at h
  refine Ct.intro (n := 13) Try.func36 rfl rfl rfl ?_
  intro R w0 F hF hR
  refine S.rd fun hr1 => ?_
  refine S.seq ?_
  refine S.region ?_
  refine SO.v rfl (opv_move rfl) ?_
  refine SO.v rfl (opv_move rfl) ?_
  obtain ⟨t2, ht3, h⟩ := opt_bind h
  refine SO.call (pre := []) rfl Try.call37 rfl rfl rfl (view_Plain_has.ct _ _ _ _ ht3) (Rd.head hr1) ?_
  rintro _ _ ⟨rfl, rfl⟩
  refine SO.nil ?_
  rcases bool_or t2 with b4 | b4
  · replace h := cond_t b4 h
    refine S.condT rfl b4 ?_
    refine S.region ?_
    refine SO.v rfl (opv_move rfl) ?_
    refine SO.v rfl (opv_move rfl) ?_
    refine SO.v rfl (opv_move rfl) ?_
    obtain ⟨x5, hx6, h⟩ := opt_bind h
    refine SO.v rfl (opv_idx Try.underlying26 Try.sizeOf22 hr1 rfl rfl hx6) ?_
    refine SO.storeI1 (j := 0) (z' := a2) Try.sizeOf22 hx6 rfl rfl rfl rfl rfl rfl ?_
    refine SO.rd fun hr7 => ?_
    refine SO.nil ?_
    refine S.to (ρ' := []) trivial ?_
    cases h
    refine S.b1 ?_
    refine S.b1 ?_
    exact S.fin0 Try.func36 rfl (fun w hs hk => hR w _ _ ⟨rfl, rfl⟩ hs hk)
  · replace h := cond_f b4 h
    refine S.condF rfl b4 ?_
    refine S.skip ?_
    cases h
    refine S.b1 ?_
    refine S.b1 ?_
    exact S.fin0 Try.func36 rfl (fun w hs hk => hR w _ _ ⟨rfl, rfl⟩ hs hk)
end Go.Proofs
namespace Go.Proofs
open Go.Sl Go.RowKit
/-! A list of one's own, as a view. -/
theorem read_ok (s : List Int) (i : Int) : ∃ r, view_Plain_Read.f s i = some r := by
  cases h : view_Plain_Read.f s i with
  | some r => exact ⟨r, rfl⟩
  | none =>
    exfalso
    revert h
    unfold view_Plain_Read.f view_Plain_has.f
    by_cases h1 : 0 ≤ i ∧ i < (s.length : Int)
    · have : s[i.toNat]? = some s[i.toNat] := List.getElem?_eq_getElem (by omega)
      simp [h1, at_, this]
    · have : (decide (0 ≤ i) && decide (i < (s.length : Int))) = false := by simpa using h1
      simp [this]
theorem write_ok (s : List Int) (i x : Int) : ∃ r, view_Plain_Write.f s i x = some r := by
  cases h : view_Plain_Write.f s i x with
  | some r => exact ⟨r, rfl⟩
  | none =>
    exfalso
    revert h
    unfold view_Plain_Write.f view_Plain_has.f
    by_cases h1 : 0 ≤ i ∧ i < (s.length : Int)
    · have : s[i.toNat]? = some s[i.toNat] := List.getElem?_eq_getElem (by omega)
      simp [h1, at_, this]
    · have : (decide (0 ≤ i) && decide (i < (s.length : Int))) = false := by simpa using h1
      simp [this]
abbrev plainI : VI := ⟨List Int, fun s i => ((view_Plain_Read.f s i).getD 0, s), fun s i x => (view_Plain_Write.f s i x).getD s⟩
theorem ofRd {P : Program} {g : FuncId} {vals : List Value} {α : Type} {E : TypeId} {K : EK α} {v : Value} {xs : List α} {u0 : Value} (h : Ct P g vals (fun F => Rd K v xs F) [] (fun u H' => u = u0 ∧ H' = [])) :
    Ct P g vals (fun _ => True) [Own E K v xs] (fun u H' => u = u0 ∧ H' = [Own E K v xs]) := by
  intro w F _ hs
  have h2 : Sat w ([] ++ [stars [Own E K v xs, F]]) := Sat.pack (l1 := []) hs
  have hr : Rd K v xs (stars [Own E K v xs, F]) := by
    obtain ⟨m, hm, ho⟩ := Sat.head hs
    exact Rd.head (Own.rd ho)
  refine (h w _ hr h2).mono ?_
  rintro e w' ⟨u, H', he, ⟨hu, rfl⟩, hs', hk⟩
  exact ⟨u, _, he, ⟨hu, rfl⟩, Sat.unpack (l1 := []) hs', hk⟩
set_option maxRecDepth 100000 in
set_option maxHeartbeats 4000000 in
noncomputable def plainV (v : Value) : VW Try.prog :=
  { plainI with
    t := 26, v := v, rep := fun s => Own 22 (ekI .u64) v s
    rF := 35, rV := v, wF := 36, wV := v
    rM := by intro w; kernel_rfl
    wM := by intro w; kernel_rfl
    rC := Try.call35, wC := Try.call36
    rCt := fun s i => by
      obtain ⟨r, hr⟩ := read_ok s i
      have := ofRd (E := 22) (view_Plain_Read.ct v s i r hr)
      show Ct _ _ _ _ _ (fun u H' => u = .int .u64 ((view_Plain_Read.f s i).getD 0) ∧ H' = [Own 22 (ekI .u64) v s])
      rw [hr]; exact this
    wCt := fun s i x => by
      obtain ⟨r, hr⟩ := write_ok s i x
      have := view_Plain_Write.ct v s i x r hr
      show Ct _ _ _ _ _ (fun u H' => u = .tuple #[] ∧ H' = [Own 22 (ekI .u64) v ((view_Plain_Write.f s i x).getD s)])
      rw [hr]; exact this }
theorem plainV_rep (v : Value) (s : List Int) : (plainV v).rep s = Own 22 (ekI .u64) v s := rfl
theorem headEq {P : Program} {n : Nat} {Z : Act → World → Prop} {w0 : World} {ops : Array Oper} {l : List Oper} {ρ : Env} {A B : HProp} {rest : List HProp} (h : A = B) (k : SO P n Z w0 ops l ρ (B :: rest)) : SO P n Z w0 ops l ρ (A :: rest) := by
  subst h; exact k
end Go.Proofs
namespace Go.Proofs
open Go.Sl Go.RowKit
/-! 18 padstone/padstonelaw09.number -/
def law09_number.f (a0 : Int) : Option (Int) :=
  bif decide (4611686018427387904 < a0) then (some 0) else (some (w64 a0))
set_option maxHeartbeats 8000000 in
set_option maxRecDepth 100000 in
theorem law09_number.ct (a0 : Int) (r0 : Int) (h : law09_number.f a0 = some r0) :
    Ct Try.prog 18 [.int .u64 a0] (fun _ => True) [] (fun u H' => u = .int .i64 r0 ∧ H' = []) := by
  unfold law09_number.f at h
  refine Ct.intro (n := 7) Try.func18 rfl rfl rfl ?_
  intro R w0 F hF hR
  refine S.seq ?_
  refine S.region ?_
  refine SO.v rfl (opv_assign rfl) ?_
  refine SO.nil ?_
  refine S.seq ?_
  refine S.seq ?_
  refine S.region ?_
  refine SO.v rfl (opv_move rfl) ?_
  refine SO.v rfl (opv_gtr rfl rfl) ?_
  refine SO.nil ?_
  rcases bool_or (decide (4611686018427387904 < a0)) with b1 | b1
  · replace h := cond_t b1 h
    refine S.condT rfl b1 ?_
    refine S.seq ?_
    refine S.region ?_
    refine SO.v rfl (opv_assign rfl) ?_
    refine SO.nil ?_
    cases h
    exact S.ret1 Try.func18 rfl rfl (fun w hs hk => hR w _ _ ⟨rfl, rfl⟩ hs hk)
  · replace h := cond_f b1 h
    refine S.condF rfl b1 ?_
    refine S.skip ?_
    refine S.seq ?_
    refine S.region ?_
    refine SO.v rfl (opv_move rfl) ?_
    refine SO.v rfl (opv_conv Try.underlying22 Try.underlying3 rfl) ?_
    refine SO.v rfl (opv_assign rfl) ?_
    refine SO.nil ?_
    cases h
    exact S.ret1 Try.func18 rfl rfl (fun w hs hk => hR w _ _ ⟨rfl, rfl⟩ hs hk)
end Go.Proofs
namespace Go.Proofs
open Go.Sl Go.RowKit
/-! 19 padstone/lay.in -/
def lay_in.f (a0 : Int) (a1 : Int) : Option (Bool) :=
  some ((decide (0 ≤ a0)) && (decide (a0 < a1)))
set_option maxHeartbeats 8000000 in
set_option maxRecDepth 100000 in
theorem lay_in.ct (a0 : Int) (a1 : Int) (r0 : Bool) (h : lay_in.f a0 a1 = some r0) :
    Ct Try.prog 19 [.int .i64 a0, .int .i64 a1] (fun _ => True) [] (fun u H' => u = .bool r0 ∧ H' = []) := by
  unfold lay_in.f at h
  refine Ct.intro (n := 12) Try.func19 rfl rfl rfl ?_
  intro R w0 F hF hR
  refine S.seq ?_
  refine S.region ?_
  refine SO.v rfl (opv_assign rfl) ?_
  refine SO.nil ?_
  refine S.seq ?_
  refine S.region ?_
  refine SO.v rfl (opv_move rfl) ?_
  refine SO.v rfl (opv_geq rfl rfl) ?_
  refine SO.v rfl (opv_move rfl) ?_
  refine SO.cut 4 11 (.bool ((decide (0 ≤ a0)) && (decide (a0 < a1)))) [F] (fun l2 hk2 => ?_) ?_
  · rcases bool_or (decide (0 ≤ a0)) with b1 | b1
    · refine SO.takeT rfl rfl rfl b1 ?_
      refine SO.v rfl (opv_move rfl) ?_
      refine SO.takeT rfl rfl rfl b1 ?_
      refine SO.v rfl (opv_move rfl) ?_
      refine SO.takeT rfl rfl rfl b1 ?_
      refine SO.v rfl (opv_lss rfl rfl) ?_
      refine SO.v rfl (opv_pick_t' b1 rfl rfl) ?_
      exact hk2.fitc (m := 4) rfl (and_t b1) rfl
    · refine SO.passF rfl rfl rfl b1 rfl rfl ?_
      refine SO.passF rfl rfl rfl b1 rfl rfl ?_
      refine SO.passF rfl rfl rfl b1 rfl rfl ?_
      refine SO.v rfl (opv_pick_f' b1 rfl rfl) ?_
      exact hk2.fitc (m := 4) rfl (and_f b1) rfl
  refine SO.v rfl (opv_assign rfl) ?_
  refine SO.nil ?_
  cases h
  exact S.ret1 Try.func19 rfl rfl (fun w hs hk => hR w _ _ ⟨rfl, rfl⟩ hs hk)
end Go.Proofs
namespace Go.Proofs
open Go.Sl Go.RowKit
/-! 12 padstone/lay.Obj -/
def lay_Obj.f (a0 : Int) (a1 : Int) : Option ((Int × Bool)) :=
  (lay_in.f a0 32).bind fun t1 => (bif !t1 then (some true) else ((lay_in.f a1 8).bind fun t6 => some (!t6))).bind fun c4 => bif c4 then (some (0, false)) else (some (w64 ((w64 (480 + (w64 (a0 * 8)))) + a1), true))
set_option maxHeartbeats 8000000 in
set_option maxRecDepth 100000 in
theorem lay_Obj.ct (a0 : Int) (a1 : Int) (r0 : Int) (r1 : Bool) (h : lay_Obj.f a0 a1 = some (r0, r1)) :
    Ct Try.prog 12 [.int .i64 a0, .int .i64 a1] (fun _ => True) [] (fun u H' => u = .tuple #[.int .i64 r0, .bool r1] ∧ H' = []) := by
  unfold lay_Obj.f at h
  refine Ct.intro (n := 19) Try.func12 rfl rfl rfl ?_
  intro R w0 F hF hR
  refine S.seq ?_
  refine S.region ?_
  refine SO.v rfl (opv_assign rfl) ?_
  refine SO.v rfl (opv_assign rfl) ?_
  refine SO.nil ?_
  refine S.seq ?_
  refine S.seq ?_
  refine S.region ?_
  refine SO.v rfl (opv_move rfl) ?_
  obtain ⟨t1, ht2, h⟩ := opt_bind h
  refine SO.call (pre := []) rfl Try.call19 rfl rfl rfl (lay_in.ct _ _ _ ht2) trivial ?_
  rintro _ _ ⟨rfl, rfl⟩
  refine SO.v rfl (opv_not rfl) ?_
  refine SO.v rfl (opv_move rfl) ?_
  obtain ⟨c4, hc5, hgk⟩ := opt_bind h
  refine SO.cut 4 13 (.bool c4) [F] (fun l2 hk2 => ?_) ?_
  · clear hgk
    replace h := hc5
    rcases bool_or (!t1) with b3 | b3
    · replace h := cond_t b3 h
      refine SO.passF rfl rfl rfl b3 rfl rfl ?_
      refine SO.passF rfl rfl rfl b3 rfl rfl ?_
      refine SO.passF rfl rfl rfl b3 rfl rfl ?_
      cases h
      refine SO.v rfl (opv_pick_t' b3 rfl rfl) ?_
      exact hk2.fitc (m := 4) rfl (rfl) rfl
    · replace h := cond_f b3 h
      refine SO.takeT rfl rfl rfl b3 ?_
      refine SO.v rfl (opv_move rfl) ?_
      refine SO.takeT rfl rfl rfl b3 ?_
      obtain ⟨t6, ht7, h⟩ := opt_bind h
      refine SO.call (pre := []) rfl Try.call19 rfl rfl rfl (lay_in.ct _ _ _ ht7) trivial ?_
      rintro _ _ ⟨rfl, rfl⟩
      refine SO.takeT rfl rfl rfl b3 ?_
      refine SO.v rfl (opv_not rfl) ?_
      cases h
      refine SO.v rfl (opv_pick_f' b3 rfl rfl) ?_
      exact hk2.fitc (m := 4) rfl (rfl) rfl
  clear hc5
  replace h := hgk
  refine SO.nil ?_
  rcases bool_or c4 with b8 | b8
  · replace h := cond_t b8 h
    refine S.condT rfl b8 ?_
    refine S.seq ?_
    refine S.region ?_
    refine SO.v rfl (opv_assign rfl) ?_
    refine SO.v rfl (opv_assign rfl) ?_
    refine SO.nil ?_
    cases h
    exact S.ret2 Try.func12 rfl rfl rfl (fun w hs hk => hR w _ _ ⟨rfl, rfl⟩ hs hk)
  · replace h := cond_f b8 h
    refine S.condF rfl b8 ?_
    refine S.skip ?_
    refine S.seq ?_
    refine S.region ?_
    refine SO.v rfl (opv_move rfl) ?_
    refine SO.v rfl (opv_mul rfl rfl) ?_
    refine SO.v rfl (opv_add rfl rfl) ?_
    refine SO.v rfl (opv_move rfl) ?_
    refine SO.v rfl (opv_add rfl rfl) ?_
    refine SO.v rfl (opv_assign rfl) ?_
    refine SO.v rfl (opv_assign rfl) ?_
    refine SO.nil ?_
    refine S.to (ρ' := [(4, .int .i64 (w64 ((w64 (480 + (w64 (a0 * 8)))) + a1))), (5, .bool true)]) ⟨rfl, rfl, trivial⟩ ?_
    cases h
    exact S.ret2 Try.func12 rfl rfl rfl (fun w hs hk => hR w _ _ ⟨rfl, rfl⟩ hs hk)
end Go.Proofs
namespace Go.Proofs
open Go.Sl Go.RowKit
/-! 13 padstone/lay.Size -/
def lay_Size.f : Option (Int) :=
  some 738
set_option maxHeartbeats 8000000 in
set_option maxRecDepth 100000 in
theorem lay_Size.ct (r0 : Int) (h : lay_Size.f  = some r0) :
    Ct Try.prog 13 [] (fun _ => True) [] (fun u H' => u = .int .i64 r0 ∧ H' = []) := by
  unfold lay_Size.f at h
  refine Ct.intro (n := 1) Try.func13 rfl rfl rfl ?_
  intro R w0 F hF hR
  refine S.seq ?_
  refine S.region ?_
  refine SO.v rfl (opv_assign rfl) ?_
  refine SO.nil ?_
  refine S.seq ?_
  refine S.region ?_
  refine SO.v rfl (opv_assign rfl) ?_
  refine SO.nil ?_
  cases h
  exact S.ret1 Try.func13 rfl rfl (fun w hs hk => hR w _ _ ⟨rfl, rfl⟩ hs hk)
end Go.Proofs
namespace Go.Proofs
open Go.Sl Go.RowKit
/-! 11 padstone/lay.Slot -/
def lay_Slot.f (a0 : Int) (a1 : Int) : Option ((Int × Bool)) :=
  (lay_in.f a0 96).bind fun t1 => (bif !t1 then (some true) else ((lay_in.f a1 5).bind fun t6 => some (!t6))).bind fun c4 => bif c4 then (some (0, false)) else (some (w64 ((w64 (a0 * 5)) + a1), true))
set_option maxHeartbeats 8000000 in
set_option maxRecDepth 100000 in
theorem lay_Slot.ct (a0 : Int) (a1 : Int) (r0 : Int) (r1 : Bool) (h : lay_Slot.f a0 a1 = some (r0, r1)) :
    Ct Try.prog 11 [.int .i64 a0, .int .i64 a1] (fun _ => True) [] (fun u H' => u = .tuple #[.int .i64 r0, .bool r1] ∧ H' = []) := by
  unfold lay_Slot.f at h
  refine Ct.intro (n := 18) Try.func11 rfl rfl rfl ?_
  intro R w0 F hF hR
  refine S.seq ?_
  refine S.region ?_
  refine SO.v rfl (opv_assign rfl) ?_
  refine SO.v rfl (opv_assign rfl) ?_
  refine SO.nil ?_
  refine S.seq ?_
  refine S.seq ?_
  refine S.region ?_
  refine SO.v rfl (opv_move rfl) ?_
  obtain ⟨t1, ht2, h⟩ := opt_bind h
  refine SO.call (pre := []) rfl Try.call19 rfl rfl rfl (lay_in.ct _ _ _ ht2) trivial ?_
  rintro _ _ ⟨rfl, rfl⟩
  refine SO.v rfl (opv_not rfl) ?_
  refine SO.v rfl (opv_move rfl) ?_
  obtain ⟨c4, hc5, hgk⟩ := opt_bind h
  refine SO.cut 4 13 (.bool c4) [F] (fun l2 hk2 => ?_) ?_
  · clear hgk
    replace h := hc5
    rcases bool_or (!t1) with b3 | b3
    · replace h := cond_t b3 h
      refine SO.passF rfl rfl rfl b3 rfl rfl ?_
      refine SO.passF rfl rfl rfl b3 rfl rfl ?_
      refine SO.passF rfl rfl rfl b3 rfl rfl ?_
      cases h
      refine SO.v rfl (opv_pick_t' b3 rfl rfl) ?_
      exact hk2.fitc (m := 4) rfl (rfl) rfl
    · replace h := cond_f b3 h
      refine SO.takeT rfl rfl rfl b3 ?_
      refine SO.v rfl (opv_move rfl) ?_
      refine SO.takeT rfl rfl rfl b3 ?_
      obtain ⟨t6, ht7, h⟩ := opt_bind h
      refine SO.call (pre := []) rfl Try.call19 rfl rfl rfl (lay_in.ct _ _ _ ht7) trivial ?_
      rintro _ _ ⟨rfl, rfl⟩
      refine SO.takeT rfl rfl rfl b3 ?_
      refine SO.v rfl (opv_not rfl) ?_
      cases h
      refine SO.v rfl (opv_pick_f' b3 rfl rfl) ?_
      exact hk2.fitc (m := 4) rfl (rfl) rfl
  clear hc5
  replace h := hgk
  refine SO.nil ?_
  rcases bool_or c4 with b8 | b8
  · replace h := cond_t b8 h
    refine S.condT rfl b8 ?_
    refine S.seq ?_
    refine S.region ?_
    refine SO.v rfl (opv_assign rfl) ?_
    refine SO.v rfl (opv_assign rfl) ?_
    refine SO.nil ?_
    cases h
    exact S.ret2 Try.func11 rfl rfl rfl (fun w hs hk => hR w _ _ ⟨rfl, rfl⟩ hs hk)
  · replace h := cond_f b8 h
    refine S.condF rfl b8 ?_
    refine S.skip ?_
    refine S.seq ?_
    refine S.region ?_
    refine SO.v rfl (opv_move rfl) ?_
    refine SO.v rfl (opv_mul rfl rfl) ?_
    refine SO.v rfl (opv_move rfl) ?_
    refine SO.v rfl (opv_add rfl rfl) ?_
    refine SO.v rfl (opv_assign rfl) ?_
    refine SO.v rfl (opv_assign rfl) ?_
    refine SO.nil ?_
    refine S.to (ρ' := [(4, .int .i64 (w64 ((w64 (a0 * 5)) + a1))), (5, .bool true)]) ⟨rfl, rfl, trivial⟩ ?_
    cases h
    exact S.ret2 Try.func11 rfl rfl rfl (fun w hs hk => hR w _ _ ⟨rfl, rfl⟩ hs hk)
end Go.Proofs
namespace Go.Proofs
open Go.Sl Go.RowKit
/-! 6 padstone/padstonelaw09.up -/
def law09_up.f : Option (Bool) :=
  (lay_Slot.f 1 1).bind fun (t1, t2) => (lay_Obj.f 32 0).bind fun (t4, t5) => (bif ((t1 == 6) && t2) && (!t5) then ((lay_Size.f ).bind fun t12 => some (t12 == 738)) else (some false)).bind fun c10 => some c10
set_option maxHeartbeats 8000000 in
set_option maxRecDepth 100000 in
theorem law09_up.ct (r0 : Bool) (h : law09_up.f  = some r0) :
    Ct Try.prog 6 [] (fun _ => True) [] (fun u H' => u = .bool r0 ∧ H' = []) := by
  unfold law09_up.f at h
  refine Ct.intro (n := 26) Try.func6 rfl rfl rfl ?_
  intro R w0 F hF hR
  refine S.seq ?_
  refine S.region ?_
  refine SO.v rfl (opv_assign rfl) ?_
  refine SO.nil ?_
  refine S.seq ?_
  refine S.region ?_
  obtain ⟨⟨t1, t2⟩, ht3, h⟩ := opt_bind h
  refine SO.call (pre := []) rfl Try.call11 rfl rfl rfl (lay_Slot.ct _ _ _ _ ht3) trivial ?_
  rintro _ _ ⟨rfl, rfl⟩
  refine SO.v rfl (opv_move rfl) ?_
  refine SO.v rfl (opv_extract rfl rfl) ?_
  refine SO.v rfl (opv_extract rfl rfl) ?_
  refine SO.v rfl (opv_assign rfl) ?_
  refine SO.v rfl (opv_assign rfl) ?_
  refine SO.nil ?_
  refine S.seq ?_
  refine S.region ?_
  obtain ⟨⟨t4, t5⟩, ht6, h⟩ := opt_bind h
  refine SO.call (pre := []) rfl Try.call12 rfl rfl rfl (lay_Obj.ct _ _ _ _ ht6) trivial ?_
  rintro _ _ ⟨rfl, rfl⟩
  refine SO.v rfl (opv_move rfl) ?_
  refine SO.v rfl (opv_extract rfl rfl) ?_
  refine SO.v rfl (opv_extract rfl rfl) ?_
  refine SO.v rfl (opv_assign rfl) ?_
  refine SO.v rfl (opv_assign rfl) ?_
  refine SO.nil ?_
  refine S.to (ρ' := [(0, .bool false), (1, .int .i64 t1), (2, .bool t2), (4, .bool t5)]) ⟨rfl, rfl, rfl, rfl, trivial⟩ ?_
  refine S.seq ?_
  refine S.region ?_
  refine SO.v rfl (opv_move rfl) ?_
  refine SO.v rfl (opv_eql rfl rfl) ?_
  refine SO.v rfl (opv_move rfl) ?_
  refine SO.cut 2 17 (.bool ((t1 == 6) && t2)) [F] (fun l2 hk2 => ?_) ?_
  · rcases bool_or (t1 == 6) with b7 | b7
    · refine SO.takeT rfl rfl rfl b7 ?_
      refine SO.v rfl (opv_move rfl) ?_
      refine SO.v rfl (opv_pick_t' b7 rfl rfl) ?_
      exact hk2.fitc (m := 2) rfl (and_t b7) rfl
    · refine SO.passF rfl rfl rfl b7 rfl rfl ?_
      refine SO.v rfl (opv_pick_f' b7 rfl rfl) ?_
      exact hk2.fitc (m := 2) rfl (and_f b7) rfl
  refine SO.v rfl (opv_move rfl) ?_
  refine SO.cut 3 21 (.bool (((t1 == 6) && t2) && (!t5))) [F] (fun l2 hk2 => ?_) ?_
  · rcases bool_or ((t1 == 6) && t2) with b8 | b8
    · refine SO.takeT rfl rfl rfl b8 ?_
      refine SO.v rfl (opv_move rfl) ?_
      refine SO.takeT rfl rfl rfl b8 ?_
      refine SO.v rfl (opv_not rfl) ?_
      refine SO.v rfl (opv_pick_t' b8 rfl rfl) ?_
      exact hk2.fitc (m := 3) rfl (and_t b8) rfl
    · refine SO.passF rfl rfl rfl b8 rfl rfl ?_
      refine SO.passF rfl rfl rfl b8 rfl rfl ?_
      refine SO.v rfl (opv_pick_f' b8 rfl rfl) ?_
      exact hk2.fitc (m := 3) rfl (and_f b8) rfl
  refine SO.v rfl (opv_move rfl) ?_
  obtain ⟨c10, hc11, hgk⟩ := opt_bind h
  refine SO.cut 3 25 (.bool c10) [F] (fun l2 hk2 => ?_) ?_
  · clear hgk
    replace h := hc11
    rcases bool_or (((t1 == 6) && t2) && (!t5)) with b9 | b9
    · replace h := cond_t b9 h
      refine SO.takeT rfl rfl rfl b9 ?_
      obtain ⟨t12, ht13, h⟩ := opt_bind h
      refine SO.call (pre := []) rfl Try.call13 rfl rfl rfl (lay_Size.ct _ ht13) trivial ?_
      rintro _ _ ⟨rfl, rfl⟩
      refine SO.takeT rfl rfl rfl b9 ?_
      refine SO.v rfl (opv_eql rfl rfl) ?_
      cases h
      refine SO.v rfl (opv_pick_t' b9 rfl rfl) ?_
      exact hk2.fitc (m := 3) rfl (rfl) rfl
    · replace h := cond_f b9 h
      refine SO.passF rfl rfl rfl b9 rfl rfl ?_
      refine SO.passF rfl rfl rfl b9 rfl rfl ?_
      cases h
      refine SO.v rfl (opv_pick_f' b9 rfl rfl) ?_
      exact hk2.fitc (m := 3) rfl (rfl) rfl
  clear hc11
  replace h := hgk
  refine SO.v rfl (opv_assign rfl) ?_
  refine SO.nil ?_
  refine S.to (ρ' := [(0, .bool c10)]) ⟨rfl, trivial⟩ ?_
  cases h
  exact S.ret1 Try.func6 rfl rfl (fun w hs hk => hR w _ _ ⟨rfl, rfl⟩ hs hk)
end Go.Proofs
namespace Go.Proofs
open Go.Sl Go.RowKit
/-! 7 padstone/padstonelaw09.words -/
def law09_words.l1 (a0 : List Int) : Nat → (Int × (List Int)) → Option ((List Int))
  | 0, _ => none
  | k + 1, (x4_1, qv1_1) => bif (decide (x4_1 < (a0.length : Int))) && (decide (x4_1 < 738)) then ((at_ a0 x4_1).bind fun x8 => (at_ qv1_1 x4_1).bind fun x10 => law09_words.l1 a0 k (w64 (x4_1 + 1), qv1_1.set x4_1.toNat x8)) else (some qv1_1)
def law09_words.f (k : Nat) (a0 : List Int) : Option ((List Int)) :=
  (mk_ 0 738).bind fun xs3 => (law09_words.l1 a0 k (0, xs3)).bind fun qv1_e1 => some qv1_e1
set_option maxHeartbeats 8000000 in
set_option maxRecDepth 100000 in
theorem law09_words.ct (k : Nat) (v0 : Value) (a0 : List Int) (r0 : List Int) (h : law09_words.f k a0 = some r0) :
    Ct Try.prog 7 [v0] (fun F => Rd (ekI .u64) v0 a0 F) [] (fun u H' => ∃ v_r0, u = v_r0 ∧ H' = [Own 22 (ekI .u64) v_r0 r0]) := by
  unfold law09_words.f at h
  refine Ct.intro (n := 24) Try.func7 rfl rfl rfl ?_
  intro R w0 F hF hR
  have hF0 := hF
  refine S.seq ?_
  refine S.region ?_
  refine SO.v rfl (opv_assign rfl) ?_
  refine SO.nil ?_
  refine S.seq ?_
  refine S.region ?_
  obtain ⟨xs3, hx4, h⟩ := opt_bind h
  refine SO.makeSlice (K := ekI .u64) rfl Try.underlying25 inf22 rfl rfl rfl (by decide) rfl rfl rfl hx4 (fun v1 hr2 => ?_)
  refine SO.v rfl (opv_assign rfl) ?_
  refine SO.nil ?_
  refine S.seq ?_
  refine S.seq ?_
  refine S.region ?_
  refine SO.v rfl (opv_assign rfl) ?_
  refine SO.nil ?_
  obtain ⟨qv1_e1, hl1, h⟩ := opt_bind h
  refine S.b1 ?_
  refine S.b1 ?_
  refine S.to (ρ' := [(4, .int .i64 0), (3, v1), (2, .slice none 0 0), (0, v0)]) ⟨rfl, rfl, rfl, rfl, trivial⟩ ?_
  refine S.forloop (X := (Int × (List Int)) × Unit) (O := (List Int)) (fun m x => law09_words.l1 a0 m x.1) (fun x => match x with | ((x4_1, qv1_1), _) => [(4, .int .i64 x4_1), (3, v1), (2, .slice none 0 0), (0, v0)]) (fun x => match x with | ((x4_1, qv1_1), _) => [Own 22 (ekI .u64) v1 qv1_1, F]) (fun Sk => (fun qv1_e1 => ∀ _ : Unit, Sk [(2, .slice none 0 0), (3, v1)] [Own 22 (ekI .u64) v1 qv1_e1, F])) (fun _ => rfl) ?_ (m := k) (x := ((0, xs3), ())) hl1 ?_
  · clear h hl1
    intro k x o_1 h hK1 ih1
    obtain ⟨⟨x4_1, qv1_1⟩, _⟩ := x
    replace h : law09_words.l1 a0 (k + 1) (x4_1, qv1_1) = some o_1 := h
    first | rw [law09_words.l1] at h | unfold law09_words.l1 at h
    refine S.rd fun hr5 => ?_
    refine S.seq ?_
    refine S.seq ?_
    refine S.region ?_
    refine SO.v rfl (opv_move rfl) ?_
    refine SO.v rfl (opv_move rfl) ?_
    refine SO.v rfl (opv_lenR rfl Try.underlying25 hF0 rfl) ?_
    refine SO.v rfl (opv_lss rfl rfl) ?_
    refine SO.v rfl (opv_move rfl) ?_
    refine SO.cut 3 13 (.bool ((decide (x4_1 < (a0.length : Int))) && (decide (x4_1 < 738)))) [Own 22 (ekI .u64) v1 qv1_1, F] (fun l2 hk2 => ?_) ?_
    · rcases bool_or (decide (x4_1 < (a0.length : Int))) with b6 | b6
      · refine SO.takeT rfl rfl rfl b6 ?_
        refine SO.v rfl (opv_move rfl) ?_
        refine SO.takeT rfl rfl rfl b6 ?_
        refine SO.v rfl (opv_lss rfl rfl) ?_
        refine SO.v rfl (opv_pick_t' b6 rfl rfl) ?_
        refine SO.b1 ?_
        refine SO.b1 ?_
        exact hk2.fitc (m := 3) rfl (and_t b6) rfl
      · refine SO.passF rfl rfl rfl b6 rfl rfl ?_
        refine SO.passF rfl rfl rfl b6 rfl rfl ?_
        refine SO.v rfl (opv_pick_f' b6 rfl rfl) ?_
        refine SO.b1 ?_
        refine SO.b1 ?_
        exact hk2.fitc (m := 3) rfl (and_f b6) rfl
    refine SO.nil ?_
    rcases bool_or ((decide (x4_1 < (a0.length : Int))) && (decide (x4_1 < 738))) with b7 | b7
    · replace h := cond_t b7 h
      refine S.condT rfl b7 ?_
      refine S.skip ?_
      refine S.seq ?_
      refine S.block ?_
      refine S.region ?_
      refine SO.v rfl (opv_move rfl) ?_
      refine SO.v rfl (opv_move rfl) ?_
      refine SO.v rfl (opv_move rfl) ?_
      refine SO.v rfl (opv_move rfl) ?_
      obtain ⟨x8, hx9, h⟩ := opt_bind h
      refine SO.v rfl (opv_idx Try.underlying25 Try.sizeOf22 hF0 rfl rfl hx9) ?_
      refine SO.loadI1 (j := 0) rfl Try.isAgg22 (Rd.tail (Rd.head hF0)) hx9 rfl rfl rfl rfl ?_
      obtain ⟨x10, hx11, h⟩ := opt_bind h
      refine SO.v rfl (opv_idx Try.underlying25 Try.sizeOf22 hr5 rfl rfl hx11) ?_
      refine SO.storeI1 (j := 0) (z' := x8) Try.sizeOf22 hx11 rfl rfl rfl rfl rfl rfl ?_
      refine SO.rd fun hr12 => ?_
      refine SO.nil ?_
      refine S.inBlock ?_
      refine S.region ?_
      refine SO.v rfl (opv_move rfl) ?_
      refine SO.v rfl (opv_add rfl rfl) ?_
      refine SO.v rfl (opv_assign rfl) ?_
      refine SO.nil ?_
      refine S.b1 ?_
      refine S.b1 ?_
      refine S.to ?_ (ih1 ((w64 (x4_1 + 1), qv1_1.set x4_1.toNat x8), ()) h)
      exact ⟨rfl, rfl, rfl, rfl, trivial⟩
    · replace h := cond_f b7 h
      refine S.condF rfl b7 ?_
      refine S.exit rfl ?_
      cases h
      refine S.b1 ?_
      refine S.b1 ?_
      refine S.to ?_ (hK1 ())
      exact ⟨rfl, rfl, trivial⟩
  rintro _
  refine S.rd fun hr13 => ?_
  refine S.seq ?_
  refine S.region ?_
  refine SO.v rfl (opv_move rfl) ?_
  refine SO.v rfl (opv_assign rfl) ?_
  refine SO.nil ?_
  cases h
  refine S.b1 ?_
  refine S.b1 ?_
  exact S.ret1 Try.func7 rfl rfl (fun w hs hk => hR w _ _ ⟨v1, rfl, rfl⟩ hs hk)
end Go.Proofs
namespace Go.Proofs
open Go.Sl Go.RowKit
/-! 15 padstone/lay.Field -/
def lay_Field.f (a1 : Int) (a2 : Int) : VM (Int) :=
  (VM.opt (lay_Obj.f a1 a2)).bind fun (t1, t2) => bif !t2 then (VM.ret 0) else (VM.rd t1 fun t5 => bif decide (4611686018427387904 < t5) then (VM.ret 0) else (VM.ret (w64 t5)))
set_option maxHeartbeats 8000000 in
set_option maxRecDepth 100000 in
theorem lay_Field.ct (V : VW Try.prog) (a1 : Int) (a2 : Int) (r0 : Int) (s s' : V.S) (h : VM.run V.toVI (lay_Field.f a1 a2) s = some (r0, s')) :
    Ct Try.prog 15 [V.val, .int .i64 a1, .int .i64 a2] (fun _ => True) [V.rep s] (fun u H' => u = .int .i64 r0 ∧ H' = [V.rep s']) := by
  unfold lay_Field.f at h
  refine Ct.intro (n := 25) Try.func15 rfl rfl rfl ?_
  intro R w0 F hF hR
  refine S.seq ?_
  refine S.region ?_
  refine SO.v rfl (opv_assign rfl) ?_
  refine SO.nil ?_
  refine S.seq ?_
  refine S.region ?_
  refine SO.v rfl (opv_move rfl) ?_
  refine SO.v rfl (opv_move rfl) ?_
  obtain ⟨⟨t1, t2⟩, ht3, h⟩ := VM.opt_some V.toVI h
  refine SO.call (pre := []) rfl Try.call12 rfl rfl rfl (lay_Obj.ct _ _ _ _ ht3) trivial ?_
  rintro _ _ ⟨rfl, rfl⟩
  refine SO.v rfl (opv_move rfl) ?_
  refine SO.v rfl (opv_extract rfl rfl) ?_
  refine SO.v rfl (opv_extract rfl rfl) ?_
  refine SO.v rfl (opv_assign rfl) ?_
  refine SO.v rfl (opv_assign rfl) ?_
  refine SO.nil ?_
  refine S.to (ρ' := [(0, V.val), (6, .int .i64 0), (7, .int .i64 t1), (8, .bool t2)]) ⟨rfl, rfl, rfl, rfl, trivial⟩ ?_
  refine S.seq ?_
  refine S.seq ?_
  refine S.region ?_
  refine SO.v rfl (opv_move rfl) ?_
  refine SO.v rfl (opv_not rfl) ?_
  refine SO.nil ?_
  rcases bool_or (!t2) with b4 | b4
  · replace h := VM.cond_t V.toVI b4 h
    refine S.condT rfl b4 ?_
    refine S.seq ?_
    refine S.region ?_
    refine SO.v rfl (opv_assign rfl) ?_
    refine SO.nil ?_
    obtain ⟨hq, rfl⟩ := VM.ret_some V.toVI h
    cases hq
    refine S.b1 ?_
    refine S.b1 ?_
    exact S.ret1 Try.func15 rfl rfl (fun w hs hk => hR w _ _ ⟨rfl, rfl⟩ hs hk)
  · replace h := VM.cond_f V.toVI b4 h
    refine S.condF rfl b4 ?_
    refine S.skip ?_
    refine S.seq ?_
    refine S.region ?_
    refine SO.v rfl (opv_move rfl) ?_
    refine SO.v rfl (opv_move rfl) ?_
    obtain ⟨t5, s6, hv7, h⟩ := VM.rd_some V.toVI h
    refine SO.vread' V rfl rfl rfl hv7 ?_
    refine SO.v rfl (opv_assign rfl) ?_
    refine SO.nil ?_
    refine S.to (ρ' := [(6, .int .i64 0), (9, .int .u64 t5)]) ⟨rfl, rfl, trivial⟩ ?_
    refine S.seq ?_
    refine S.seq ?_
    refine S.region ?_
    refine SO.v rfl (opv_move rfl) ?_
    refine SO.v rfl (opv_gtr rfl rfl) ?_
    refine SO.nil ?_
    rcases bool_or (decide (4611686018427387904 < t5)) with b8 | b8
    · replace h := VM.cond_t V.toVI b8 h
      refine S.condT rfl b8 ?_
      refine S.seq ?_
      refine S.region ?_
      refine SO.v rfl (opv_assign rfl) ?_
      refine SO.nil ?_
      obtain ⟨hq, rfl⟩ := VM.ret_some V.toVI h
      cases hq
      refine S.b1 ?_
      refine S.b1 ?_
      exact S.ret1 Try.func15 rfl rfl (fun w hs hk => hR w _ _ ⟨rfl, rfl⟩ hs hk)
    · replace h := VM.cond_f V.toVI b8 h
      refine S.condF rfl b8 ?_
      refine S.skip ?_
      refine S.seq ?_
      refine S.region ?_
      refine SO.v rfl (opv_move rfl) ?_
      refine SO.v rfl (opv_conv Try.underlying22 Try.underlying3 rfl) ?_
      refine SO.v rfl (opv_assign rfl) ?_
      refine SO.nil ?_
      obtain ⟨hq, rfl⟩ := VM.ret_some V.toVI h
      cases hq
      refine S.b1 ?_
      refine S.b1 ?_
      exact S.ret1 Try.func15 rfl rfl (fun w hs hk => hR w _ _ ⟨rfl, rfl⟩ hs hk)
end Go.Proofs
namespace Go.Proofs
open Go.Sl Go.RowKit
/-! 17 padstone/lay.Is -/
def lay_Is.f (a1 : Int) (a2 : Int) : VM (Bool) :=
  (VM.opt (lay_Obj.f a1 0)).bind fun (t1, t2) => (bif t2 && (decide (0 ≤ a2)) then (VM.rd t1 fun t8 => VM.ret (t8 == (wu64 a2))) else (VM.ret false)).bind fun c6 => VM.ret c6
set_option maxHeartbeats 8000000 in
set_option maxRecDepth 100000 in
theorem lay_Is.ct (V : VW Try.prog) (a1 : Int) (a2 : Int) (r0 : Bool) (s s' : V.S) (h : VM.run V.toVI (lay_Is.f a1 a2) s = some (r0, s')) :
    Ct Try.prog 17 [V.val, .int .i64 a1, .int .i64 a2] (fun _ => True) [V.rep s] (fun u H' => u = .bool r0 ∧ H' = [V.rep s']) := by
  unfold lay_Is.f at h
  refine Ct.intro (n := 27) Try.func17 rfl rfl rfl ?_
  intro R w0 F hF hR
  refine S.seq ?_
  refine S.region ?_
  refine SO.v rfl (opv_assign rfl) ?_
  refine SO.nil ?_
  refine S.seq ?_
  refine S.region ?_
  refine SO.v rfl (opv_move rfl) ?_
  obtain ⟨⟨t1, t2⟩, ht3, h⟩ := VM.opt_some V.toVI h
  refine SO.call (pre := []) rfl Try.call12 rfl rfl rfl (lay_Obj.ct _ _ _ _ ht3) trivial ?_
  rintro _ _ ⟨rfl, rfl⟩
  refine SO.v rfl (opv_move rfl) ?_
  refine SO.v rfl (opv_extract rfl rfl) ?_
  refine SO.v rfl (opv_extract rfl rfl) ?_
  refine SO.v rfl (opv_assign rfl) ?_
  refine SO.v rfl (opv_assign rfl) ?_
  refine SO.nil ?_
  refine S.seq ?_
  refine S.region ?_
  refine SO.v rfl (opv_move rfl) ?_
  refine SO.v rfl (opv_move rfl) ?_
  refine SO.cut 3 18 (.bool (t2 && (decide (0 ≤ a2)))) [V.rep s, F] (fun l2 hk2 => ?_) ?_
  · rcases bool_or t2 with b4 | b4
    · refine SO.takeT rfl rfl rfl b4 ?_
      refine SO.v rfl (opv_move rfl) ?_
      refine SO.takeT rfl rfl rfl b4 ?_
      refine SO.v rfl (opv_geq rfl rfl) ?_
      refine SO.v rfl (opv_pick_t' b4 rfl rfl) ?_
      refine SO.b1 ?_
      refine SO.b1 ?_
      exact hk2.fitc (m := 3) rfl (and_t b4) rfl
    · refine SO.passF rfl rfl rfl b4 rfl rfl ?_
      refine SO.passF rfl rfl rfl b4 rfl rfl ?_
      refine SO.v rfl (opv_pick_f' b4 rfl rfl) ?_
      refine SO.b1 ?_
      refine SO.b1 ?_
      exact hk2.fitc (m := 3) rfl (and_f b4) rfl
  refine SO.v rfl (opv_move rfl) ?_
  obtain ⟨c6, s11, hc7, hgk⟩ := VM.bind_some V.toVI h
  refine SO.cut 7 26 (.bool c6) [V.rep s11, F] (fun l2 hk2 => ?_) ?_
  · clear hgk
    replace h := hc7
    rcases bool_or (t2 && (decide (0 ≤ a2))) with b5 | b5
    · replace h := VM.cond_t V.toVI b5 h
      refine SO.takeT rfl rfl rfl b5 ?_
      refine SO.v rfl (opv_move rfl) ?_
      refine SO.takeT rfl rfl rfl b5 ?_
      refine SO.v rfl (opv_move rfl) ?_
      refine SO.takeT rfl rfl rfl b5 ?_
      obtain ⟨t8, s9, hv10, h⟩ := VM.rd_some V.toVI h
      refine SO.vread' V rfl rfl rfl hv10 ?_
      refine SO.takeT rfl rfl rfl b5 ?_
      refine SO.v rfl (opv_move rfl) ?_
      refine SO.takeT rfl rfl rfl b5 ?_
      refine SO.v rfl (opv_conv Try.underlying3 Try.underlying22 rfl) ?_
      refine SO.takeT rfl rfl rfl b5 ?_
      refine SO.v rfl (opv_eql rfl rfl) ?_
      obtain ⟨hq, rfl⟩ := VM.ret_some V.toVI h
      cases hq
      refine SO.v rfl (opv_pick_t' b5 rfl rfl) ?_
      refine SO.b1 ?_
      refine SO.b1 ?_
      exact hk2.fitc (m := 7) rfl (rfl) rfl
    · replace h := VM.cond_f V.toVI b5 h
      refine SO.passF rfl rfl rfl b5 rfl rfl ?_
      refine SO.passF rfl rfl rfl b5 rfl rfl ?_
      refine SO.passF rfl rfl rfl b5 rfl rfl ?_
      refine SO.passF rfl rfl rfl b5 rfl rfl ?_
      refine SO.passF rfl rfl rfl b5 rfl rfl ?_
      refine SO.passF rfl rfl rfl b5 rfl rfl ?_
      obtain ⟨hq, rfl⟩ := VM.ret_some V.toVI h
      cases hq
      refine SO.v rfl (opv_pick_f' b5 rfl rfl) ?_
      refine SO.b1 ?_
      refine SO.b1 ?_
      exact hk2.fitc (m := 7) rfl (rfl) rfl
  clear hc7
  replace h := hgk
  refine SO.v rfl (opv_assign rfl) ?_
  refine SO.nil ?_
  refine S.to (ρ' := [(6, .bool c6)]) ⟨rfl, trivial⟩ ?_
  obtain ⟨hq, rfl⟩ := VM.ret_some V.toVI h
  cases hq
  refine S.b1 ?_
  refine S.b1 ?_
  exact S.ret1 Try.func17 rfl rfl (fun w hs hk => hR w _ _ ⟨rfl, rfl⟩ hs hk)
end Go.Proofs
namespace Go.Proofs
open Go.Sl Go.RowKit
/-! 14 padstone/lay.Put -/
def lay_Put.f (a1 : Int) (a2 : Int) (a3 : Int) : VM (Unit) :=
  (VM.opt (lay_Obj.f a1 a2)).bind fun (t1, t2) => bif t2 && (decide (0 ≤ a3)) then (VM.wr t1 (wu64 a3) (VM.ret ())) else (VM.ret ())
set_option maxHeartbeats 8000000 in
set_option maxRecDepth 100000 in
theorem lay_Put.ct (V : VW Try.prog) (a1 : Int) (a2 : Int) (a3 : Int) (s s' : V.S) (h : VM.run V.toVI (lay_Put.f a1 a2 a3) s = some ((), s')) :
    Ct Try.prog 14 [V.val, .int .i64 a1, .int .i64 a2, .int .i64 a3] (fun _ => True) [V.rep s] (fun u H' => u = .tuple #[] ∧ H' = [V.rep s']) := by
  unfold lay_Put.f at h
  refine Ct.intro (n := 26) Try.func14 rfl rfl rfl ?_
  intro R w0 F hF hR
  refine S.seq ?_
  refine S.region ?_
  refine SO.v rfl (opv_move rfl) ?_
  refine SO.v rfl (opv_move rfl) ?_
  obtain ⟨⟨t1, t2⟩, ht3, h⟩ := VM.opt_some V.toVI h
  refine SO.call (pre := []) rfl Try.call12 rfl rfl rfl (lay_Obj.ct _ _ _ _ ht3) trivial ?_
  rintro _ _ ⟨rfl, rfl⟩
  refine SO.v rfl (opv_move rfl) ?_
  refine SO.v rfl (opv_extract rfl rfl) ?_
  refine SO.v rfl (opv_extract rfl rfl) ?_
  refine SO.v rfl (opv_assign rfl) ?_
  refine SO.v rfl (opv_assign rfl) ?_
  refine SO.nil ?_
  refine S.to (ρ' := [(0, V.val), (3, .int .i64 a3), (8, .int .i64 t1), (9, .bool t2)]) ⟨rfl, rfl, rfl, rfl, trivial⟩ ?_
  refine S.seq ?_
  refine S.region ?_
  refine SO.v rfl (opv_move rfl) ?_
  refine SO.v rfl (opv_move rfl) ?_
  refine SO.cut 3 20 (.bool (t2 && (decide (0 ≤ a3)))) [V.rep s, F] (fun l2 hk2 => ?_) ?_
  · rcases bool_or t2 with b4 | b4
    · refine SO.takeT rfl rfl rfl b4 ?_
      refine SO.v rfl (opv_move rfl) ?_
      refine SO.takeT rfl rfl rfl b4 ?_
      refine SO.v rfl (opv_geq rfl rfl) ?_
      refine SO.v rfl (opv_pick_t' b4 rfl rfl) ?_
      refine SO.b1 ?_
      refine SO.b1 ?_
      exact hk2.fitc (m := 3) rfl (and_t b4) rfl
    · refine SO.passF rfl rfl rfl b4 rfl rfl ?_
      refine SO.passF rfl rfl rfl b4 rfl rfl ?_
      refine SO.v rfl (opv_pick_f' b4 rfl rfl) ?_
      refine SO.b1 ?_
      refine SO.b1 ?_
      exact hk2.fitc (m := 3) rfl (and_f b4) rfl
  refine SO.nil ?_
  rcases bool_or (t2 && (decide (0 ≤ a3))) with b5 | b5
  · replace h := VM.cond_t V.toVI b5 h
    refine S.condT rfl b5 ?_
    refine S.region ?_
    refine SO.v rfl (opv_move rfl) ?_
    refine SO.v rfl (opv_move rfl) ?_
    refine SO.v rfl (opv_move rfl) ?_
    refine SO.v rfl (opv_conv Try.underlying3 Try.underlying22 rfl) ?_
    obtain ⟨s6, hv7, h⟩ := VM.wr_some V.toVI h
    refine SO.vwrite' V rfl rfl rfl rfl hv7 ?_
    refine SO.nil ?_
    refine S.to (ρ' := []) trivial ?_
    obtain ⟨hq, rfl⟩ := VM.ret_some V.toVI h
    cases hq
    refine S.b1 ?_
    refine S.b1 ?_
    exact S.fin0 Try.func14 rfl (fun w hs hk => hR w _ _ ⟨rfl, rfl⟩ hs hk)
  · replace h := VM.cond_f V.toVI b5 h
    refine S.condF rfl b5 ?_
    refine S.skip ?_
    obtain ⟨hq, rfl⟩ := VM.ret_some V.toVI h
    cases hq
    refine S.b1 ?_
    refine S.b1 ?_
    exact S.fin0 Try.func14 rfl (fun w hs hk => hR w _ _ ⟨rfl, rfl⟩ hs hk)
end Go.Proofs
namespace Go.Proofs
open Go.Sl Go.RowKit
/-! 16 padstone/lay.Ref -/
def lay_Ref.f (a1 : Int) (a2 : Int) : VM ((Int × Bool)) :=
  (lay_Field.f a1 a2).bind fun t1 => bif (decide (t1 < 1)) || (decide (32 < t1)) then (VM.ret (0, false)) else (VM.ret (w64 (t1 - 1), true))
set_option maxHeartbeats 8000000 in
set_option maxRecDepth 100000 in
theorem lay_Ref.ct (V : VW Try.prog) (a1 : Int) (a2 : Int) (r0 : Int) (r1 : Bool) (s s' : V.S) (h : VM.run V.toVI (lay_Ref.f a1 a2) s = some ((r0, r1), s')) :
    Ct Try.prog 16 [V.val, .int .i64 a1, .int .i64 a2] (fun _ => True) [V.rep s] (fun u H' => u = .tuple #[.int .i64 r0, .bool r1] ∧ H' = [V.rep s']) := by
  unfold lay_Ref.f at h
  refine Ct.intro (n := 21) Try.func16 rfl rfl rfl ?_
  intro R w0 F hF hR
  refine S.seq ?_
  refine S.region ?_
  refine SO.v rfl (opv_assign rfl) ?_
  refine SO.v rfl (opv_assign rfl) ?_
  refine SO.nil ?_
  refine S.seq ?_
  refine S.region ?_
  refine SO.v rfl (opv_move rfl) ?_
  refine SO.v rfl (opv_move rfl) ?_
  refine SO.v rfl (opv_move rfl) ?_
  obtain ⟨t1, s3, ht2, h⟩ := VM.bind_some V.toVI h
  refine SO.call (pre := [V.rep _]) rfl Try.call15 rfl rfl rfl (lay_Field.ct V _ _ _ _ _ ht2) trivial ?_
  rintro _ _ ⟨rfl, rfl⟩
  refine SO.v rfl (opv_assign rfl) ?_
  refine SO.nil ?_
  refine S.to (ρ' := [(6, .int .i64 0), (7, .bool false), (8, .int .i64 t1)]) ⟨rfl, rfl, rfl, trivial⟩ ?_
  refine S.seq ?_
  refine S.seq ?_
  refine S.region ?_
  refine SO.v rfl (opv_move rfl) ?_
  refine SO.v rfl (opv_lss rfl rfl) ?_
  refine SO.v rfl (opv_move rfl) ?_
  refine SO.cut 3 18 (.bool ((decide (t1 < 1)) || (decide (32 < t1)))) [V.rep s3, F] (fun l2 hk2 => ?_) ?_
  · rcases bool_or (decide (t1 < 1)) with b4 | b4
    · refine SO.passF rfl rfl rfl b4 rfl rfl ?_
      refine SO.passF rfl rfl rfl b4 rfl rfl ?_
      refine SO.v rfl (opv_pick_t' b4 rfl rfl) ?_
      refine SO.b1 ?_
      refine SO.b1 ?_
      exact hk2.fitc (m := 3) rfl (or_t b4) rfl
    · refine SO.takeT rfl rfl rfl b4 ?_
      refine SO.v rfl (opv_move rfl) ?_
      refine SO.takeT rfl rfl rfl b4 ?_
      refine SO.v rfl (opv_gtr rfl rfl) ?_
      refine SO.v rfl (opv_pick_f' b4 rfl rfl) ?_
      refine SO.b1 ?_
      refine SO.b1 ?_
      exact hk2.fitc (m := 3) rfl (or_f b4) rfl
  refine SO.nil ?_
  rcases bool_or ((decide (t1 < 1)) || (decide (32 < t1))) with b5 | b5
  · replace h := VM.cond_t V.toVI b5 h
    refine S.condT rfl b5 ?_
    refine S.seq ?_
    refine S.region ?_
    refine SO.v rfl (opv_assign rfl) ?_
    refine SO.v rfl (opv_assign rfl) ?_
    refine SO.nil ?_
    obtain ⟨hq, rfl⟩ := VM.ret_some V.toVI h
    cases hq
    refine S.b1 ?_
    refine S.b1 ?_
    exact S.ret2 Try.func16 rfl rfl rfl (fun w hs hk => hR w _ _ ⟨rfl, rfl⟩ hs hk)
  · replace h := VM.cond_f V.toVI b5 h
    refine S.condF rfl b5 ?_
    refine S.skip ?_
    refine S.seq ?_
    refine S.region ?_
    refine SO.v rfl (opv_move rfl) ?_
    refine SO.v rfl (opv_sub rfl rfl) ?_
    refine SO.v rfl (opv_assign rfl) ?_
    refine SO.v rfl (opv_assign rfl) ?_
    refine SO.nil ?_
    refine S.to (ρ' := [(6, .int .i64 (w64 (t1 - 1))), (7, .bool true)]) ⟨rfl, rfl, trivial⟩ ?_
    obtain ⟨hq, rfl⟩ := VM.ret_some V.toVI h
    cases hq
    refine S.b1 ?_
    refine S.b1 ?_
    exact S.ret2 Try.func16 rfl rfl rfl (fun w hs hk => hR w _ _ ⟨rfl, rfl⟩ hs hk)
end Go.Proofs
namespace Go.Proofs
open Go.Sl Go.RowKit
/-! 5 padstone/padstonelaw09.LayFields -/
def law09_LayFields.l2 (s22 : List Int) : Nat → Int → Option (Brk Bool Unit)
  | 0, _ => none
  | k + 1, x17_2 => bif decide (x17_2 < 738) then ((at_ s22 x17_2).bind fun x25 => bif x25 != 0 then (some (Brk.ret false)) else (law09_LayFields.l2 s22 k (w64 (x17_2 + 1)))) else (some (Brk.nx ()))
def law09_LayFields.f (k : Nat) (a0 : Int) (a1 : Int) (a2 : Int) (a3 : Int) (a4 : Int) : Option (Bool) :=
  (law09_up.f ).bind fun t1 => (law09_words.f k ([])).bind fun t3 => (bif (((decide (0 ≤ a0)) && (decide (a0 < 32))) && (decide (0 ≤ a1))) && (decide (a1 < 8)) then ((at_ t3 (w64 ((w64 (480 + (w64 (8 * a0)))) + a1))).bind fun x11 => some (t3.set (w64 ((w64 (480 + (w64 (8 * a0)))) + a1)).toNat a2)) else (some t3)).bind fun qv5_1 => bif !((((decide (0 ≤ a0)) && (decide (a0 < 32))) && (decide (0 ≤ a1))) && (decide (a1 < 8))) then ((VM.run plainI (lay_Ref.f a0 a1) qv5_1).bind fun ((t16, t17), s19) => (VM.run plainI (lay_Put.f a0 a1 a3) s19).bind fun (_, s22) => (law09_LayFields.l2 s22 k 0).bind fun o2 => Brk.go o2 (fun r => some r) (fun _ => (bif t1 then ((VM.run plainI (lay_Field.f a0 a1) s22).bind fun (t33, s35) => some (t33 == 0, s35)) else (some (false, s22))).bind fun (c29, w31) => (bif c29 && (!t17) then ((VM.run plainI (lay_Is.f a0 a4) w31).bind fun (t43, s45) => some (t43 == (((decide (0 ≤ a0)) && (decide (a0 < 32))) && (a4 == 0)), s45)) else (some (false, w31))).bind fun (c39, w41) => some c39)) else ((VM.run plainI (lay_Ref.f a0 a1) qv5_1).bind fun ((t49, t50), s52) => (law09_number.f a2).bind fun t54 => (VM.run plainI (lay_Field.f a0 a1) s52).bind fun (t56, s58) => bif (((t56 != t54) || (t50 != ((decide (1 ≤ t54)) && (decide (t54 ≤ 32))))) || (t50 && (t49 != (w64 (t54 - 1))))) || ((!t50) && (t49 != 0)) then (some false) else ((bif a1 == 0 then ((VM.run plainI (lay_Is.f a0 a4) s58).bind fun (t72, s74) => some (t72 != ((decide (0 ≤ a4)) && (a2 == (wu64 a4))), s74)) else (some (false, s58))).bind fun (c68, w70) => bif c68 then (some false) else ((VM.run plainI (lay_Put.f a0 a1 a3) w70).bind fun (_, s79) => bif decide (0 ≤ a3) then ((bif t1 then ((at_ s79 (w64 ((w64 (480 + (w64 (8 * a0)))) + a1))).bind fun x85 => some (x85 == (wu64 a3))) else (some false)).bind fun c83 => some c83) else ((bif t1 then ((at_ s79 (w64 ((w64 (480 + (w64 (8 * a0)))) + a1))).bind fun x90 => some (x90 == a2)) else (some false)).bind fun c88 => some c88))))
set_option maxHeartbeats 8000000 in
set_option maxRecDepth 100000 in
theorem law09_LayFields.ct (k : Nat) (a0 : Int) (a1 : Int) (a2 : Int) (a3 : Int) (a4 : Int) (r0 : Bool) (h : law09_LayFields.f k a0 a1 a2 a3 a4 = some r0) :
    Ct Try.prog 5 [.int .i64 a0, .int .i64 a1, .int .u64 a2, .int .i64 a3, .int .i64 a4] (fun _ => True) [] (fun u H' => u = .bool r0 ∧ H' = []) := by
  unfold law09_LayFields.f at h
  refine Ct.intro (n := 184) Try.func5 rfl rfl rfl ?_
  intro R w0 F hF hR
  refine S.seq ?_
  refine S.region ?_
  refine SO.v rfl (opv_assign rfl) ?_
  refine SO.nil ?_
  refine S.seq ?_
  refine S.region ?_
  obtain ⟨t1, ht2, h⟩ := opt_bind h
  refine SO.call (pre := []) rfl Try.call6 rfl rfl rfl (law09_up.ct _ ht2) trivial ?_
  rintro _ _ ⟨rfl, rfl⟩
  refine SO.v rfl (opv_assign rfl) ?_
  refine SO.nil ?_
  refine S.seq ?_
  refine S.region ?_
  obtain ⟨t3, ht4, h⟩ := opt_bind h
  refine SO.call (pre := []) rfl Try.call7 rfl rfl rfl (law09_words.ct _ _ _ _ ht4) ⟨none, 0, rfl, fun _ _ h => by simp at h⟩ ?_
  rintro v5 _ ⟨_, rfl, rfl⟩
  refine SO.rd fun hr6 => ?_
  refine SO.v rfl (opv_assign rfl) ?_
  refine SO.nil ?_
  refine S.seq ?_
  refine S.region ?_
  refine SO.v rfl (opv_move rfl) ?_
  refine SO.v rfl (opv_mul rfl rfl) ?_
  refine SO.v rfl (opv_add rfl rfl) ?_
  refine SO.v rfl (opv_move rfl) ?_
  refine SO.v rfl (opv_add rfl rfl) ?_
  refine SO.v rfl (opv_assign rfl) ?_
  refine SO.nil ?_
  refine S.to (ρ' := [(0, .int .i64 a0), (1, .int .i64 a1), (2, .int .u64 a2), (3, .int .i64 a3), (4, .int .i64 a4), (10, .bool false), (11, .bool t1), (12, v5), (13, .int .i64 (w64 ((w64 (480 + (w64 (8 * a0)))) + a1)))]) ⟨rfl, rfl, rfl, rfl, rfl, rfl, rfl, rfl, rfl, trivial⟩ ?_
  refine S.seq ?_
  refine S.region ?_
  refine SO.v rfl (opv_move rfl) ?_
  refine SO.v rfl (opv_geq rfl rfl) ?_
  refine SO.v rfl (opv_move rfl) ?_
  refine SO.cut 3 33 (.bool ((decide (0 ≤ a0)) && (decide (a0 < 32)))) [Own 22 (ekI .u64) v5 t3, F] (fun l2 hk2 => ?_) ?_
  · rcases bool_or (decide (0 ≤ a0)) with b7 | b7
    · refine SO.takeT rfl rfl rfl b7 ?_
      refine SO.v rfl (opv_move rfl) ?_
      refine SO.takeT rfl rfl rfl b7 ?_
      refine SO.v rfl (opv_lss rfl rfl) ?_
      refine SO.v rfl (opv_pick_t' b7 rfl rfl) ?_
      refine SO.b1 ?_
      refine SO.b1 ?_
      exact hk2.fitc (m := 3) rfl (and_t b7) rfl
    · refine SO.passF rfl rfl rfl b7 rfl rfl ?_
      refine SO.passF rfl rfl rfl b7 rfl rfl ?_
      refine SO.v rfl (opv_pick_f' b7 rfl rfl) ?_
      refine SO.b1 ?_
      refine SO.b1 ?_
      exact hk2.fitc (m := 3) rfl (and_f b7) rfl
  refine SO.v rfl (opv_move rfl) ?_
  refine SO.cut 3 37 (.bool (((decide (0 ≤ a0)) && (decide (a0 < 32))) && (decide (0 ≤ a1)))) [Own 22 (ekI .u64) v5 t3, F] (fun l2 hk2 => ?_) ?_
  · rcases bool_or ((decide (0 ≤ a0)) && (decide (a0 < 32))) with b8 | b8
    · refine SO.takeT rfl rfl rfl b8 ?_
      refine SO.v rfl (opv_move rfl) ?_
      refine SO.takeT rfl rfl rfl b8 ?_
      refine SO.v rfl (opv_geq rfl rfl) ?_
      refine SO.v rfl (opv_pick_t' b8 rfl rfl) ?_
      refine SO.b1 ?_
      refine SO.b1 ?_
      exact hk2.fitc (m := 3) rfl (and_t b8) rfl
    · refine SO.passF rfl rfl rfl b8 rfl rfl ?_
      refine SO.passF rfl rfl rfl b8 rfl rfl ?_
      refine SO.v rfl (opv_pick_f' b8 rfl rfl) ?_
      refine SO.b1 ?_
      refine SO.b1 ?_
      exact hk2.fitc (m := 3) rfl (and_f b8) rfl
  refine SO.v rfl (opv_move rfl) ?_
  refine SO.cut 3 41 (.bool ((((decide (0 ≤ a0)) && (decide (a0 < 32))) && (decide (0 ≤ a1))) && (decide (a1 < 8)))) [Own 22 (ekI .u64) v5 t3, F] (fun l2 hk2 => ?_) ?_
  · rcases bool_or (((decide (0 ≤ a0)) && (decide (a0 < 32))) && (decide (0 ≤ a1))) with b9 | b9
    · refine SO.takeT rfl rfl rfl b9 ?_
      refine SO.v rfl (opv_move rfl) ?_
      refine SO.takeT rfl rfl rfl b9 ?_
      refine SO.v rfl (opv_lss rfl rfl) ?_
      refine SO.v rfl (opv_pick_t' b9 rfl rfl) ?_
      refine SO.b1 ?_
      refine SO.b1 ?_
      exact hk2.fitc (m := 3) rfl (and_t b9) rfl
    · refine SO.passF rfl rfl rfl b9 rfl rfl ?_
      refine SO.passF rfl rfl rfl b9 rfl rfl ?_
      refine SO.v rfl (opv_pick_f' b9 rfl rfl) ?_
      refine SO.b1 ?_
      refine SO.b1 ?_
      exact hk2.fitc (m := 3) rfl (and_f b9) rfl
  refine SO.v rfl (opv_assign rfl) ?_
  refine SO.nil ?_
  refine S.to (ρ' := [(0, .int .i64 a0), (1, .int .i64 a1), (2, .int .u64 a2), (3, .int .i64 a3), (4, .int .i64 a4), (10, .bool false), (11, .bool t1), (12, v5), (13, .int .i64 (w64 ((w64 (480 + (w64 (8 * a0)))) + a1))), (14, .bool ((((decide (0 ≤ a0)) && (decide (a0 < 32))) && (decide (0 ≤ a1))) && (decide (a1 < 8))))]) ⟨rfl, rfl, rfl, rfl, rfl, rfl, rfl, rfl, rfl, rfl, trivial⟩ ?_
  refine S.seq ?_
  refine S.seq ?_
  refine S.region ?_
  refine SO.v rfl (opv_move rfl) ?_
  refine SO.nil ?_
  obtain ⟨qv5_1, hC1, hJ1⟩ := opt_bind h
  clear h
  refine S.cutP (G := Unit) (fun _ => True) (fun _ => [(0, .int .i64 a0), (1, .int .i64 a1), (2, .int .u64 a2), (3, .int .i64 a3), (4, .int .i64 a4), (10, .bool false), (11, .bool t1), (12, v5), (13, .int .i64 (w64 ((w64 (480 + (w64 (8 * a0)))) + a1))), (14, .bool ((((decide (0 ≤ a0)) && (decide (a0 < 32))) && (decide (0 ≤ a1))) && (decide (a1 < 8))))]) (fun _ => [Own 22 (ekI .u64) v5 qv5_1, F]) (fun hk1 => ?_) ?_
  · replace h := hC1
    rcases bool_or ((((decide (0 ≤ a0)) && (decide (a0 < 32))) && (decide (0 ≤ a1))) && (decide (a1 < 8))) with b10 | b10
    · replace h := cond_t b10 h
      refine S.condT rfl b10 ?_
      refine S.region ?_
      refine SO.v rfl (opv_move rfl) ?_
      refine SO.v rfl (opv_move rfl) ?_
      refine SO.v rfl (opv_move rfl) ?_
      obtain ⟨x11, hx12, h⟩ := opt_bind h
      refine SO.v rfl (opv_idx Try.underlying26 Try.sizeOf22 hr6 rfl rfl hx12) ?_
      refine SO.storeI1 (j := 0) (z' := a2) Try.sizeOf22 hx12 rfl rfl rfl rfl rfl rfl ?_
      refine SO.rd fun hr13 => ?_
      refine SO.nil ?_
      cases h
      refine S.b1 ?_
      refine S.b1 ?_
      refine S.to ?_ (hk1 () trivial)
      exact ⟨rfl, rfl, rfl, rfl, rfl, rfl, rfl, rfl, rfl, rfl, trivial⟩
    · replace h := cond_f b10 h
      refine S.condF rfl b10 ?_
      refine S.skip ?_
      cases h
      refine S.b1 ?_
      refine S.b1 ?_
      refine S.to ?_ (hk1 () trivial)
      exact ⟨rfl, rfl, rfl, rfl, rfl, rfl, rfl, rfl, rfl, rfl, trivial⟩
  rintro _ -
  replace h := hJ1
  refine S.rd fun hr14 => ?_
  refine S.seq ?_
  refine S.seq ?_
  refine S.region ?_
  refine SO.v rfl (opv_move rfl) ?_
  refine SO.v rfl (opv_not rfl) ?_
  refine SO.nil ?_
  rcases bool_or (!((((decide (0 ≤ a0)) && (decide (a0 < 32))) && (decide (0 ≤ a1))) && (decide (a1 < 8)))) with b15 | b15
  · replace h := cond_t b15 h
    refine S.condT rfl b15 ?_
    refine S.seq ?_
    refine S.region ?_
    refine SO.v rfl (opv_move rfl) ?_
    refine SO.v rfl (opv_iface Try.underlying26 rfl rfl) ?_
    refine SO.v rfl (opv_move rfl) ?_
    refine SO.v rfl (opv_move rfl) ?_
    obtain ⟨⟨⟨t16, t17⟩, s19⟩, ht18, h⟩ := opt_bind h
    refine SO.call (pre := [(plainV v5).rep _]) rfl Try.call16 rfl rfl rfl (lay_Ref.ct (plainV v5) _ _ _ _ _ _ ht18) trivial ?_
    rintro _ _ ⟨rfl, rfl⟩
    refine headEq (plainV_rep _ _) ?_
    refine SO.rd fun hr20 => ?_
    refine SO.v rfl (opv_move rfl) ?_
    refine SO.v rfl (opv_extract rfl rfl) ?_
    refine SO.v rfl (opv_extract rfl rfl) ?_
    refine SO.v rfl (opv_assign rfl) ?_
    refine SO.v rfl (opv_assign rfl) ?_
    refine SO.nil ?_
    refine S.to (ρ' := [(0, .int .i64 a0), (1, .int .i64 a1), (2, .int .u64 a2), (3, .int .i64 a3), (4, .int .i64 a4), (10, .bool false), (11, .bool t1), (12, v5), (13, .int .i64 (w64 ((w64 (480 + (w64 (8 * a0)))) + a1))), (16, .bool t17)]) ⟨rfl, rfl, rfl, rfl, rfl, rfl, rfl, rfl, rfl, rfl, trivial⟩ ?_
    refine S.seq ?_
    refine S.region ?_
    refine SO.v rfl (opv_move rfl) ?_
    refine SO.v rfl (opv_iface Try.underlying26 rfl rfl) ?_
    refine SO.v rfl (opv_move rfl) ?_
    refine SO.v rfl (opv_move rfl) ?_
    refine SO.v rfl (opv_move rfl) ?_
    obtain ⟨⟨_, s22⟩, ht21, h⟩ := opt_bind h
    refine SO.call (pre := [(plainV v5).rep _]) rfl Try.call14 rfl rfl rfl (lay_Put.ct (plainV v5) _ _ _ _ _ ht21) trivial ?_
    rintro _ _ ⟨rfl, rfl⟩
    refine headEq (plainV_rep _ _) ?_
    refine SO.rd fun hr23 => ?_
    refine SO.nil ?_
    refine S.seq ?_
    refine S.seq ?_
    refine S.region ?_
    refine SO.v rfl (opv_assign rfl) ?_
    refine SO.nil ?_
    obtain ⟨o2, hl2, h⟩ := opt_bind h
    refine S.b1 ?_
    refine S.b1 ?_
    refine S.to (ρ' := [(17, .int .i64 0), (0, .int .i64 a0), (1, .int .i64 a1), (2, .int .u64 a2), (3, .int .i64 a3), (4, .int .i64 a4), (10, .bool false), (11, .bool t1), (12, v5), (13, .int .i64 (w64 ((w64 (480 + (w64 (8 * a0)))) + a1))), (16, .bool t17)]) ⟨rfl, rfl, rfl, rfl, rfl, rfl, rfl, rfl, rfl, rfl, rfl, trivial⟩ ?_
    refine S.forloop (X := Int × Unit) (O := Brk Bool Unit) (fun m x => law09_LayFields.l2 s22 m x.1) (fun x => match x with | (x17_2, _) => [(17, .int .i64 x17_2), (0, .int .i64 a0), (1, .int .i64 a1), (2, .int .u64 a2), (3, .int .i64 a3), (4, .int .i64 a4), (10, .bool false), (11, .bool t1), (12, v5), (13, .int .i64 (w64 ((w64 (480 + (w64 (8 * a0)))) + a1))), (16, .bool t17)]) (fun x => match x with | (x17_2, _) => [Own 22 (ekI .u64) v5 s22, F]) (fun Sk o' => (∀ r', o' = Brk.ret r' → some r' = some r0) ∧ ∀ _ : Unit, ∀ _ : Unit, o' = Brk.nx () → Sk [(0, .int .i64 a0), (1, .int .i64 a1), (2, .int .u64 a2), (3, .int .i64 a3), (4, .int .i64 a4), (10, .bool false), (11, .bool t1), (12, v5), (13, .int .i64 (w64 ((w64 (480 + (w64 (8 * a0)))) + a1))), (16, .bool t17)] [Own 22 (ekI .u64) v5 s22, F]) (fun _ => rfl) ?_ (m := k) (x := (0, ())) hl2 ?_
    · clear h hl2
      intro k x o_2 h hK2 ih2
      obtain ⟨x17_2, _⟩ := x
      replace h : law09_LayFields.l2 s22 (k + 1) x17_2 = some o_2 := h
      first | rw [law09_LayFields.l2] at h | unfold law09_LayFields.l2 at h
      refine S.seq ?_
      refine S.seq ?_
      refine S.region ?_
      refine SO.v rfl (opv_move rfl) ?_
      refine SO.v rfl (opv_lss rfl rfl) ?_
      refine SO.nil ?_
      rcases bool_or (decide (x17_2 < 738)) with b24 | b24
      · replace h := cond_t b24 h
        refine S.condT rfl b24 ?_
        refine S.skip ?_
        refine S.seq ?_
        refine S.block ?_
        refine S.seq ?_
        refine S.region ?_
        refine SO.v rfl (opv_move rfl) ?_
        refine SO.v rfl (opv_move rfl) ?_
        obtain ⟨x25, hx26, h⟩ := opt_bind h
        refine SO.v rfl (opv_idx Try.underlying26 Try.sizeOf22 hr23 rfl rfl hx26) ?_
        refine SO.loadI1 (j := 0) rfl Try.isAgg22 (Rd.head hr23) hx26 rfl rfl rfl rfl ?_
        refine SO.v rfl (opv_neq rfl rfl) ?_
        refine SO.nil ?_
        rcases bool_or (x25 != 0) with b27 | b27
        · replace h := cond_t b27 h
          refine S.condT rfl b27 ?_
          refine S.seq ?_
          refine S.region ?_
          refine SO.v rfl (opv_assign rfl) ?_
          refine SO.nil ?_
          cases h
          replace h := hK2.1 _ rfl
          cases h
          refine S.drop ?_
          exact S.ret1 Try.func5 rfl rfl (fun w hs hk => hR w _ _ ⟨rfl, rfl⟩ hs hk)
        · replace h := cond_f b27 h
          refine S.condF rfl b27 ?_
          refine S.skip ?_
          refine S.inBlock ?_
          refine S.region ?_
          refine SO.v rfl (opv_move rfl) ?_
          refine SO.v rfl (opv_add rfl rfl) ?_
          refine SO.v rfl (opv_assign rfl) ?_
          refine SO.nil ?_
          refine S.b1 ?_
          refine S.b1 ?_
          refine S.to ?_ (ih2 (w64 (x17_2 + 1), ()) h)
          exact ⟨rfl, rfl, rfl, rfl, rfl, rfl, rfl, rfl, rfl, rfl, rfl, trivial⟩
      · replace h := cond_f b24 h
        refine S.condF rfl b24 ?_
        refine S.exit rfl ?_
        cases h
        refine S.b1 ?_
        refine S.b1 ?_
        refine S.to ?_ (hK2.2 () () rfl)
        exact ⟨rfl, rfl, rfl, rfl, rfl, rfl, rfl, rfl, rfl, rfl, trivial⟩
    refine ⟨fun r' e' => ?_, ?_⟩
    · subst e'
      have h9 := Brk.of_ret h
      exact h9
    rintro _ _ e'
    subst e'
    replace h := Brk.of_nx h
    refine S.seq ?_
    refine S.region ?_
    refine SO.v rfl (opv_move rfl) ?_
    refine SO.v rfl (opv_move rfl) ?_
    obtain ⟨⟨c29, w31⟩, hc30, hgk⟩ := opt_bind h
    refine SO.cut 7 80 (.bool c29) [Own 22 (ekI .u64) v5 w31, F] (fun l2 hk2 => ?_) ?_
    · clear hgk
      replace h := hc30
      rcases bool_or t1 with b28 | b28
      · replace h := cond_t b28 h
        refine SO.takeT rfl rfl rfl b28 ?_
        refine SO.v rfl (opv_move rfl) ?_
        refine SO.takeT rfl rfl rfl b28 ?_
        refine SO.v rfl (opv_iface Try.underlying26 rfl rfl) ?_
        refine SO.takeT rfl rfl rfl b28 ?_
        refine SO.v rfl (opv_move rfl) ?_
        refine SO.takeT rfl rfl rfl b28 ?_
        refine SO.v rfl (opv_move rfl) ?_
        refine SO.takeT rfl rfl rfl b28 ?_
        obtain ⟨⟨t33, s35⟩, ht34, h⟩ := opt_bind h
        refine SO.call (pre := [(plainV v5).rep _]) rfl Try.call15 rfl rfl rfl (lay_Field.ct (plainV v5) _ _ _ _ _ ht34) trivial ?_
        rintro _ _ ⟨rfl, rfl⟩
        refine headEq (plainV_rep _ _) ?_
        refine SO.rd fun hr36 => ?_
        refine SO.takeT rfl rfl rfl b28 ?_
        refine SO.v rfl (opv_eql rfl rfl) ?_
        cases h
        refine SO.v rfl (opv_pick_t' b28 rfl rfl) ?_
        refine SO.b1 ?_
        refine SO.b1 ?_
        exact hk2.fitc (m := 7) rfl (rfl) rfl
      · replace h := cond_f b28 h
        refine SO.passF rfl rfl rfl b28 rfl rfl ?_
        refine SO.passF rfl rfl rfl b28 rfl rfl ?_
        refine SO.passF rfl rfl rfl b28 rfl rfl ?_
        refine SO.passF rfl rfl rfl b28 rfl rfl ?_
        refine SO.passF rfl rfl rfl b28 rfl rfl ?_
        refine SO.passF rfl rfl rfl b28 rfl rfl ?_
        cases h
        refine SO.v rfl (opv_pick_f' b28 rfl rfl) ?_
        refine SO.b1 ?_
        refine SO.b1 ?_
        exact hk2.fitc (m := 7) rfl (rfl) rfl
    clear hc30
    replace h := hgk
    refine SO.rd fun hr32 => ?_
    refine SO.v rfl (opv_move rfl) ?_
    refine SO.cut 3 84 (.bool (c29 && (!t17))) [Own 22 (ekI .u64) v5 w31, F] (fun l2 hk2 => ?_) ?_
    · rcases bool_or c29 with b37 | b37
      · refine SO.takeT rfl rfl rfl b37 ?_
        refine SO.v rfl (opv_move rfl) ?_
        refine SO.takeT rfl rfl rfl b37 ?_
        refine SO.v rfl (opv_not rfl) ?_
        refine SO.v rfl (opv_pick_t' b37 rfl rfl) ?_
        refine SO.b1 ?_
        refine SO.b1 ?_
        exact hk2.fitc (m := 3) rfl (and_t b37) rfl
      · refine SO.passF rfl rfl rfl b37 rfl rfl ?_
        refine SO.passF rfl rfl rfl b37 rfl rfl ?_
        refine SO.v rfl (opv_pick_f' b37 rfl rfl) ?_
        refine SO.b1 ?_
        refine SO.b1 ?_
        exact hk2.fitc (m := 3) rfl (and_f b37) rfl
    refine SO.v rfl (opv_move rfl) ?_
    obtain ⟨⟨c39, w41⟩, hc40, hgk⟩ := opt_bind h
    refine SO.cut 17 102 (.bool c39) [Own 22 (ekI .u64) v5 w41, F] (fun l2 hk2 => ?_) ?_
    · clear hgk
      replace h := hc40
      rcases bool_or (c29 && (!t17)) with b38 | b38
      · replace h := cond_t b38 h
        refine SO.takeT rfl rfl rfl b38 ?_
        refine SO.v rfl (opv_move rfl) ?_
        refine SO.takeT rfl rfl rfl b38 ?_
        refine SO.v rfl (opv_iface Try.underlying26 rfl rfl) ?_
        refine SO.takeT rfl rfl rfl b38 ?_
        refine SO.v rfl (opv_move rfl) ?_
        refine SO.takeT rfl rfl rfl b38 ?_
        refine SO.v rfl (opv_move rfl) ?_
        refine SO.takeT rfl rfl rfl b38 ?_
        obtain ⟨⟨t43, s45⟩, ht44, h⟩ := opt_bind h
        refine SO.call (pre := [(plainV v5).rep _]) rfl Try.call17 rfl rfl rfl (lay_Is.ct (plainV v5) _ _ _ _ _ ht44) trivial ?_
        rintro _ _ ⟨rfl, rfl⟩
        refine headEq (plainV_rep _ _) ?_
        refine SO.rd fun hr46 => ?_
        refine SO.takeT rfl rfl rfl b38 ?_
        refine SO.v rfl (opv_move rfl) ?_
        refine SO.takeT rfl rfl rfl b38 ?_
        refine SO.v rfl (opv_geq rfl rfl) ?_
        refine SO.takeT rfl rfl rfl b38 ?_
        refine SO.v rfl (opv_move rfl) ?_
        refine SO.cut 3 96 (.bool ((decide (0 ≤ a0)) && (decide (a0 < 32)))) [Own 22 (ekI .u64) v5 s45, F] (fun l2 hk2 => ?_) ?_
        · rcases bool_or (decide (0 ≤ a0)) with b47 | b47
          · refine SO.takeT rfl rfl rfl b47 ?_
            refine SO.v rfl (opv_move rfl) ?_
            refine SO.takeT rfl rfl rfl b47 ?_
            refine SO.v rfl (opv_lss rfl rfl) ?_
            refine SO.takeT rfl rfl rfl b38 ?_
            refine SO.v rfl (opv_pick_t' b47 rfl rfl) ?_
            refine SO.b1 ?_
            refine SO.b1 ?_
            exact hk2.fitc (m := 3) rfl (and_t b47) rfl
          · refine SO.passF rfl rfl rfl b47 rfl rfl ?_
            refine SO.passF rfl rfl rfl b47 rfl rfl ?_
            refine SO.takeT rfl rfl rfl b38 ?_
            refine SO.v rfl (opv_pick_f' b47 rfl rfl) ?_
            refine SO.b1 ?_
            refine SO.b1 ?_
            exact hk2.fitc (m := 3) rfl (and_f b47) rfl
        refine SO.takeT rfl rfl rfl b38 ?_
        refine SO.v rfl (opv_move rfl) ?_
        refine SO.cut 3 100 (.bool (((decide (0 ≤ a0)) && (decide (a0 < 32))) && (a4 == 0))) [Own 22 (ekI .u64) v5 s45, F] (fun l2 hk2 => ?_) ?_
        · rcases bool_or ((decide (0 ≤ a0)) && (decide (a0 < 32))) with b48 | b48
          · refine SO.takeT rfl rfl rfl b48 ?_
            refine SO.v rfl (opv_move rfl) ?_
            refine SO.takeT rfl rfl rfl b48 ?_
            refine SO.v rfl (opv_eql rfl rfl) ?_
            refine SO.takeT rfl rfl rfl b38 ?_
            refine SO.v rfl (opv_pick_t' b48 rfl rfl) ?_
            refine SO.b1 ?_
            refine SO.b1 ?_
            exact hk2.fitc (m := 3) rfl (and_t b48) rfl
          · refine SO.passF rfl rfl rfl b48 rfl rfl ?_
            refine SO.passF rfl rfl rfl b48 rfl rfl ?_
            refine SO.takeT rfl rfl rfl b38 ?_
            refine SO.v rfl (opv_pick_f' b48 rfl rfl) ?_
            refine SO.b1 ?_
            refine SO.b1 ?_
            exact hk2.fitc (m := 3) rfl (and_f b48) rfl
        refine SO.takeT rfl rfl rfl b38 ?_
        refine SO.v rfl (opv_eqlB Try.underlying4 rfl rfl) ?_
        cases h
        refine SO.v rfl (opv_pick_t' b38 rfl rfl) ?_
        refine SO.b1 ?_
        refine SO.b1 ?_
        exact hk2.fitc (m := 13) rfl (rfl) rfl
      · replace h := cond_f b38 h
        refine SO.passF rfl rfl rfl b38 rfl rfl ?_
        refine SO.passF rfl rfl rfl b38 rfl rfl ?_
        refine SO.passF rfl rfl rfl b38 rfl rfl ?_
        refine SO.passF rfl rfl rfl b38 rfl rfl ?_
        refine SO.passF rfl rfl rfl b38 rfl rfl ?_
        refine SO.passF rfl rfl rfl b38 rfl rfl ?_
        refine SO.passF rfl rfl rfl b38 rfl rfl ?_
        refine SO.passF rfl rfl rfl b38 rfl rfl ?_
        refine SO.pass_undef rfl rfl rfl rfl ?_
        refine SO.pass_undef rfl rfl rfl rfl ?_
        refine SO.passF rfl rfl rfl b38 rfl rfl ?_
        refine SO.passF rfl rfl rfl b38 rfl rfl ?_
        refine SO.pass_undef rfl rfl rfl rfl ?_
        refine SO.pass_undef rfl rfl rfl rfl ?_
        refine SO.passF rfl rfl rfl b38 rfl rfl ?_
        refine SO.passF rfl rfl rfl b38 rfl rfl ?_
        cases h
        refine SO.v rfl (opv_pick_f' b38 rfl rfl) ?_
        refine SO.b1 ?_
        refine SO.b1 ?_
        exact hk2.fitc (m := 17) rfl (rfl) rfl
    clear hc40
    replace h := hgk
    refine SO.rd fun hr42 => ?_
    refine SO.v rfl (opv_assign rfl) ?_
    refine SO.nil ?_
    refine S.to (ρ' := [(0, .int .i64 a0), (1, .int .i64 a1), (2, .int .u64 a2), (3, .int .i64 a3), (4, .int .i64 a4), (10, .bool c39), (11, .bool t1), (12, v5), (13, .int .i64 (w64 ((w64 (480 + (w64 (8 * a0)))) + a1)))]) ⟨rfl, rfl, rfl, rfl, rfl, rfl, rfl, rfl, rfl, trivial⟩ ?_
    cases h
    refine S.drop ?_
    exact S.ret1 Try.func5 rfl rfl (fun w hs hk => hR w _ _ ⟨rfl, rfl⟩ hs hk)
  · replace h := cond_f b15 h
    refine S.condF rfl b15 ?_
    refine S.skip ?_
    refine S.seq ?_
    refine S.region ?_
    refine SO.v rfl (opv_move rfl) ?_
    refine SO.v rfl (opv_iface Try.underlying26 rfl rfl) ?_
    refine SO.v rfl (opv_move rfl) ?_
    refine SO.v rfl (opv_move rfl) ?_
    obtain ⟨⟨⟨t49, t50⟩, s52⟩, ht51, h⟩ := opt_bind h
    refine SO.call (pre := [(plainV v5).rep _]) rfl Try.call16 rfl rfl rfl (lay_Ref.ct (plainV v5) _ _ _ _ _ _ ht51) trivial ?_
    rintro _ _ ⟨rfl, rfl⟩
    refine headEq (plainV_rep _ _) ?_
    refine SO.rd fun hr53 => ?_
    refine SO.v rfl (opv_move rfl) ?_
    refine SO.v rfl (opv_extract rfl rfl) ?_
    refine SO.v rfl (opv_extract rfl rfl) ?_
    refine SO.v rfl (opv_assign rfl) ?_
    refine SO.v rfl (opv_assign rfl) ?_
    refine SO.nil ?_
    refine S.to (ρ' := [(0, .int .i64 a0), (1, .int .i64 a1), (2, .int .u64 a2), (3, .int .i64 a3), (4, .int .i64 a4), (10, .bool false), (11, .bool t1), (12, v5), (13, .int .i64 (w64 ((w64 (480 + (w64 (8 * a0)))) + a1))), (18, .int .i64 t49), (19, .bool t50)]) ⟨rfl, rfl, rfl, rfl, rfl, rfl, rfl, rfl, rfl, rfl, rfl, trivial⟩ ?_
    refine S.seq ?_
    refine S.region ?_
    refine SO.v rfl (opv_move rfl) ?_
    obtain ⟨t54, ht55, h⟩ := opt_bind h
    refine SO.call (pre := []) rfl Try.call18 rfl rfl rfl (law09_number.ct _ _ ht55) trivial ?_
    rintro _ _ ⟨rfl, rfl⟩
    refine SO.v rfl (opv_assign rfl) ?_
    refine SO.nil ?_
    refine S.seq ?_
    refine S.seq ?_
    refine S.region ?_
    refine SO.v rfl (opv_move rfl) ?_
    refine SO.v rfl (opv_iface Try.underlying26 rfl rfl) ?_
    refine SO.v rfl (opv_move rfl) ?_
    refine SO.v rfl (opv_move rfl) ?_
    obtain ⟨⟨t56, s58⟩, ht57, h⟩ := opt_bind h
    refine SO.call (pre := [(plainV v5).rep _]) rfl Try.call15 rfl rfl rfl (lay_Field.ct (plainV v5) _ _ _ _ _ ht57) trivial ?_
    rintro _ _ ⟨rfl, rfl⟩
    refine headEq (plainV_rep _ _) ?_
    refine SO.rd fun hr59 => ?_
    refine SO.v rfl (opv_move rfl) ?_
    refine SO.v rfl (opv_neq rfl rfl) ?_
    refine SO.v rfl (opv_move rfl) ?_
    refine SO.cut 9 129 (.bool ((t56 != t54) || (t50 != ((decide (1 ≤ t54)) && (decide (t54 ≤ 32)))))) [Own 22 (ekI .u64) v5 s58, F] (fun l2 hk2 => ?_) ?_
    · rcases bool_or (t56 != t54) with b60 | b60
      · refine SO.passF rfl rfl rfl b60 rfl rfl ?_
        refine SO.passF rfl rfl rfl b60 rfl rfl ?_
        refine SO.passF rfl rfl rfl b60 rfl rfl ?_
        refine SO.passF rfl rfl rfl b60 rfl rfl ?_
        refine SO.pass_undef rfl rfl rfl rfl ?_
        refine SO.pass_undef rfl rfl rfl rfl ?_
        refine SO.passF rfl rfl rfl b60 rfl rfl ?_
        refine SO.passF rfl rfl rfl b60 rfl rfl ?_
        refine SO.v rfl (opv_pick_t' b60 rfl rfl) ?_
        refine SO.b1 ?_
        refine SO.b1 ?_
        exact hk2.fitc (m := 9) rfl (or_t b60) rfl
      · refine SO.takeT rfl rfl rfl b60 ?_
        refine SO.v rfl (opv_move rfl) ?_
        refine SO.takeT rfl rfl rfl b60 ?_
        refine SO.v rfl (opv_move rfl) ?_
        refine SO.takeT rfl rfl rfl b60 ?_
        refine SO.v rfl (opv_geq rfl rfl) ?_
        refine SO.takeT rfl rfl rfl b60 ?_
        refine SO.v rfl (opv_move rfl) ?_
        refine SO.cut 3 127 (.bool ((decide (1 ≤ t54)) && (decide (t54 ≤ 32)))) [Own 22 (ekI .u64) v5 s58, F] (fun l2 hk2 => ?_) ?_
        · rcases bool_or (decide (1 ≤ t54)) with b61 | b61
          · refine SO.takeT rfl rfl rfl b61 ?_
            refine SO.v rfl (opv_move rfl) ?_
            refine SO.takeT rfl rfl rfl b61 ?_
            refine SO.v rfl (opv_leq rfl rfl) ?_
            refine SO.takeT rfl rfl rfl b60 ?_
            refine SO.v rfl (opv_pick_t' b61 rfl rfl) ?_
            refine SO.b1 ?_
            refine SO.b1 ?_
            exact hk2.fitc (m := 3) rfl (and_t b61) rfl
          · refine SO.passF rfl rfl rfl b61 rfl rfl ?_
            refine SO.passF rfl rfl rfl b61 rfl rfl ?_
            refine SO.takeT rfl rfl rfl b60 ?_
            refine SO.v rfl (opv_pick_f' b61 rfl rfl) ?_
            refine SO.b1 ?_
            refine SO.b1 ?_
            exact hk2.fitc (m := 3) rfl (and_f b61) rfl
        refine SO.takeT rfl rfl rfl b60 ?_
        refine SO.v rfl (opv_neqB Try.underlying4 rfl rfl) ?_
        refine SO.v rfl (opv_pick_f' b60 rfl rfl) ?_
        refine SO.b1 ?_
        refine SO.b1 ?_
        exact hk2.fitc (m := 7) rfl (or_f b60) rfl
    refine SO.v rfl (opv_move rfl) ?_
    refine SO.cut 8 138 (.bool (((t56 != t54) || (t50 != ((decide (1 ≤ t54)) && (decide (t54 ≤ 32))))) || (t50 && (t49 != (w64 (t54 - 1)))))) [Own 22 (ekI .u64) v5 s58, F] (fun l2 hk2 => ?_) ?_
    · rcases bool_or ((t56 != t54) || (t50 != ((decide (1 ≤ t54)) && (decide (t54 ≤ 32))))) with b62 | b62
      · refine SO.passF rfl rfl rfl b62 rfl rfl ?_
        refine SO.passF rfl rfl rfl b62 rfl rfl ?_
        refine SO.pass_undef rfl rfl rfl rfl ?_
        refine SO.pass_undef rfl rfl rfl rfl ?_
        refine SO.pass_undef rfl rfl rfl rfl ?_
        refine SO.pass_undef rfl rfl rfl rfl ?_
        refine SO.passF rfl rfl rfl b62 rfl rfl ?_
        refine SO.v rfl (opv_pick_t' b62 rfl rfl) ?_
        refine SO.b1 ?_
        refine SO.b1 ?_
        exact hk2.fitc (m := 8) rfl (or_t b62) rfl
      · refine SO.takeT rfl rfl rfl b62 ?_
        refine SO.v rfl (opv_move rfl) ?_
        refine SO.takeT rfl rfl rfl b62 ?_
        refine SO.v rfl (opv_move rfl) ?_
        refine SO.cut 5 137 (.bool (t50 && (t49 != (w64 (t54 - 1))))) [Own 22 (ekI .u64) v5 s58, F] (fun l2 hk2 => ?_) ?_
        · rcases bool_or t50 with b63 | b63
          · refine SO.takeT rfl rfl rfl b63 ?_
            refine SO.v rfl (opv_move rfl) ?_
            refine SO.takeT rfl rfl rfl b63 ?_
            refine SO.v rfl (opv_move rfl) ?_
            refine SO.takeT rfl rfl rfl b63 ?_
            refine SO.v rfl (opv_sub rfl rfl) ?_
            refine SO.takeT rfl rfl rfl b63 ?_
            refine SO.v rfl (opv_neq rfl rfl) ?_
            refine SO.takeT rfl rfl rfl b62 ?_
            refine SO.v rfl (opv_pick_t' b63 rfl rfl) ?_
            refine SO.b1 ?_
            refine SO.b1 ?_
            exact hk2.fitc (m := 5) rfl (and_t b63) rfl
          · refine SO.passF rfl rfl rfl b63 rfl rfl ?_
            refine SO.passF rfl rfl rfl b63 rfl rfl ?_
            refine SO.passF rfl rfl rfl b63 rfl rfl ?_
            refine SO.passF rfl rfl rfl b63 rfl rfl ?_
            refine SO.takeT rfl rfl rfl b62 ?_
            refine SO.v rfl (opv_pick_f' b63 rfl rfl) ?_
            refine SO.b1 ?_
            refine SO.b1 ?_
            exact hk2.fitc (m := 5) rfl (and_f b63) rfl
        refine SO.v rfl (opv_pick_f' b62 rfl rfl) ?_
        refine SO.b1 ?_
        refine SO.b1 ?_
        exact hk2.fitc (m := 4) rfl (or_f b62) rfl
    refine SO.v rfl (opv_move rfl) ?_
    refine SO.cut 7 146 (.bool ((((t56 != t54) || (t50 != ((decide (1 ≤ t54)) && (decide (t54 ≤ 32))))) || (t50 && (t49 != (w64 (t54 - 1))))) || ((!t50) && (t49 != 0)))) [Own 22 (ekI .u64) v5 s58, F] (fun l2 hk2 => ?_) ?_
    · rcases bool_or (((t56 != t54) || (t50 != ((decide (1 ≤ t54)) && (decide (t54 ≤ 32))))) || (t50 && (t49 != (w64 (t54 - 1))))) with b64 | b64
      · refine SO.passF rfl rfl rfl b64 rfl rfl ?_
        refine SO.passF rfl rfl rfl b64 rfl rfl ?_
        refine SO.passF rfl rfl rfl b64 rfl rfl ?_
        refine SO.pass_undef rfl rfl rfl rfl ?_
        refine SO.pass_undef rfl rfl rfl rfl ?_
        refine SO.passF rfl rfl rfl b64 rfl rfl ?_
        refine SO.v rfl (opv_pick_t' b64 rfl rfl) ?_
        refine SO.b1 ?_
        refine SO.b1 ?_
        exact hk2.fitc (m := 7) rfl (or_t b64) rfl
      · refine SO.takeT rfl rfl rfl b64 ?_
        refine SO.v rfl (opv_move rfl) ?_
        refine SO.takeT rfl rfl rfl b64 ?_
        refine SO.v rfl (opv_not rfl) ?_
        refine SO.takeT rfl rfl rfl b64 ?_
        refine SO.v rfl (opv_move rfl) ?_
        refine SO.cut 3 145 (.bool ((!t50) && (t49 != 0))) [Own 22 (ekI .u64) v5 s58, F] (fun l2 hk2 => ?_) ?_
        · rcases bool_or (!t50) with b65 | b65
          · refine SO.takeT rfl rfl rfl b65 ?_
            refine SO.v rfl (opv_move rfl) ?_
            refine SO.takeT rfl rfl rfl b65 ?_
            refine SO.v rfl (opv_neq rfl rfl) ?_
            refine SO.takeT rfl rfl rfl b64 ?_
            refine SO.v rfl (opv_pick_t' b65 rfl rfl) ?_
            refine SO.b1 ?_
            refine SO.b1 ?_
            exact hk2.fitc (m := 3) rfl (and_t b65) rfl
          · refine SO.passF rfl rfl rfl b65 rfl rfl ?_
            refine SO.passF rfl rfl rfl b65 rfl rfl ?_
            refine SO.takeT rfl rfl rfl b64 ?_
            refine SO.v rfl (opv_pick_f' b65 rfl rfl) ?_
            refine SO.b1 ?_
            refine SO.b1 ?_
            exact hk2.fitc (m := 3) rfl (and_f b65) rfl
        refine SO.v rfl (opv_pick_f' b64 rfl rfl) ?_
        refine SO.b1 ?_
        refine SO.b1 ?_
        exact hk2.fitc (m := 5) rfl (or_f b64) rfl
    refine SO.nil ?_
    refine S.to (ρ' := [(0, .int .i64 a0), (1, .int .i64 a1), (2, .int .u64 a2), (3, .int .i64 a3), (4, .int .i64 a4), (10, .bool false), (11, .bool t1), (12, v5), (13, .int .i64 (w64 ((w64 (480 + (w64 (8 * a0)))) + a1))), (146, .bool ((((t56 != t54) || (t50 != ((decide (1 ≤ t54)) && (decide (t54 ≤ 32))))) || (t50 && (t49 != (w64 (t54 - 1))))) || ((!t50) && (t49 != 0))))]) ⟨rfl, rfl, rfl, rfl, rfl, rfl, rfl, rfl, rfl, rfl, trivial⟩ ?_
    rcases bool_or ((((t56 != t54) || (t50 != ((decide (1 ≤ t54)) && (decide (t54 ≤ 32))))) || (t50 && (t49 != (w64 (t54 - 1))))) || ((!t50) && (t49 != 0))) with b66 | b66
    · replace h := cond_t b66 h
      refine S.condT rfl b66 ?_
      refine S.seq ?_
      refine S.region ?_
      refine SO.v rfl (opv_assign rfl) ?_
      refine SO.nil ?_
      cases h
      refine S.drop ?_
      exact S.ret1 Try.func5 rfl rfl (fun w hs hk => hR w _ _ ⟨rfl, rfl⟩ hs hk)
    · replace h := cond_f b66 h
      refine S.condF rfl b66 ?_
      refine S.skip ?_
      refine S.seq ?_
      refine S.seq ?_
      refine S.region ?_
      refine SO.v rfl (opv_move rfl) ?_
      refine SO.v rfl (opv_eql rfl rfl) ?_
      refine SO.v rfl (opv_move rfl) ?_
      obtain ⟨⟨c68, w70⟩, hc69, hgk⟩ := opt_bind h
      refine SO.cut 15 164 (.bool c68) [Own 22 (ekI .u64) v5 w70, F] (fun l2 hk2 => ?_) ?_
      · clear hgk
        replace h := hc69
        rcases bool_or (a1 == 0) with b67 | b67
        · replace h := cond_t b67 h
          refine SO.takeT rfl rfl rfl b67 ?_
          refine SO.v rfl (opv_move rfl) ?_
          refine SO.takeT rfl rfl rfl b67 ?_
          refine SO.v rfl (opv_iface Try.underlying26 rfl rfl) ?_
          refine SO.takeT rfl rfl rfl b67 ?_
          refine SO.v rfl (opv_move rfl) ?_
          refine SO.takeT rfl rfl rfl b67 ?_
          refine SO.v rfl (opv_move rfl) ?_
          refine SO.takeT rfl rfl rfl b67 ?_
          obtain ⟨⟨t72, s74⟩, ht73, h⟩ := opt_bind h
          refine SO.call (pre := [(plainV v5).rep _]) rfl Try.call17 rfl rfl rfl (lay_Is.ct (plainV v5) _ _ _ _ _ ht73) trivial ?_
          rintro _ _ ⟨rfl, rfl⟩
          refine headEq (plainV_rep _ _) ?_
          refine SO.rd fun hr75 => ?_
          refine SO.takeT rfl rfl rfl b67 ?_
          refine SO.v rfl (opv_move rfl) ?_
          refine SO.takeT rfl rfl rfl b67 ?_
          refine SO.v rfl (opv_geq rfl rfl) ?_
          refine SO.takeT rfl rfl rfl b67 ?_
          refine SO.v rfl (opv_move rfl) ?_
          refine SO.cut 5 162 (.bool ((decide (0 ≤ a4)) && (a2 == (wu64 a4)))) [Own 22 (ekI .u64) v5 s74, F] (fun l2 hk2 => ?_) ?_
          · rcases bool_or (decide (0 ≤ a4)) with b76 | b76
            · refine SO.takeT rfl rfl rfl b76 ?_
              refine SO.v rfl (opv_move rfl) ?_
              refine SO.takeT rfl rfl rfl b76 ?_
              refine SO.v rfl (opv_move rfl) ?_
              refine SO.takeT rfl rfl rfl b76 ?_
              refine SO.v rfl (opv_conv Try.underlying3 Try.underlying22 rfl) ?_
              refine SO.takeT rfl rfl rfl b76 ?_
              refine SO.v rfl (opv_eql rfl rfl) ?_
              refine SO.takeT rfl rfl rfl b67 ?_
              refine SO.v rfl (opv_pick_t' b76 rfl rfl) ?_
              refine SO.b1 ?_
              refine SO.b1 ?_
              exact hk2.fitc (m := 5) rfl (and_t b76) rfl
            · refine SO.passF rfl rfl rfl b76 rfl rfl ?_
              refine SO.passF rfl rfl rfl b76 rfl rfl ?_
              refine SO.passF rfl rfl rfl b76 rfl rfl ?_
              refine SO.passF rfl rfl rfl b76 rfl rfl ?_
              refine SO.takeT rfl rfl rfl b67 ?_
              refine SO.v rfl (opv_pick_f' b76 rfl rfl) ?_
              refine SO.b1 ?_
              refine SO.b1 ?_
              exact hk2.fitc (m := 5) rfl (and_f b76) rfl
          refine SO.takeT rfl rfl rfl b67 ?_
          refine SO.v rfl (opv_neqB Try.underlying4 rfl rfl) ?_
          cases h
          refine SO.v rfl (opv_pick_t' b67 rfl rfl) ?_
          refine SO.b1 ?_
          refine SO.b1 ?_
          exact hk2.fitc (m := 11) rfl (rfl) rfl
        · replace h := cond_f b67 h
          refine SO.passF rfl rfl rfl b67 rfl rfl ?_
          refine SO.passF rfl rfl rfl b67 rfl rfl ?_
          refine SO.passF rfl rfl rfl b67 rfl rfl ?_
          refine SO.passF rfl rfl rfl b67 rfl rfl ?_
          refine SO.passF rfl rfl rfl b67 rfl rfl ?_
          refine SO.passF rfl rfl rfl b67 rfl rfl ?_
          refine SO.passF rfl rfl rfl b67 rfl rfl ?_
          refine SO.passF rfl rfl rfl b67 rfl rfl ?_
          refine SO.pass_undef rfl rfl rfl rfl ?_
          refine SO.pass_undef rfl rfl rfl rfl ?_
          refine SO.pass_undef rfl rfl rfl rfl ?_
          refine SO.pass_undef rfl rfl rfl rfl ?_
          refine SO.passF rfl rfl rfl b67 rfl rfl ?_
          refine SO.passF rfl rfl rfl b67 rfl rfl ?_
          cases h
          refine SO.v rfl (opv_pick_f' b67 rfl rfl) ?_
          refine SO.b1 ?_
          refine SO.b1 ?_
          exact hk2.fitc (m := 15) rfl (rfl) rfl
      clear hc69
      replace h := hgk
      refine SO.rd fun hr71 => ?_
      refine SO.nil ?_
      rcases bool_or c68 with b77 | b77
      · replace h := cond_t b77 h
        refine S.condT rfl b77 ?_
        refine S.seq ?_
        refine S.region ?_
        refine SO.v rfl (opv_assign rfl) ?_
        refine SO.nil ?_
        cases h
        refine S.drop ?_
        exact S.ret1 Try.func5 rfl rfl (fun w hs hk => hR w _ _ ⟨rfl, rfl⟩ hs hk)
      · replace h := cond_f b77 h
        refine S.condF rfl b77 ?_
        refine S.skip ?_
        refine S.seq ?_
        refine S.region ?_
        refine SO.v rfl (opv_move rfl) ?_
        refine SO.v rfl (opv_iface Try.underlying26 rfl rfl) ?_
        refine SO.v rfl (opv_move rfl) ?_
        refine SO.v rfl (opv_move rfl) ?_
        refine SO.v rfl (opv_move rfl) ?_
        obtain ⟨⟨_, s79⟩, ht78, h⟩ := opt_bind h
        refine SO.call (pre := [(plainV v5).rep _]) rfl Try.call14 rfl rfl rfl (lay_Put.ct (plainV v5) _ _ _ _ _ ht78) trivial ?_
        rintro _ _ ⟨rfl, rfl⟩
        refine headEq (plainV_rep _ _) ?_
        refine SO.rd fun hr80 => ?_
        refine SO.nil ?_
        refine S.to (ρ' := [(2, .int .u64 a2), (3, .int .i64 a3), (10, .bool false), (11, .bool t1), (12, v5), (13, .int .i64 (w64 ((w64 (480 + (w64 (8 * a0)))) + a1)))]) ⟨rfl, rfl, rfl, rfl, rfl, rfl, trivial⟩ ?_
        refine S.seq ?_
        refine S.seq ?_
        refine S.region ?_
        refine SO.v rfl (opv_move rfl) ?_
        refine SO.v rfl (opv_geq rfl rfl) ?_
        refine SO.nil ?_
        rcases bool_or (decide (0 ≤ a3)) with b81 | b81
        · replace h := cond_t b81 h
          refine S.condT rfl b81 ?_
          refine S.region ?_
          refine SO.v rfl (opv_move rfl) ?_
          refine SO.v rfl (opv_conv Try.underlying3 Try.underlying22 rfl) ?_
          refine SO.v rfl (opv_assign rfl) ?_
          refine SO.nil ?_
          refine S.seq ?_
          refine S.region ?_
          refine SO.v rfl (opv_move rfl) ?_
          refine SO.v rfl (opv_move rfl) ?_
          obtain ⟨c83, hc84, hgk⟩ := opt_bind h
          refine SO.cut 7 183 (.bool c83) [Own 22 (ekI .u64) v5 s79, F] (fun l2 hk2 => ?_) ?_
          · clear hgk
            replace h := hc84
            rcases bool_or t1 with b82 | b82
            · replace h := cond_t b82 h
              refine SO.takeT rfl rfl rfl b82 ?_
              refine SO.v rfl (opv_move rfl) ?_
              refine SO.takeT rfl rfl rfl b82 ?_
              refine SO.v rfl (opv_move rfl) ?_
              refine SO.takeT rfl rfl rfl b82 ?_
              obtain ⟨x85, hx86, h⟩ := opt_bind h
              refine SO.v rfl (opv_idx Try.underlying26 Try.sizeOf22 hr80 rfl rfl hx86) ?_
              refine SO.takeT rfl rfl rfl b82 ?_
              refine SO.loadI1 (j := 0) rfl Try.isAgg22 (Rd.head hr80) hx86 rfl rfl rfl rfl ?_
              refine SO.takeT rfl rfl rfl b82 ?_
              refine SO.v rfl (opv_move rfl) ?_
              refine SO.takeT rfl rfl rfl b82 ?_
              refine SO.v rfl (opv_eql rfl rfl) ?_
              cases h
              refine SO.v rfl (opv_pick_t' b82 rfl rfl) ?_
              refine SO.b1 ?_
              refine SO.b1 ?_
              exact hk2.fitc (m := 7) rfl (rfl) rfl
            · replace h := cond_f b82 h
              refine SO.passF rfl rfl rfl b82 rfl rfl ?_
              refine SO.passF rfl rfl rfl b82 rfl rfl ?_
              refine SO.passF rfl rfl rfl b82 rfl rfl ?_
              refine SO.passF rfl rfl rfl b82 rfl rfl ?_
              refine SO.passF rfl rfl rfl b82 rfl rfl ?_
              refine SO.passF rfl rfl rfl b82 rfl rfl ?_
              cases h
              refine SO.v rfl (opv_pick_f' b82 rfl rfl) ?_
              refine SO.b1 ?_
              refine SO.b1 ?_
              exact hk2.fitc (m := 7) rfl (rfl) rfl
          clear hc84
          replace h := hgk
          refine SO.v rfl (opv_assign rfl) ?_
          refine SO.nil ?_
          refine S.to (ρ' := [(10, .bool c83)]) ⟨rfl, trivial⟩ ?_
          cases h
          refine S.drop ?_
          exact S.ret1 Try.func5 rfl rfl (fun w hs hk => hR w _ _ ⟨rfl, rfl⟩ hs hk)
        · replace h := cond_f b81 h
          refine S.condF rfl b81 ?_
          refine S.skip ?_
          refine S.seq ?_
          refine S.region ?_
          refine SO.v rfl (opv_move rfl) ?_
          refine SO.v rfl (opv_move rfl) ?_
          obtain ⟨c88, hc89, hgk⟩ := opt_bind h
          refine SO.cut 7 183 (.bool c88) [Own 22 (ekI .u64) v5 s79, F] (fun l2 hk2 => ?_) ?_
          · clear hgk
            replace h := hc89
            rcases bool_or t1 with b87 | b87
            · replace h := cond_t b87 h
              refine SO.takeT rfl rfl rfl b87 ?_
              refine SO.v rfl (opv_move rfl) ?_
              refine SO.takeT rfl rfl rfl b87 ?_
              refine SO.v rfl (opv_move rfl) ?_
              refine SO.takeT rfl rfl rfl b87 ?_
              obtain ⟨x90, hx91, h⟩ := opt_bind h
              refine SO.v rfl (opv_idx Try.underlying26 Try.sizeOf22 hr80 rfl rfl hx91) ?_
              refine SO.takeT rfl rfl rfl b87 ?_
              refine SO.loadI1 (j := 0) rfl Try.isAgg22 (Rd.head hr80) hx91 rfl rfl rfl rfl ?_
              refine SO.takeT rfl rfl rfl b87 ?_
              refine SO.v rfl (opv_move rfl) ?_
              refine SO.takeT rfl rfl rfl b87 ?_
              refine SO.v rfl (opv_eql rfl rfl) ?_
              cases h
              refine SO.v rfl (opv_pick_t' b87 rfl rfl) ?_
              refine SO.b1 ?_
              refine SO.b1 ?_
              exact hk2.fitc (m := 7) rfl (rfl) rfl
            · replace h := cond_f b87 h
              refine SO.passF rfl rfl rfl b87 rfl rfl ?_
              refine SO.passF rfl rfl rfl b87 rfl rfl ?_
              refine SO.passF rfl rfl rfl b87 rfl rfl ?_
              refine SO.passF rfl rfl rfl b87 rfl rfl ?_
              refine SO.passF rfl rfl rfl b87 rfl rfl ?_
              refine SO.passF rfl rfl rfl b87 rfl rfl ?_
              cases h
              refine SO.v rfl (opv_pick_f' b87 rfl rfl) ?_
              refine SO.b1 ?_
              refine SO.b1 ?_
              exact hk2.fitc (m := 7) rfl (rfl) rfl
          clear hc89
          replace h := hgk
          refine SO.v rfl (opv_assign rfl) ?_
          refine SO.nil ?_
          refine S.to (ρ' := [(10, .bool c88)]) ⟨rfl, trivial⟩ ?_
          cases h
          refine S.drop ?_
          exact S.ret1 Try.func5 rfl rfl (fun w hs hk => hR w _ _ ⟨rfl, rfl⟩ hs hk)
end Go.Proofs
