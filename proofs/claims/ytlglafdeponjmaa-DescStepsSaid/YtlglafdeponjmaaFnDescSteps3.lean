/- What the functions that DescSteps reaches come to, and that they do. On no condition. -/
import Derived.Test.YtlglafdeponjmaaFnDescSteps0
import Derived.Test.YtlglafdeponjmaaFnDescSteps1
import Derived.Test.YtlglafdeponjmaaFnDescSteps2
set_option linter.all false
namespace Go.Proofs
open Go.Sl Go.RowKit
/-! 3 padstone/padstonelaw07.DescSteps -/
def law07_DescSteps.l1 (a2 : List (List tx_Entry)) (t1 : Bool) : Nat → (Int × (List ref07_Desc) × (List desc_Desc)) → Option (Brk Bool ((List desc_Desc) × (List ref07_Desc)))
  | 0, _ => none
  | k + 1, (x15_1, x14_1, x13_1) => bif decide (x15_1 < (a2.length : Int)) then ((at_ a2 x15_1).bind fun x22 => bif decide (30 < (x22.length : Int)) then (some (Brk.ret t1)) else ((at_ a2 x15_1).bind fun x28 => (desc_New.f (w64 (x15_1 + 1)) x28).bind fun t33 => (app x13_1 ([t33])).bind fun zs40 => (at_ a2 x15_1).bind fun x43 => (law07_as.f k x43).bind fun t48 => (app x14_1 ([(⟨w64 (x15_1 + 1), t48, 0, 0⟩ : ref07_Desc)])).bind fun zs55 => law07_DescSteps.l1 a2 t1 k (w64 (x15_1 + 1), zs55, zs40))) else (some (Brk.nx (x13_1, x14_1)))
def law07_DescSteps.l2 (a2 : List (List tx_Entry)) (a3 : List Int) : Nat → (Int × (List api_Cell) × Int × (List api_Cell) × Int × (List desc_Desc) × (List ref07_Desc)) → Option (Brk Bool ((List api_Cell) × Int × (List api_Cell) × Int × (List ref07_Desc) × (List desc_Desc)))
  | 0, _ => none
  | k + 1, (x17_2, y20_0_2, y20_1_2, y12_0_2, y12_1_2, qv13_e1_2, qv14_e1_2) => bif decide (x17_2 < (a3.length : Int)) then ((at_ a3 x17_2).bind fun x61 => (chk (decide ((a2.length : Int) ≠ 0))).bind fun _ => (bif decide ((x61.tmod (a2.length : Int)) < 0) then (some (w64 (0 - (x61.tmod (a2.length : Int))))) else (some (x61.tmod (a2.length : Int)))).bind fun j18_3 => (at_ qv13_e1_2 j18_3).bind fun x65 => (at_ qv14_e1_2 j18_3).bind fun x74 => ((desc_Desc_Step.f x65 (⟨y12_0_2, y12_1_2⟩ : word_Store)).bind fun (t83, p84, p85) => (ref07_Desc_Step.f x74 (⟨y20_0_2, y20_1_2⟩ : ref01_Store)).bind fun (t92, p93, p94) => bif t83 != t92 then (some (true, p93.Mark, p93.L, p93.Status, p93.At, p84.mark, p84.l, p84.status, p84.at_, p94.L, p94.Limit, p85.l, p85.limit)) else ((desc_Desc_Status.f p84).bind fun t112 => bif t112 != p93.Status then (some (true, p93.Mark, p93.L, p93.Status, p93.At, p84.mark, p84.l, p84.status, p84.at_, p94.L, p94.Limit, p85.l, p85.limit)) else ((desc_Desc_Over.f p84).bind fun t123 => (ref07_Desc_Over.f p93).bind fun t127 => bif t123 != t127 then (some (true, p93.Mark, p93.L, p93.Status, p93.At, p84.mark, p84.l, p84.status, p84.at_, p94.L, p94.Limit, p85.l, p85.limit)) else ((desc_Desc_Mark.f p84).bind fun t136 => bif t136 != (w64 (j18_3 + 1)) then (some (true, p93.Mark, p93.L, p93.Status, p93.At, p84.mark, p84.l, p84.status, p84.at_, p94.L, p94.Limit, p85.l, p85.limit)) else ((law07_same.f k p85 p94).bind fun t147 => some (!t147, p93.Mark, p93.L, p93.Status, p93.At, p84.mark, p84.l, p84.status, p84.at_, p94.L, p94.Limit, p85.l, p85.limit)))))).bind fun (j174_4, y77_0_4, y77_1_4, y77_2_4, y77_3_4, y68_0_4, y68_1_4, y68_2_4, y68_3_4, y20_0_4, y20_1_4, y12_0_4, y12_1_4) => bif j174_4 then (some (Brk.ret false)) else (law07_DescSteps.l2 a2 a3 k (w64 (x17_2 + 1), y20_0_4, y20_1_4, y12_0_4, y12_1_4, qv13_e1_2.set j18_3.toNat (⟨y68_0_4, y68_1_4, y68_2_4, y68_3_4⟩ : desc_Desc), qv14_e1_2.set j18_3.toNat (⟨y77_0_4, y77_1_4, y77_2_4, y77_3_4⟩ : ref07_Desc)))) else (some (Brk.nx (y20_0_2, y20_1_2, y12_0_2, y12_1_2, qv14_e1_2, qv13_e1_2)))
def law07_DescSteps.f (k : Nat) (a0 : Int) (a1 : Int) (a2 : List (List tx_Entry)) (a3 : List Int) : Option (Bool) :=
  (law07_up.f ).bind fun t1 => bif (((((decide (a0 < 1)) || (decide (30 < a0))) || (decide (a1 < 1))) || (decide ((a2.length : Int) < 1))) || (decide (5 < (a2.length : Int)))) || (decide (200 < (a3.length : Int))) then (some t1) else ((word_New.f a0 a1).bind fun (t9, t10) => oE t9 (some false) (fun t9p => bif t10.isSome then (some false) else ((mk_ (⟨0, 0, 0⟩ : api_Cell) a0).bind fun xs18 => (law07_DescSteps.l1 a2 t1 k (0, [], [])).bind fun o1 => Brk.go o1 (fun r => some r) (fun (j13_e1, j14_e1) => (law07_DescSteps.l2 a2 a3 k (0, xs18, a1, t9p.l, t9p.limit, j13_e1, j14_e1)).bind fun o2 => Brk.go o2 (fun r => some r) (fun (y20_0_e2, y20_1_e2, y12_0_e2, y12_1_e2, qv14_e1_e2, qv13_e1_e2) => some t1)))))
set_option maxHeartbeats 8000000 in
set_option maxRecDepth 100000 in
theorem law07_DescSteps.ct (k : Nat) (v2 : Value) (v3 : Value) (a0 : Int) (a1 : Int) (a2 : List (List tx_Entry)) (a3 : List Int) (r0 : Bool) (h : law07_DescSteps.f k a0 a1 a2 a3 = some r0) :
    Ct Try.prog 3 [.int .i64 a0, .int .u32 a1, v2, v3] (fun F => Rd2 ek_tx_Entry v2 a2 F ∧ Rd (ekI .i64) v3 a3 F) [] (fun u H' => u = .bool r0 ∧ H' = []) := by
  unfold law07_DescSteps.f at h
  refine Ct.intro (n := 176) Try.func3 rfl rfl rfl ?_
  intro R w0 F hF hR
  obtain ⟨hF2, hF3⟩ := hF
  obtain ⟨vs2, hF2, hl2, hR2⟩ := hF2
  refine S.seq ?_
  refine S.region ?_
  refine SO.v rfl (opv_assign rfl) ?_
  refine SO.nil ?_
  refine S.seq ?_
  refine S.region ?_
  obtain ⟨t1, ht2, h⟩ := opt_bind h
  refine SO.call (pre := []) rfl Try.call5 rfl rfl rfl (law07_up.ct _ ht2) trivial ?_
  rintro _ _ ⟨rfl, rfl⟩
  refine SO.v rfl (opv_assign rfl) ?_
  refine SO.nil ?_
  refine S.seq ?_
  refine S.seq ?_
  refine S.region ?_
  refine SO.v rfl (opv_move rfl) ?_
  refine SO.v rfl (opv_lss rfl rfl) ?_
  refine SO.v rfl (opv_move rfl) ?_
  refine SO.cut 3 25 (.bool ((decide (a0 < 1)) || (decide (30 < a0)))) [F] (fun l2 hk2 => ?_) ?_
  · rcases bool_or (decide (a0 < 1)) with b3 | b3
    · refine SO.passF rfl rfl rfl b3 rfl rfl ?_
      refine SO.passF rfl rfl rfl b3 rfl rfl ?_
      refine SO.v rfl (opv_pick_t' b3 rfl rfl) ?_
      exact hk2.fitc (m := 3) rfl (or_t b3) rfl
    refine SO.takeT rfl rfl rfl b3 ?_
    refine SO.v rfl (opv_move rfl) ?_
    refine SO.takeT rfl rfl rfl b3 ?_
    refine SO.v rfl (opv_gtr rfl rfl) ?_
    refine SO.v rfl (opv_pick_f' b3 rfl rfl) ?_
    exact hk2.fitc (m := 3) rfl (or_f b3) rfl
  refine SO.v rfl (opv_move rfl) ?_
  refine SO.cut 3 29 (.bool (((decide (a0 < 1)) || (decide (30 < a0))) || (decide (a1 < 1)))) [F] (fun l2 hk2 => ?_) ?_
  · rcases bool_or ((decide (a0 < 1)) || (decide (30 < a0))) with b4 | b4
    · refine SO.passF rfl rfl rfl b4 rfl rfl ?_
      refine SO.passF rfl rfl rfl b4 rfl rfl ?_
      refine SO.v rfl (opv_pick_t' b4 rfl rfl) ?_
      exact hk2.fitc (m := 3) rfl (or_t b4) rfl
    refine SO.takeT rfl rfl rfl b4 ?_
    refine SO.v rfl (opv_move rfl) ?_
    refine SO.takeT rfl rfl rfl b4 ?_
    refine SO.v rfl (opv_lss rfl rfl) ?_
    refine SO.v rfl (opv_pick_f' b4 rfl rfl) ?_
    exact hk2.fitc (m := 3) rfl (or_f b4) rfl
  refine SO.v rfl (opv_move rfl) ?_
  refine SO.cut 4 34 (.bool ((((decide (a0 < 1)) || (decide (30 < a0))) || (decide (a1 < 1))) || (decide ((a2.length : Int) < 1)))) [F] (fun l2 hk2 => ?_) ?_
  · rcases bool_or (((decide (a0 < 1)) || (decide (30 < a0))) || (decide (a1 < 1))) with b5 | b5
    · refine SO.passF rfl rfl rfl b5 rfl rfl ?_
      refine SO.passF rfl rfl rfl b5 rfl rfl ?_
      refine SO.passF rfl rfl rfl b5 rfl rfl ?_
      refine SO.v rfl (opv_pick_t' b5 rfl rfl) ?_
      exact hk2.fitc (m := 4) rfl (or_t b5) rfl
    refine SO.takeT rfl rfl rfl b5 ?_
    refine SO.v rfl (opv_move rfl) ?_
    refine SO.takeT rfl rfl rfl b5 ?_
    refine SO.v rfl (opv_len2 rfl Try.underlying23 hF2 hl2 rfl) ?_
    refine SO.takeT rfl rfl rfl b5 ?_
    refine SO.v rfl (opv_lss rfl rfl) ?_
    refine SO.v rfl (opv_pick_f' b5 rfl rfl) ?_
    exact hk2.fitc (m := 4) rfl (or_f b5) rfl
  refine SO.v rfl (opv_move rfl) ?_
  refine SO.cut 4 39 (.bool (((((decide (a0 < 1)) || (decide (30 < a0))) || (decide (a1 < 1))) || (decide ((a2.length : Int) < 1))) || (decide (5 < (a2.length : Int))))) [F] (fun l2 hk2 => ?_) ?_
  · rcases bool_or ((((decide (a0 < 1)) || (decide (30 < a0))) || (decide (a1 < 1))) || (decide ((a2.length : Int) < 1))) with b6 | b6
    · refine SO.passF rfl rfl rfl b6 rfl rfl ?_
      refine SO.passF rfl rfl rfl b6 rfl rfl ?_
      refine SO.passF rfl rfl rfl b6 rfl rfl ?_
      refine SO.v rfl (opv_pick_t' b6 rfl rfl) ?_
      exact hk2.fitc (m := 4) rfl (or_t b6) rfl
    refine SO.takeT rfl rfl rfl b6 ?_
    refine SO.v rfl (opv_move rfl) ?_
    refine SO.takeT rfl rfl rfl b6 ?_
    refine SO.v rfl (opv_len2 rfl Try.underlying23 hF2 hl2 rfl) ?_
    refine SO.takeT rfl rfl rfl b6 ?_
    refine SO.v rfl (opv_gtr rfl rfl) ?_
    refine SO.v rfl (opv_pick_f' b6 rfl rfl) ?_
    exact hk2.fitc (m := 4) rfl (or_f b6) rfl
  refine SO.v rfl (opv_move rfl) ?_
  refine SO.cut 4 44 (.bool ((((((decide (a0 < 1)) || (decide (30 < a0))) || (decide (a1 < 1))) || (decide ((a2.length : Int) < 1))) || (decide (5 < (a2.length : Int)))) || (decide (200 < (a3.length : Int))))) [F] (fun l2 hk2 => ?_) ?_
  · rcases bool_or (((((decide (a0 < 1)) || (decide (30 < a0))) || (decide (a1 < 1))) || (decide ((a2.length : Int) < 1))) || (decide (5 < (a2.length : Int)))) with b7 | b7
    · refine SO.passF rfl rfl rfl b7 rfl rfl ?_
      refine SO.passF rfl rfl rfl b7 rfl rfl ?_
      refine SO.passF rfl rfl rfl b7 rfl rfl ?_
      refine SO.v rfl (opv_pick_t' b7 rfl rfl) ?_
      exact hk2.fitc (m := 4) rfl (or_t b7) rfl
    refine SO.takeT rfl rfl rfl b7 ?_
    refine SO.v rfl (opv_move rfl) ?_
    refine SO.takeT rfl rfl rfl b7 ?_
    refine SO.v rfl (opv_lenR rfl Try.underlying24 hF3 rfl) ?_
    refine SO.takeT rfl rfl rfl b7 ?_
    refine SO.v rfl (opv_gtr rfl rfl) ?_
    refine SO.v rfl (opv_pick_f' b7 rfl rfl) ?_
    exact hk2.fitc (m := 4) rfl (or_f b7) rfl
  refine SO.nil ?_
  refine S.to (ρ' := [(0, .int .i64 a0), (1, .int .u32 a1), (2, v2), (3, v3), (8, .bool false), (9, .bool t1), (44, .bool ((((((decide (a0 < 1)) || (decide (30 < a0))) || (decide (a1 < 1))) || (decide ((a2.length : Int) < 1))) || (decide (5 < (a2.length : Int)))) || (decide (200 < (a3.length : Int)))))]) ⟨rfl, rfl, rfl, rfl, rfl, rfl, rfl, trivial⟩ ?_
  rcases bool_or ((((((decide (a0 < 1)) || (decide (30 < a0))) || (decide (a1 < 1))) || (decide ((a2.length : Int) < 1))) || (decide (5 < (a2.length : Int)))) || (decide (200 < (a3.length : Int)))) with b8 | b8
  · replace h := cond_t b8 h
    refine S.condT rfl b8 ?_
    refine S.seq ?_
    refine S.region ?_
    refine SO.v rfl (opv_move rfl) ?_
    refine SO.v rfl (opv_assign rfl) ?_
    refine SO.nil ?_
    refine S.to (ρ' := [(8, .bool t1)]) ⟨rfl, trivial⟩ ?_
    cases h
    exact S.ret1 Try.func3 rfl rfl (fun w hs hk => hR w _ _ ⟨rfl, rfl⟩ hs hk)
  replace h := cond_f b8 h
  refine S.condF rfl b8 ?_
  refine S.skip ?_
  refine S.seq ?_
  refine S.region ?_
  refine SO.v rfl (opv_move rfl) ?_
  refine SO.v rfl (opv_move rfl) ?_
  obtain ⟨⟨t9, t10⟩, ht11, h⟩ := opt_bind h
  rcases t9 with _ | t9p
  · replace h := oE_n h
    refine SO.call (pre := []) rfl Try.call6 rfl rfl rfl (word_New.ct _ _ _ _ ht11) trivial ?_
    rintro _ _ ⟨rfl, rfl⟩
    refine SO.v rfl (opv_move rfl) ?_
    refine SO.v rfl (opv_extract rfl rfl) ?_
    refine SO.v rfl (opv_extract rfl rfl) ?_
    refine SO.v rfl (opv_assign rfl) ?_
    refine SO.v rfl (opv_assign rfl) ?_
    refine SO.nil ?_
    refine S.to (ρ' := [(0, .int .i64 a0), (1, .int .u32 a1), (2, v2), (3, v3), (8, .bool false), (9, .bool t1), (10, .pointer none), (11, errV 59 t10)]) ⟨rfl, rfl, rfl, rfl, rfl, rfl, rfl, rfl, trivial⟩ ?_
    refine S.seq ?_
    refine S.seq ?_
    refine S.region ?_
    refine SO.v rfl (opv_move rfl) ?_
    refine SO.v rfl (opv_eqlPN Try.underlying26 rfl) ?_
    refine SO.v rfl (opv_move rfl) ?_
    refine SO.passF rfl rfl rfl rfl rfl rfl ?_
    refine SO.passF rfl rfl rfl rfl rfl rfl ?_
    refine SO.v rfl (opv_pick_tt rfl rfl) ?_
    refine SO.nil ?_
    refine S.cond_true rfl ?_
    refine S.seq ?_
    refine S.region ?_
    refine SO.v rfl (opv_assign rfl) ?_
    refine SO.nil ?_
    refine S.to (ρ' := [(8, .bool false)]) ⟨rfl, trivial⟩ ?_
    cases h
    exact S.ret1 Try.func3 rfl rfl (fun w hs hk => hR w _ _ ⟨rfl, rfl⟩ hs hk)
  replace h := oE_s h
  refine SO.call (pre := []) rfl Try.call6 rfl rfl rfl (word_New.ct _ _ _ _ ht11) trivial ?_
  rintro _ _ ⟨b12, u13_l, rfl, rfl⟩
  refine SO.b1 ?_
  refine SO.rd fun hr14 => ?_
  refine SO.v rfl (opv_move rfl) ?_
  refine SO.v rfl (opv_extract rfl rfl) ?_
  refine SO.v rfl (opv_extract rfl rfl) ?_
  refine SO.v rfl (opv_assign rfl) ?_
  refine SO.v rfl (opv_assign rfl) ?_
  refine SO.nil ?_
  refine S.to (ρ' := [(0, .int .i64 a0), (1, .int .u32 a1), (2, v2), (3, v3), (8, .bool false), (9, .bool t1), (10, bp b12 0), (11, errV 59 t10)]) ⟨rfl, rfl, rfl, rfl, rfl, rfl, rfl, rfl, trivial⟩ ?_
  refine S.seq ?_
  refine S.seq ?_
  refine S.region ?_
  refine SO.v rfl (opv_move rfl) ?_
  refine SO.v rfl (opv_eqlP Try.underlying26 rfl) ?_
  refine SO.v rfl (opv_move rfl) ?_
  refine SO.takeT rfl rfl rfl rfl ?_
  refine SO.v rfl (opv_move rfl) ?_
  refine SO.takeT rfl rfl rfl rfl ?_
  refine SO.v rfl (opv_neqN (e := t10) Try.underlying28 rfl) ?_
  refine SO.v rfl (opv_pick_ff rfl rfl) ?_
  refine SO.nil ?_
  rcases bool_or t10.isSome with b15 | b15
  · replace h := cond_t b15 h
    refine S.condT rfl b15 ?_
    refine S.seq ?_
    refine S.region ?_
    refine SO.v rfl (opv_assign rfl) ?_
    refine SO.nil ?_
    refine S.to (ρ' := [(8, .bool false)]) ⟨rfl, trivial⟩ ?_
    cases h
    refine S.drop ?_
    refine S.drop ?_
    exact S.ret1 Try.func3 rfl rfl (fun w hs hk => hR w _ _ ⟨rfl, rfl⟩ hs hk)
  replace h := cond_f b15 h
  refine S.condF rfl b15 ?_
  refine S.skip ?_
  refine S.seq ?_
  refine S.region ?_
  refine SO.v rfl (opv_move rfl) ?_
  obtain ⟨xs18, hx19, h⟩ := opt_bind h
  refine SO.makeSlice (K := ek_api_Cell) rfl Try.underlying32 inf55 rfl rfl rfl (by decide) rfl rfl rfl hx19 (fun v16 hr17 => ?_)
  refine SO.v rfl (opv_move rfl) ?_
  have hB_ : ∀ (w : World) (u0_ : Value), u0_.oneCell' = true → (Instr.build 34 #[(0, u0_), (1, .int .u32 a1)]).run Try.prog w = .ok (.agg #[u0_, .int .u32 a1]) w := (by intro w u0_ hu0_; cases u0_ <;> first | (simp [Value.oneCell'] at hu0_; done) | kernel_rfl)
  refine SO.v rfl (opv_build (v := .agg #[v16, .int .u32 a1]) rfl (fun w => hB_ w v16 (Rd.one hr17))) ?_
  clear hB_
  refine SO.box rfl rfl rfl (fun b20 => ?_)
  refine SO.v rfl (opv_assign rfl) ?_
  refine SO.nil ?_
  refine S.to (ρ' := [(2, v2), (3, v3), (8, .bool false), (9, .bool t1), (10, bp b12 0), (12, bp b20 0)]) ⟨rfl, rfl, rfl, rfl, rfl, rfl, trivial⟩ ?_
  refine S.seq ?_
  refine S.region ?_
  refine SO.v rfl (opv_assign rfl) ?_
  refine SO.nil ?_
  refine S.seq ?_
  refine S.region ?_
  refine SO.v rfl (opv_assign rfl) ?_
  refine SO.nil ?_
  refine S.seq ?_
  refine S.seq ?_
  refine S.region ?_
  refine SO.v rfl (opv_assign rfl) ?_
  refine SO.nil ?_
  obtain ⟨o1, hlp1, h⟩ := opt_bind h
  refine S.newOwnP 38 rep_desc_Desc ?_
  refine S.newOwnP 40 rep_ref07_Desc ?_
  refine S.b6 ?_
  refine S.b6 ?_
  refine S.b6 ?_
  refine S.b6 ?_
  refine S.b6 ?_
  refine S.b5 ?_
  refine S.b6 ?_
  refine S.to (ρ' := [(15, .int .i64 0), (14, .slice none 0 0), (13, .slice none 0 0), (2, v2), (3, v3), (8, .bool false), (9, .bool t1), (10, bp b12 0), (12, bp b20 0)]) ⟨rfl, rfl, rfl, rfl, rfl, rfl, rfl, rfl, rfl, trivial⟩ ?_
  refine S.forloop (X := (Int × (List ref07_Desc) × (List desc_Desc)) × (Value × Value)) (O := Brk Bool ((List desc_Desc) × (List ref07_Desc))) (fun m x => law07_DescSteps.l1 a2 t1 m x.1) (fun x => match x with | ((x15_1, x14_1, x13_1), (v14_1, v13_1)) => [(15, .int .i64 x15_1), (14, v14_1), (13, v13_1), (2, v2), (3, v3), (8, .bool false), (9, .bool t1), (10, bp b12 0), (12, bp b20 0)]) (fun x => match x with | ((x15_1, x14_1, x13_1), (v14_1, v13_1)) => [OwnPt rep_desc_Desc 38 v13_1 x13_1, OwnPt rep_ref07_Desc 40 v14_1 x14_1, Box b20 [v16, .int .u32 a1], Own 55 ek_api_Cell v16 xs18, Own 55 ek_api_Cell u13_l t9p.l, Box b12 [u13_l, .int .u32 t9p.limit], F]) (fun Sk o' => (∀ r', o' = Brk.ret r' → some r' = some r0) ∧ ∀ j : ((List desc_Desc) × (List ref07_Desc)), match j with | (j13_e1, j14_e1) => ∀ g : (Value × Value), match g with | (v13_e1, v14_e1) => o' = Brk.nx (j13_e1, j14_e1) → Sk [(2, v2), (3, v3), (8, .bool false), (9, .bool t1), (10, bp b12 0), (12, bp b20 0), (13, v13_e1), (14, v14_e1)] [OwnPt rep_ref07_Desc 40 v14_e1 j14_e1, OwnPt rep_desc_Desc 38 v13_e1 j13_e1, Box b20 [v16, .int .u32 a1], Own 55 ek_api_Cell v16 xs18, Own 55 ek_api_Cell u13_l t9p.l, Box b12 [u13_l, .int .u32 t9p.limit], F]) (fun _ => rfl) ?_ (m := k) (x := ((0, [], []), (.slice none 0 0, .slice none 0 0))) hlp1 ?_
  · clear h hlp1
    intro k x o_1 h hK1 ih1
    obtain ⟨⟨x15_1, x14_1, x13_1⟩, ⟨v14_1, v13_1⟩⟩ := x
    replace h : law07_DescSteps.l1 a2 t1 (k + 1) (x15_1, x14_1, x13_1) = some o_1 := h
    first | rw [law07_DescSteps.l1] at h | unfold law07_DescSteps.l1 at h
    refine S.seq ?_
    refine S.seq ?_
    refine S.region ?_
    refine SO.v rfl (opv_move rfl) ?_
    refine SO.v rfl (opv_move rfl) ?_
    refine SO.v rfl (opv_len2 rfl Try.underlying23 hF2 hl2 rfl) ?_
    refine SO.v rfl (opv_lss rfl rfl) ?_
    refine SO.nil ?_
    rcases bool_or (decide (x15_1 < (a2.length : Int))) with b21 | b21
    · replace h := cond_t b21 h
      refine S.condT rfl b21 ?_
      refine S.skip ?_
      refine S.seq ?_
      refine S.block ?_
      refine S.seq ?_
      refine S.seq ?_
      refine S.region ?_
      refine SO.v rfl (opv_move rfl) ?_
      refine SO.v rfl (opv_move rfl) ?_
      obtain ⟨x22, hx23, h⟩ := opt_bind h
      obtain ⟨y24, hy25, hr26⟩ := Rd2.at_ hl2 hR2 hx23
      refine SO.v rfl (opv_idx Try.underlying23 Try.sizeOf37 hF2 rfl rfl hy25) ?_
      refine SO.loadI1 (j := 0) rfl Try.isAgg37 (Rd.tail (Rd.tail (Rd.tail (Rd.tail (Rd.tail (Rd.tail (Rd.head hF2))))))) hy25 rfl rfl rfl rfl ?_
      refine SO.v rfl (opv_lenR rfl Try.underlying37 hr26 rfl) ?_
      refine SO.v rfl (opv_gtr rfl rfl) ?_
      refine SO.nil ?_
      refine S.to (ρ' := [(15, .int .i64 x15_1), (14, v14_1), (13, v13_1), (2, v2), (3, v3), (8, .bool false), (9, .bool t1), (10, bp b12 0), (12, bp b20 0), (74, .bool (decide (30 < (x22.length : Int))))]) ⟨rfl, rfl, rfl, rfl, rfl, rfl, rfl, rfl, rfl, rfl, trivial⟩ ?_
      rcases bool_or (decide (30 < (x22.length : Int))) with b27 | b27
      · replace h := cond_t b27 h
        refine S.condT rfl b27 ?_
        refine S.seq ?_
        refine S.region ?_
        refine SO.v rfl (opv_move rfl) ?_
        refine SO.v rfl (opv_assign rfl) ?_
        refine SO.nil ?_
        refine S.to (ρ' := [(8, .bool t1)]) ⟨rfl, trivial⟩ ?_
        cases h
        replace h := hK1.1 _ rfl
        cases h
        refine S.drop ?_
        refine S.drop ?_
        refine S.drop ?_
        refine S.drop ?_
        refine S.drop ?_
        refine S.drop ?_
        exact S.ret1 Try.func3 rfl rfl (fun w hs hk => hR w _ _ ⟨rfl, rfl⟩ hs hk)
      replace h := cond_f b27 h
      refine S.condF rfl b27 ?_
      refine S.skip ?_
      refine S.seq ?_
      refine S.region ?_
      refine SO.v rfl (opv_move rfl) ?_
      refine SO.v rfl (opv_add rfl rfl) ?_
      refine SO.v rfl (opv_move rfl) ?_
      refine SO.v rfl (opv_move rfl) ?_
      obtain ⟨x28, hx29, h⟩ := opt_bind h
      obtain ⟨y30, hy31, hr32⟩ := Rd2.at_ hl2 hR2 hx29
      refine SO.v rfl (opv_idx Try.underlying23 Try.sizeOf37 hF2 rfl rfl hy31) ?_
      refine SO.loadI1 (j := 0) rfl Try.isAgg37 (Rd.tail (Rd.tail (Rd.tail (Rd.tail (Rd.tail (Rd.tail (Rd.head hF2))))))) hy31 rfl rfl rfl rfl ?_
      obtain ⟨t33, ht34, h⟩ := opt_bind h
      refine SO.call (pre := []) rfl Try.call7 rfl rfl rfl (desc_New.ct y30.1 _ _ _ ht34) (Rd.tail (Rd.tail (Rd.tail (Rd.tail (Rd.tail (Rd.tail (Rd.head hr32))))))) ?_
      rintro _ _ ⟨b35, u36_l, rfl, rfl⟩
      refine SO.b1 ?_
      refine SO.rd fun hr37 => ?_
      refine SO.v rfl (opv_assign rfl) ?_
      refine SO.nil ?_
      refine S.to (ρ' := [(15, .int .i64 x15_1), (14, v14_1), (13, v13_1), (2, v2), (3, v3), (8, .bool false), (9, .bool t1), (10, bp b12 0), (12, bp b20 0), (16, bp b35 0)]) ⟨rfl, rfl, rfl, rfl, rfl, rfl, rfl, rfl, rfl, rfl, trivial⟩ ?_
      refine S.seq ?_
      refine S.seq ?_
      refine S.region ?_
      refine SO.v rfl (opv_move rfl) ?_
      refine SO.v rfl (opv_eqlP Try.underlying38 rfl) ?_
      refine SO.nil ?_
      refine S.cond_false rfl ?_
      refine S.skip ?_
      refine S.seq ?_
      refine S.region ?_
      refine SO.v rfl (opv_move rfl) ?_
      refine SO.v rfl (opv_move rfl) ?_
      refine SO.b1 ?_
      refine so_close_desc_Desc (t := t33) ?_
      refine SO.buildSlice (K := ekP) (xs := [b35]) (cs := [bp b35 0]) rfl Try.underlying35 Try.sizeOf38 Try.zeroValue38 rfl rfl rfl (by kernel_rfl) rfl rfl rfl (fun v38 hr39 => ?_)
      refine SO.packPt1 (R := rep_desc_Desc) (x := t33) ?_
      obtain ⟨zs40, hz41, h⟩ := opt_bind h
      refine SO.b1 ?_
      refine SO.b1 ?_
      refine SO.b1 ?_
      refine SO.appendPt rfl Try.underlying35 inf38 rfl rfl rfl (by decide) rfl rfl rfl hz41 (fun v42 => ?_)
      refine SO.v rfl (opv_assign rfl) ?_
      refine SO.nil ?_
      refine S.to (ρ' := [(15, .int .i64 x15_1), (14, v14_1), (13, v42), (2, v2), (3, v3), (8, .bool false), (9, .bool t1), (10, bp b12 0), (12, bp b20 0)]) ⟨rfl, rfl, rfl, rfl, rfl, rfl, rfl, rfl, rfl, trivial⟩ ?_
      refine S.region ?_
      refine SO.v rfl (opv_move rfl) ?_
      refine SO.v rfl (opv_move rfl) ?_
      refine SO.v rfl (opv_add rfl rfl) ?_
      refine SO.v rfl (opv_move rfl) ?_
      refine SO.v rfl (opv_move rfl) ?_
      obtain ⟨x43, hx44, h⟩ := opt_bind h
      obtain ⟨y45, hy46, hr47⟩ := Rd2.at_ hl2 hR2 hx44
      refine SO.v rfl (opv_idx Try.underlying23 Try.sizeOf37 hF2 rfl rfl hy46) ?_
      refine SO.loadI1 (j := 0) rfl Try.isAgg37 (Rd.tail (Rd.tail (Rd.tail (Rd.tail (Rd.tail (Rd.tail (Rd.head hF2))))))) hy46 rfl rfl rfl rfl ?_
      obtain ⟨t48, ht49, h⟩ := opt_bind h
      refine SO.call (pre := []) rfl Try.call8 rfl rfl rfl (law07_as.ct _ y45.1 _ _ ht49) (Rd.tail (Rd.tail (Rd.tail (Rd.tail (Rd.tail (Rd.tail (Rd.head hr47))))))) ?_
      rintro v50 _ ⟨_, rfl, rfl⟩
      refine SO.rd fun hr51 => ?_
      have hB_ : ∀ (w : World) (u0_ : Value), u0_.oneCell' = true → (Instr.build 44 #[(0, .int .i64 (w64 (x15_1 + 1))), (1, u0_)]).run Try.prog w = .ok (.agg #[.int .i64 (w64 (x15_1 + 1)), u0_, .int .i64 0, .int .i64 0]) w := (by intro w u0_ hu0_; cases u0_ <;> first | (simp [Value.oneCell'] at hu0_; done) | kernel_rfl)
      refine SO.v rfl (opv_build (v := .agg #[.int .i64 (w64 (x15_1 + 1)), v50, .int .i64 0, .int .i64 0]) rfl (fun w => hB_ w v50 (Rd.one hr51))) ?_
      clear hB_
      refine SO.box rfl rfl rfl (fun b52 => ?_)
      refine SO.b1 ?_
      refine SO.b1 ?_
      refine so_close_ref07_Desc (t := (⟨w64 (x15_1 + 1), t48, 0, 0⟩ : ref07_Desc)) ?_
      refine SO.buildSlice (K := ekP) (xs := [b52]) (cs := [bp b52 0]) rfl Try.underlying36 Try.sizeOf40 Try.zeroValue40 rfl rfl rfl (by kernel_rfl) rfl rfl rfl (fun v53 hr54 => ?_)
      refine SO.packPt1 (R := rep_ref07_Desc) (x := (⟨w64 (x15_1 + 1), t48, 0, 0⟩ : ref07_Desc)) ?_
      obtain ⟨zs55, hz56, h⟩ := opt_bind h
      refine SO.b2 ?_
      refine SO.b1 ?_
      refine SO.b1 ?_
      refine SO.appendPt rfl Try.underlying36 inf40 rfl rfl rfl (by decide) rfl rfl rfl hz56 (fun v57 => ?_)
      refine SO.v rfl (opv_assign rfl) ?_
      refine SO.nil ?_
      refine S.to (ρ' := [(15, .int .i64 x15_1), (14, v57), (13, v42), (2, v2), (3, v3), (8, .bool false), (9, .bool t1), (10, bp b12 0), (12, bp b20 0)]) ⟨rfl, rfl, rfl, rfl, rfl, rfl, rfl, rfl, rfl, trivial⟩ ?_
      refine S.inBlock ?_
      refine S.region ?_
      refine SO.v rfl (opv_move rfl) ?_
      refine SO.v rfl (opv_add rfl rfl) ?_
      refine SO.v rfl (opv_assign rfl) ?_
      refine SO.nil ?_
      refine S.b6 ?_
      refine S.b6 ?_
      refine S.b6 ?_
      refine S.b6 ?_
      refine S.b6 ?_
      refine S.b5 ?_
      refine S.b6 ?_
      refine S.to ?_ (ih1 ((w64 (x15_1 + 1), zs55, zs40), (v57, v42)) h)
      exact ⟨rfl, rfl, rfl, rfl, rfl, rfl, rfl, rfl, rfl, trivial⟩
    replace h := cond_f b21 h
    refine S.condF rfl b21 ?_
    refine S.exit rfl ?_
    cases h
    refine S.b6 ?_
    refine S.b6 ?_
    refine S.b6 ?_
    refine S.b6 ?_
    refine S.b6 ?_
    refine S.b5 ?_
    refine S.b6 ?_
    refine S.to ?_ (hK1.2 (x13_1, x14_1) (v13_1, v14_1) rfl)
    exact ⟨rfl, rfl, rfl, rfl, rfl, rfl, rfl, rfl, trivial⟩
  refine ⟨fun r' e' => ?_, ?_⟩
  · subst e'
    have h9 := Brk.of_ret h
    exact h9
  rintro ⟨j13_e1, j14_e1⟩ ⟨v13_e1, v14_e1⟩ e'
  subst e'
  replace h := Brk.of_nx h
  refine S.seq ?_
  refine S.seq ?_
  refine S.region ?_
  refine SO.v rfl (opv_assign rfl) ?_
  refine SO.nil ?_
  obtain ⟨o2, hlp2, h⟩ := opt_bind h
  refine S.b6 ?_
  refine S.b6 ?_
  refine S.b4 ?_
  refine S.b4 ?_
  refine S.b4 ?_
  refine S.b5 ?_
  refine S.b6 ?_
  refine S.to (ρ' := [(17, .int .i64 0), (2, v2), (3, v3), (8, .bool false), (9, .bool t1), (10, bp b12 0), (12, bp b20 0), (13, v13_e1), (14, v14_e1)]) ⟨rfl, rfl, rfl, rfl, rfl, rfl, rfl, rfl, rfl, trivial⟩ ?_
  refine S.forloop (X := (Int × (List api_Cell) × Int × (List api_Cell) × Int × (List desc_Desc) × (List ref07_Desc)) × (Value × Value)) (O := Brk Bool ((List api_Cell) × Int × (List api_Cell) × Int × (List ref07_Desc) × (List desc_Desc))) (fun m x => law07_DescSteps.l2 a2 a3 m x.1) (fun x => match x with | ((x17_2, y20_0_2, y20_1_2, y12_0_2, y12_1_2, qv13_e1_2, qv14_e1_2), (vy20_0_2, vy12_0_2)) => [(17, .int .i64 x17_2), (2, v2), (3, v3), (8, .bool false), (9, .bool t1), (10, bp b12 0), (12, bp b20 0), (13, v13_e1), (14, v14_e1)]) (fun x => match x with | ((x17_2, y20_0_2, y20_1_2, y12_0_2, y12_1_2, qv13_e1_2, qv14_e1_2), (vy20_0_2, vy12_0_2)) => [Own 55 ek_api_Cell vy12_0_2 y12_0_2, Own 55 ek_api_Cell vy20_0_2 y20_0_2, OwnPt rep_ref07_Desc 40 v14_e1 qv14_e1_2, OwnPt rep_desc_Desc 38 v13_e1 qv13_e1_2, Box b20 [vy20_0_2, .int .u32 y20_1_2], Box b12 [vy12_0_2, .int .u32 y12_1_2], F]) (fun Sk o' => (∀ r', o' = Brk.ret r' → some r' = some r0) ∧ ∀ j : ((List api_Cell) × Int × (List api_Cell) × Int × (List ref07_Desc) × (List desc_Desc)), match j with | (y20_0_e2, y20_1_e2, y12_0_e2, y12_1_e2, qv14_e1_e2, qv13_e1_e2) => ∀ g : (Value × Value), match g with | (vy20_0_e2, vy12_0_e2) => o' = Brk.nx (y20_0_e2, y20_1_e2, y12_0_e2, y12_1_e2, qv14_e1_e2, qv13_e1_e2) → Sk [(8, .bool false), (9, .bool t1)] [Own 55 ek_api_Cell vy12_0_e2 y12_0_e2, Own 55 ek_api_Cell vy20_0_e2 y20_0_e2, OwnPt rep_ref07_Desc 40 v14_e1 qv14_e1_e2, OwnPt rep_desc_Desc 38 v13_e1 qv13_e1_e2, Box b20 [vy20_0_e2, .int .u32 y20_1_e2], Box b12 [vy12_0_e2, .int .u32 y12_1_e2], F]) (fun _ => rfl) ?_ (m := k) (x := ((0, xs18, a1, t9p.l, t9p.limit, j13_e1, j14_e1), (v16, u13_l))) hlp2 ?_
  · clear h hlp2
    intro k x o_2 h hK2 ih2
    obtain ⟨⟨x17_2, y20_0_2, y20_1_2, y12_0_2, y12_1_2, qv13_e1_2, qv14_e1_2⟩, ⟨vy20_0_2, vy12_0_2⟩⟩ := x
    replace h : law07_DescSteps.l2 a2 a3 (k + 1) (x17_2, y20_0_2, y20_1_2, y12_0_2, y12_1_2, qv13_e1_2, qv14_e1_2) = some o_2 := h
    first | rw [law07_DescSteps.l2] at h | unfold law07_DescSteps.l2 at h
    refine S.rd fun hr58 => ?_
    refine S.b1 ?_
    refine S.rd fun hr59 => ?_
    refine S.seq ?_
    refine S.seq ?_
    refine S.region ?_
    refine SO.v rfl (opv_move rfl) ?_
    refine SO.v rfl (opv_move rfl) ?_
    refine SO.v rfl (opv_lenR rfl Try.underlying24 hF3 rfl) ?_
    refine SO.v rfl (opv_lss rfl rfl) ?_
    refine SO.nil ?_
    rcases bool_or (decide (x17_2 < (a3.length : Int))) with b60 | b60
    · replace h := cond_t b60 h
      refine S.condT rfl b60 ?_
      refine S.skip ?_
      refine S.seq ?_
      refine S.block ?_
      refine S.seq ?_
      refine S.region ?_
      refine SO.v rfl (opv_move rfl) ?_
      refine SO.v rfl (opv_move rfl) ?_
      obtain ⟨x61, hx62, h⟩ := opt_bind h
      refine SO.v rfl (opv_idx Try.underlying24 Try.sizeOf3 hF3 rfl rfl hx62) ?_
      refine SO.loadI1 (j := 0) rfl Try.isAgg3 (Rd.tail (Rd.tail (Rd.tail (Rd.tail (Rd.tail (Rd.tail (Rd.head hF3))))))) hx62 rfl rfl rfl rfl ?_
      refine SO.v rfl (opv_move rfl) ?_
      refine SO.v rfl (opv_len2 rfl Try.underlying23 hF2 hl2 rfl) ?_
      obtain ⟨_, hc63, h⟩ := opt_bind h
      refine SO.v rfl (opv_rem rfl rfl (of_decide_eq_true (chk_some hc63))) ?_
      refine SO.v rfl (opv_assign rfl) ?_
      refine SO.nil ?_
      refine S.to (ρ' := [(17, .int .i64 x17_2), (2, v2), (3, v3), (8, .bool false), (9, .bool t1), (10, bp b12 0), (12, bp b20 0), (13, v13_e1), (14, v14_e1), (18, .int .i64 (x61.tmod (a2.length : Int)))]) ⟨rfl, rfl, rfl, rfl, rfl, rfl, rfl, rfl, rfl, rfl, trivial⟩ ?_
      refine S.seq ?_
      refine S.seq ?_
      refine S.region ?_
      refine SO.v rfl (opv_move rfl) ?_
      refine SO.v rfl (opv_lss rfl rfl) ?_
      refine SO.nil ?_
      obtain ⟨j18_3, hC3, hJ3⟩ := opt_bind h
      clear h
      refine S.cutP (G := Unit) (fun _ => True) (fun _ => [(2, v2), (3, v3), (8, .bool false), (9, .bool t1), (10, bp b12 0), (12, bp b20 0), (13, v13_e1), (14, v14_e1), (17, .int .i64 x17_2), (18, .int .i64 j18_3)]) (fun _ => [Own 55 ek_api_Cell vy20_0_2 y20_0_2, Own 55 ek_api_Cell vy12_0_2 y12_0_2, OwnPt rep_ref07_Desc 40 v14_e1 qv14_e1_2, OwnPt rep_desc_Desc 38 v13_e1 qv13_e1_2, Box b20 [vy20_0_2, .int .u32 y20_1_2], Box b12 [vy12_0_2, .int .u32 y12_1_2], F]) (fun hk3 => ?_) ?_
      · replace h := hC3
        rcases bool_or (decide ((x61.tmod (a2.length : Int)) < 0)) with b64 | b64
        · replace h := cond_t b64 h
          refine S.condT rfl b64 ?_
          refine S.region ?_
          refine SO.v rfl (opv_move rfl) ?_
          refine SO.v rfl (opv_neg rfl) ?_
          refine SO.v rfl (opv_assign rfl) ?_
          refine SO.nil ?_
          cases h
          refine S.b6 ?_
          refine S.b6 ?_
          refine S.b6 ?_
          refine S.b6 ?_
          refine S.b6 ?_
          refine S.b6 ?_
          refine S.b6 ?_
          refine S.to ?_ (hk3 () trivial)
          exact ⟨rfl, rfl, rfl, rfl, rfl, rfl, rfl, rfl, rfl, rfl, trivial⟩
        replace h := cond_f b64 h
        refine S.condF rfl b64 ?_
        refine S.skip ?_
        cases h
        refine S.b6 ?_
        refine S.b6 ?_
        refine S.b6 ?_
        refine S.b6 ?_
        refine S.b6 ?_
        refine S.b6 ?_
        refine S.b6 ?_
        refine S.to ?_ (hk3 () trivial)
        exact ⟨rfl, rfl, rfl, rfl, rfl, rfl, rfl, rfl, rfl, rfl, trivial⟩
      rintro _ -
      replace h := hJ3
      refine S.seq ?_
      obtain ⟨x65, hx66, h⟩ := opt_bind h
      refine S.b3 ?_
      refine S.focus hx66 fun bs67 b68 hb69 hle70 hRp71 => ?_
      refine s_open_desc_Desc (fun g72_l => ?_)
      refine S.b1 ?_
      refine S.rd fun hr73 => ?_
      obtain ⟨x74, hx75, h⟩ := opt_bind h
      refine S.b5 ?_
      refine S.focus hx75 fun bs76 b77 hb78 hle79 hRp80 => ?_
      refine s_open_ref07_Desc (fun g81_L => ?_)
      refine S.b1 ?_
      refine S.rd fun hr82 => ?_
      obtain ⟨⟨j174_4, y77_0_4, y77_1_4, y77_2_4, y77_3_4, y68_0_4, y68_1_4, y68_2_4, y68_3_4, y20_0_4, y20_1_4, y12_0_4, y12_1_4⟩, hC4, hJ4⟩ := opt_bind h
      clear h
      refine S.cutP (G := (Value × Value × Value × Value)) (fun _ => True) (fun x => match x with | (vy77_1_4, vy68_1_4, vy20_0_4, vy12_0_4) => [(2, v2), (3, v3), (8, .bool false), (9, .bool t1), (10, bp b12 0), (12, bp b20 0), (13, v13_e1), (14, v14_e1), (17, .int .i64 x17_2), (174, .bool j174_4)]) (fun x => match x with | (vy77_1_4, vy68_1_4, vy20_0_4, vy12_0_4) => [Own 55 ek_api_Cell vy12_0_4 y12_0_4, Own 55 ek_api_Cell vy20_0_4 y20_0_4, Own 53 ek_tx_Entry vy68_1_4 y68_1_4, Own 66 ek_ref07_Entry vy77_1_4 y77_1_4, Box b77 [.int .i64 y77_0_4, vy77_1_4, .int .i64 y77_2_4, .int .i64 y77_3_4], OwnPH rep_ref07_Desc 40 v14_e1 bs76 qv14_e1_2 j18_3.toNat, Box b68 [.int .i64 y68_0_4, vy68_1_4, .int .i64 y68_2_4, .int .i64 y68_3_4], OwnPH rep_desc_Desc 38 v13_e1 bs67 qv13_e1_2 j18_3.toNat, Box b20 [vy20_0_4, .int .u32 y20_1_4], Box b12 [vy12_0_4, .int .u32 y12_1_4], F]) (fun hk4 => ?_) ?_
      · replace h := hC4
        obtain ⟨⟨t83, p84, p85⟩, ht86, h⟩ := opt_bind h
        obtain ⟨⟨t92, p93, p94⟩, ht95, h⟩ := opt_bind h
        rcases bool_or (t83 != t92) with b105 | b105
        · replace h := cond_t b105 h
          refine S.draw2 (Y := fun Q => ∃ (_ _ _ _ _ _ _ _ _ _ _ _ _ _ _ _ _ : Unit), Q [(13, v13_e1), (18, .int .i64 j18_3), (10, bp b12 0), (14, v14_e1), (12, bp b20 0), (2, v2), (3, v3), (8, .bool false), (9, .bool t1), (17, .int .i64 x17_2)] [Own 66 ek_ref07_Entry g81_L x74.L, Box b77 [.int .i64 x74.Mark, g81_L, .int .i64 x74.Status, .int .i64 x74.At], OwnPH rep_ref07_Desc 40 v14_e1 bs76 qv14_e1_2 j18_3.toNat, Own 53 ek_tx_Entry g72_l x65.l, Box b68 [.int .i64 x65.mark, g72_l, .int .i64 x65.status, .int .i64 x65.at_], OwnPH rep_desc_Desc 38 v13_e1 bs67 qv13_e1_2 j18_3.toNat, Own 55 ek_api_Cell vy20_0_2 y20_0_2, Own 55 ek_api_Cell vy12_0_2 y12_0_2, Box b20 [vy20_0_2, .int .u32 y20_1_2], Box b12 [vy12_0_2, .int .u32 y12_1_2], F]) (Z := fun Q => ∀ (_ _ _ _ _ _ : Unit) (g_6 : (Value × Value)) (g_7 : (Value × Value)) (_ _ _ : Unit), Q [(2, v2), (3, v3), (8, .bool false), (9, .bool t1), (17, .int .i64 x17_2), (10, bp b12 0), (12, bp b20 0), (13, v13_e1), (14, v14_e1), (174, .bool true), (129, .int .i64 t92), (123, .int .i64 t83)] [Own 55 ek_api_Cell g_6.1 p94.L, Own 66 ek_ref07_Entry g_6.2 p93.L, Box b77 [.int .i64 p93.Mark, g_6.2, .int .i64 p93.Status, .int .i64 p93.At], Box b20 [g_6.1, .int .u32 p94.Limit], Own 55 ek_api_Cell g_7.1 p85.l, Own 53 ek_tx_Entry g_7.2 p84.l, Box b68 [.int .i64 p84.mark, g_7.2, .int .i64 p84.status, .int .i64 p84.at_], Box b12 [g_7.1, .int .u32 p85.limit], OwnPH rep_ref07_Desc 40 v14_e1 bs76 qv14_e1_2 j18_3.toNat, OwnPH rep_desc_Desc 38 v13_e1 bs67 qv13_e1_2 j18_3.toNat, F]) (T := [tS 13 (v13_e1), tS 18 (.int .i64 j18_3), tS 10 (bp b12 0), tS 14 (v14_e1), tS 12 (bp b20 0), tE [(2, v2), (3, v3), (8, .bool false), (9, .bool t1), (17, .int .i64 x17_2)], tR (Own 66 ek_ref07_Entry g81_L x74.L), tR (Box b77 [.int .i64 x74.Mark, g81_L, .int .i64 x74.Status, .int .i64 x74.At]), tR (OwnPH rep_ref07_Desc 40 v14_e1 bs76 qv14_e1_2 j18_3.toNat), tR (Own 53 ek_tx_Entry g72_l x65.l), tR (Box b68 [.int .i64 x65.mark, g72_l, .int .i64 x65.status, .int .i64 x65.at_]), tR (OwnPH rep_desc_Desc 38 v13_e1 bs67 qv13_e1_2 j18_3.toNat), tR (Own 55 ek_api_Cell vy20_0_2 y20_0_2), tR (Own 55 ek_api_Cell vy12_0_2 y12_0_2), tR (Box b20 [vy20_0_2, .int .u32 y20_1_2]), tR (Box b12 [vy12_0_2, .int .u32 y12_1_2]), tR (F), tS 118 (v13_e1), tS 119 (.int .i64 j18_3), tS 120 (idxp v13_e1 (j18_3.toNat * ekP.sz)), tS 121 (bp b68 0), tS 122 (bp b12 0), ⟨(Value × Value), [123], (fun x => match x with | (u89_l, u87_l) => [(123, .int .i64 t83)]), (fun x => match x with | (u89_l, u87_l) => [Own 55 ek_api_Cell u89_l p85.l, Own 53 ek_tx_Entry u87_l p84.l, Box b68 [.int .i64 p84.mark, u87_l, .int .i64 p84.status, .int .i64 p84.at_], Box b12 [u89_l, .int .u32 p85.limit]]), fun _ => rfl⟩, tS 124 (v14_e1), tS 125 (.int .i64 j18_3), tS 126 (idxp v14_e1 (j18_3.toNat * ekP.sz)), tS 127 (bp b77 0), tS 128 (bp b20 0), ⟨(Value × Value), [129], (fun x => match x with | (u98_L, u96_L) => [(129, .int .i64 t92)]), (fun x => match x with | (u98_L, u96_L) => [Own 55 ek_api_Cell u98_L p94.L, Own 66 ek_ref07_Entry u96_L p93.L, Box b77 [.int .i64 p93.Mark, u96_L, .int .i64 p93.Status, .int .i64 p93.At], Box b20 [u98_L, .int .u32 p94.Limit]]), fun _ => rfl⟩, tS 130 (.bool (t83 != t92)), tS 131 (.bool (t83 != t92)), tS 132 (undef), tS 133 (undef), tS 134 (undef), tS 135 (undef), tS 136 (undef), tS 137 (undef), tS 138 (undef), tS 139 (undef), tS 140 (undef), tS 141 (undef), tS 142 (undef), tS 143 (undef), tS 144 (undef), tS 145 (.bool true), tS 146 (.bool true), tS 147 (undef), tS 148 (undef), tS 149 (undef), tS 150 (undef), tS 151 (undef), tS 152 (undef), tS 153 (undef), tS 154 (undef), tS 155 (undef), tS 156 (undef), tS 157 (undef), tS 158 (.bool true), tS 159 (.bool true), tS 160 (undef), tS 161 (undef), tS 162 (undef), tS 163 (undef), tS 164 (undef), tS 165 (undef), tS 166 (undef), tS 167 (undef), tS 168 (.bool true), tS 169 (.bool true), tS 170 (undef), tS 171 (undef), tS 172 (undef), tS 173 (undef), tS 174 (.bool true)]) (D := [⟨[0], [], [17]⟩, ⟨[1], [], [18]⟩, ⟨[17, 18, 11], [], [19]⟩, ⟨[19, 11], [], [20]⟩, ⟨[2], [], [21]⟩, ⟨[20, 21], [10, 9, 15, 13], [22]⟩, ⟨[3], [], [23]⟩, ⟨[1], [], [24]⟩, ⟨[23, 24, 8], [], [25]⟩, ⟨[25, 8], [], [26]⟩, ⟨[4], [], [27]⟩, ⟨[26, 27], [7, 6, 14, 12], [28]⟩, ⟨[22, 28], [], [29]⟩, ⟨[29], [], [30]⟩, ⟨[30], [], [31]⟩, ⟨[30], [], [32]⟩, ⟨[30], [], [33]⟩, ⟨[30], [], [34]⟩, ⟨[30], [], [35]⟩, ⟨[30], [], [36]⟩, ⟨[30], [], [37]⟩, ⟨[30], [], [38]⟩, ⟨[30], [], [39]⟩, ⟨[30], [], [40]⟩, ⟨[30], [], [41]⟩, ⟨[30], [], [42]⟩, ⟨[30], [], [43]⟩, ⟨[30, 43], [], [44]⟩, ⟨[44], [], [45]⟩, ⟨[45], [], [46]⟩, ⟨[45], [], [47]⟩, ⟨[45], [], [48]⟩, ⟨[45], [], [49]⟩, ⟨[45], [], [50]⟩, ⟨[45], [], [51]⟩, ⟨[45], [], [52]⟩, ⟨[45], [], [53]⟩, ⟨[45], [], [54]⟩, ⟨[45], [], [55]⟩, ⟨[45], [], [56]⟩, ⟨[45, 56], [], [57]⟩, ⟨[57], [], [58]⟩, ⟨[58], [], [59]⟩, ⟨[58], [], [60]⟩, ⟨[58], [], [61]⟩, ⟨[58], [], [62]⟩, ⟨[58], [], [63]⟩, ⟨[58], [], [64]⟩, ⟨[58], [], [65]⟩, ⟨[58], [], [66]⟩, ⟨[58, 66], [], [67]⟩, ⟨[67], [], [68]⟩, ⟨[68], [], [69]⟩, ⟨[68], [], [70]⟩, ⟨[68], [], [71]⟩, ⟨[68], [], [72]⟩, ⟨[68, 72], [], [73]⟩]) (ini := [0, 1, 2, 3, 4, 5, 6, 7, 8, 9, 10, 11, 12, 13, 14, 15, 16]) (fin := [5, 2, 4, 0, 3, 73, 28, 22, 8, 11, 16]) (bf := [[], [], [0, 1], [0, 1, 2], [], [0, 1, 2, 3, 4], [], [], [6, 7], [6, 7, 8], [], [0, 1, 2, 3, 4, 5, 6, 7, 8, 9, 10], [0, 1, 2, 3, 4, 5, 6, 7, 8, 9, 10, 11], [0, 1, 2, 3, 4, 5, 6, 7, 8, 9, 10, 11, 12], [0, 1, 2, 3, 4, 5, 6, 7, 8, 9, 10, 11, 12, 13], [0, 1, 2, 3, 4, 5, 6, 7, 8, 9, 10, 11, 12, 13], [0, 1, 2, 3, 4, 5, 6, 7, 8, 9, 10, 11, 12, 13, 14, 15], [0, 1, 2, 3, 4, 5, 6, 7, 8, 9, 10, 11, 12, 13, 14, 15, 16], [0, 1, 2, 3, 4, 5, 6, 7, 8, 9, 10, 11, 12, 13, 14, 15, 16, 17], [0, 1, 2, 3, 4, 5, 6, 7, 8, 9, 10, 11, 12, 13], [0, 1, 2, 3, 4, 5, 6, 7, 8, 9, 10, 11, 12, 13], [0, 1, 2, 3, 4, 5, 6, 7, 8, 9, 10, 11, 12, 13, 19, 20], [0, 1, 2, 3, 4, 5, 6, 7, 8, 9, 10, 11, 12, 13, 19, 20, 21], [0, 1, 2, 3, 4, 5, 6, 7, 8, 9, 10, 11, 12, 13, 19, 20, 21, 22], [0, 1, 2, 3, 4, 5, 6, 7, 8, 9, 10, 11, 12, 13, 19, 20, 21, 22, 23], [0, 1, 2, 3, 4, 5, 6, 7, 8, 9, 10, 11, 12, 13, 19, 20, 21, 22, 23, 24], [0, 1, 2, 3, 4, 5, 6, 7, 8, 9, 10, 11, 12, 13, 14, 15, 16, 17, 18, 19, 20, 21, 22, 23, 24, 25], [0, 1, 2, 3, 4, 5, 6, 7, 8, 9, 10, 11, 12, 13, 14, 15, 16, 17, 18, 19, 20, 21, 22, 23, 24, 25, 26], [0, 1, 2, 3, 4, 5, 6, 7, 8, 9, 10, 11, 12, 13, 14, 15, 16, 17, 18, 19, 20, 21, 22, 23, 24, 25, 26, 27], [0, 1, 2, 3, 4, 5, 6, 7, 8, 9, 10, 11, 12, 13, 14, 15, 16, 17, 18, 19, 20, 21, 22, 23, 24, 25, 26, 27, 28], [0, 1, 2, 3, 4, 5, 6, 7, 8, 9, 10, 11, 12, 13, 14, 15, 16, 17, 18, 19, 20, 21, 22, 23, 24, 25, 26, 27, 28], [0, 1, 2, 3, 4, 5, 6, 7, 8, 9, 10, 11, 12, 13, 14, 15, 16, 17, 18, 19, 20, 21, 22, 23, 24, 25, 26, 27, 28, 29, 30], [0, 1, 2, 3, 4, 5, 6, 7, 8, 9, 10, 11, 12, 13, 14, 15, 16, 17, 18, 19, 20, 21, 22, 23, 24, 25, 26, 27, 28, 29, 30, 31], [0, 1, 2, 3, 4, 5, 6, 7, 8, 9, 10, 11, 12, 13, 14, 15, 16, 17, 18, 19, 20, 21, 22, 23, 24, 25, 26, 27, 28, 29, 30, 31, 32], [0, 1, 2, 3, 4, 5, 6, 7, 8, 9, 10, 11, 12, 13, 14, 15, 16, 17, 18, 19, 20, 21, 22, 23, 24, 25, 26, 27, 28], [0, 1, 2, 3, 4, 5, 6, 7, 8, 9, 10, 11, 12, 13, 14, 15, 16, 17, 18, 19, 20, 21, 22, 23, 24, 25, 26, 27, 28], [0, 1, 2, 3, 4, 5, 6, 7, 8, 9, 10, 11, 12, 13, 14, 15, 16, 17, 18, 19, 20, 21, 22, 23, 24, 25, 26, 27, 28, 34, 35], [0, 1, 2, 3, 4, 5, 6, 7, 8, 9, 10, 11, 12, 13, 14, 15, 16, 17, 18, 19, 20, 21, 22, 23, 24, 25, 26, 27, 28, 34, 35, 36], [0, 1, 2, 3, 4, 5, 6, 7, 8, 9, 10, 11, 12, 13, 14, 15, 16, 17, 18, 19, 20, 21, 22, 23, 24, 25, 26, 27, 28, 29, 30, 31, 32, 33, 34, 35, 36, 37], [0, 1, 2, 3, 4, 5, 6, 7, 8, 9, 10, 11, 12, 13, 14, 15, 16, 17, 18, 19, 20, 21, 22, 23, 24, 25, 26, 27, 28, 29, 30, 31, 32, 33, 34, 35, 36, 37, 38], [0, 1, 2, 3, 4, 5, 6, 7, 8, 9, 10, 11, 12, 13, 14, 15, 16, 17, 18, 19, 20, 21, 22, 23, 24, 25, 26, 27, 28, 29, 30, 31, 32, 33, 34, 35, 36, 37, 38, 39], [0, 1, 2, 3, 4, 5, 6, 7, 8, 9, 10, 11, 12, 13, 14, 15, 16, 17, 18, 19, 20, 21, 22, 23, 24, 25, 26, 27, 28, 29, 30, 31, 32, 33, 34, 35, 36, 37, 38, 39, 40], [0, 1, 2, 3, 4, 5, 6, 7, 8, 9, 10, 11, 12, 13, 14, 15, 16, 17, 18, 19, 20, 21, 22, 23, 24, 25, 26, 27, 28, 29, 30, 31, 32, 33, 34, 35, 36, 37, 38, 39, 40, 41], [0, 1, 2, 3, 4, 5, 6, 7, 8, 9, 10, 11, 12, 13, 14, 15, 16, 17, 18, 19, 20, 21, 22, 23, 24, 25, 26, 27, 28, 29, 30, 31, 32, 33, 34, 35, 36, 37, 38, 39, 40, 41], [0, 1, 2, 3, 4, 5, 6, 7, 8, 9, 10, 11, 12, 13, 14, 15, 16, 17, 18, 19, 20, 21, 22, 23, 24, 25, 26, 27, 28, 29, 30, 31, 32, 33, 34, 35, 36, 37, 38, 39, 40, 41, 42, 43], [0, 1, 2, 3, 4, 5, 6, 7, 8, 9, 10, 11, 12, 13, 14, 15, 16, 17, 18, 19, 20, 21, 22, 23, 24, 25, 26, 27, 28, 29, 30, 31, 32, 33, 34, 35, 36, 37, 38, 39, 40, 41, 42, 43, 44], [0, 1, 2, 3, 4, 5, 6, 7, 8, 9, 10, 11, 12, 13, 14, 15, 16, 17, 18, 19, 20, 21, 22, 23, 24, 25, 26, 27, 28, 29, 30, 31, 32, 33, 34, 35, 36, 37, 38, 39, 40, 41, 42, 43, 44, 45], [0, 1, 2, 3, 4, 5, 6, 7, 8, 9, 10, 11, 12, 13, 14, 15, 16, 17, 18, 19, 20, 21, 22, 23, 24, 25, 26, 27, 28, 29, 30, 31, 32, 33, 34, 35, 36, 37, 38, 39, 40, 41], [0, 1, 2, 3, 4, 5, 6, 7, 8, 9, 10, 11, 12, 13, 14, 15, 16, 17, 18, 19, 20, 21, 22, 23, 24, 25, 26, 27, 28, 29, 30, 31, 32, 33, 34, 35, 36, 37, 38, 39, 40, 41, 47], [0, 1, 2, 3, 4, 5, 6, 7, 8, 9, 10, 11, 12, 13, 14, 15, 16, 17, 18, 19, 20, 21, 22, 23, 24, 25, 26, 27, 28, 29, 30, 31, 32, 33, 34, 35, 36, 37, 38, 39, 40, 41, 42, 43, 44, 45, 46, 47, 48], [0, 1, 2, 3, 4, 5, 6, 7, 8, 9, 10, 11, 12, 13, 14, 15, 16, 17, 18, 19, 20, 21, 22, 23, 24, 25, 26, 27, 28, 29, 30, 31, 32, 33, 34, 35, 36, 37, 38, 39, 40, 41, 42, 43, 44, 45, 46, 47, 48, 49], [0, 1, 2, 3, 4, 5, 6, 7, 8, 9, 10, 11, 12, 13, 14, 15, 16, 17, 18, 19, 20, 21, 22, 23, 24, 25, 26, 27, 28, 29, 30, 31, 32, 33, 34, 35, 36, 37, 38, 39, 40, 41, 42, 43, 44, 45, 46, 47, 48, 49, 50], [0, 1, 2, 3, 4, 5, 6, 7, 8, 9, 10, 11, 12, 13, 14, 15, 16, 17, 18, 19, 20, 21, 22, 23, 24, 25, 26, 27, 28, 29, 30, 31, 32, 33, 34, 35, 36, 37, 38, 39, 40, 41, 42, 43, 44, 45, 46, 47, 48, 49, 50, 51], [0, 1, 2, 3, 4, 5, 6, 7, 8, 9, 10, 11, 12, 13, 14, 15, 16, 17, 18, 19, 20, 21, 22, 23, 24, 25, 26, 27, 28, 29, 30, 31, 32, 33, 34, 35, 36, 37, 38, 39, 40, 41, 42, 43, 44, 45, 46, 47, 48, 49, 50, 51], [0, 1, 2, 3, 4, 5, 6, 7, 8, 9, 10, 11, 12, 13, 14, 15, 16, 17, 18, 19, 20, 21, 22, 23, 24, 25, 26, 27, 28, 29, 30, 31, 32, 33, 34, 35, 36, 37, 38, 39, 40, 41, 42, 43, 44, 45, 46, 47, 48, 49, 50, 51, 52, 53], [0, 1, 2, 3, 4, 5, 6, 7, 8, 9, 10, 11, 12, 13, 14, 15, 16, 17, 18, 19, 20, 21, 22, 23, 24, 25, 26, 27, 28, 29, 30, 31, 32, 33, 34, 35, 36, 37, 38, 39, 40, 41, 42, 43, 44, 45, 46, 47, 48, 49, 50, 51, 52, 53, 54], [0, 1, 2, 3, 4, 5, 6, 7, 8, 9, 10, 11, 12, 13, 14, 15, 16, 17, 18, 19, 20, 21, 22, 23, 24, 25, 26, 27, 28, 29, 30, 31, 32, 33, 34, 35, 36, 37, 38, 39, 40, 41, 42, 43, 44, 45, 46, 47, 48, 49, 50, 51, 52, 53, 54, 55]]) (by kernel_rfl) (by kernel_rfl) (fun Q => by kernel_rfl) (fun x w h1 h2 => ⟨(), (), (), (), (), (), (), (), (), (), (), (), (), (), (), (), (), EnvAll.of h1 ⟨rfl, rfl, rfl, rfl, rfl, rfl, rfl, rfl, rfl, rfl, trivial⟩, h2⟩) (fun Q => by kernel_rfl) ⟨?_, ?_, ?_, ?_, ?_, ?_, ?_, ?_, ?_, ?_, ?_, ?_, ?_, ?_, ?_, ?_, ?_, ?_, ?_, ?_, ?_, ?_, ?_, ?_, ?_, ?_, ?_, ?_, ?_, ?_, ?_, ?_, ?_, ?_, ?_, ?_, ?_, ?_, ?_, ?_, ?_, ?_, ?_, ?_, ?_, ?_, ?_, ?_, ?_, ?_, ?_, ?_, ?_, ?_, ?_, ?_, ?_, trivial⟩ ?_
          · rintro Fr _
            refine SO.v rfl (opv_move rfl) ?_
            exact SO.nilZ fun a w h1 h2 h3 h4 h5 => PZ.of h1 h3 h5 (.cons () (.cons () (.nil ⟨EnvAll.of h2 ⟨rfl, rfl, trivial⟩, h4⟩)))
          · rintro Fr _
            refine SO.v rfl (opv_move rfl) ?_
            exact SO.nilZ fun a w h1 h2 h3 h4 h5 => PZ.of h1 h3 h5 (.cons () (.cons () (.nil ⟨EnvAll.of h2 ⟨rfl, rfl, trivial⟩, h4⟩)))
          · rintro Fr _ _ _
            refine SO.v rfl (opv_idx (K := ekP) Try.underlying35 Try.sizeOf38 hRp71 rfl rfl hb69) ?_
            exact SO.nilZ fun a w h1 h2 h3 h4 h5 => PZ.of h1 h3 h5 (.cons () (.cons () (.cons () (.cons () (.nil ⟨EnvAll.of h2 ⟨rfl, rfl, rfl, trivial⟩, h4⟩)))))
          · rintro Fr _ _
            refine SO.loadI1 (j := 0) (K := ekP) rfl Try.isAgg38 (Rd.head hRp71) hb69 rfl rfl rfl rfl ?_
            exact SO.nilZ fun a w h1 h2 h3 h4 h5 => PZ.of h1 h3 h5 (.cons () (.cons () (.cons () (.nil ⟨EnvAll.of h2 ⟨rfl, rfl, trivial⟩, h4⟩))))
          · rintro Fr _
            refine SO.v rfl (opv_move rfl) ?_
            exact SO.nilZ fun a w h1 h2 h3 h4 h5 => PZ.of h1 h3 h5 (.cons () (.cons () (.nil ⟨EnvAll.of h2 ⟨rfl, rfl, trivial⟩, h4⟩)))
          · refine spec2 (X := fun Q => ∀ (_ _ _ _ _ _ : Unit), Q [(121, bp b68 0), (122, bp b12 0)] [Box b68 [.int .i64 x65.mark, g72_l, .int .i64 x65.status, .int .i64 x65.at_], Own 53 ek_tx_Entry g72_l x65.l, Box b12 [vy12_0_2, .int .u32 y12_1_2], Own 55 ek_api_Cell vy12_0_2 y12_0_2]) (fun Q => by kernel_rfl) ?_
            rintro Fr _ _ _ _ _ _
            refine SO.b3 ?_
            refine SO.b3 ?_
            refine SO.b3 ?_
            refine SO.b3 ?_
            have ct91 := desc_Desc_Step.ct b68 g72_l b12 vy12_0_2 _ _ _ _ _ ht86
            try dsimp only at ct91
            refine SO.call (pre := [Box _ _, Own _ _ _ _, Box _ _, Own _ _ _ _]) rfl Try.call9 rfl rfl rfl ct91 trivial ?_
            rintro _ _ ⟨u87_l, u89_l, rfl, rfl⟩
            refine SO.b1 ?_
            refine SO.rd fun hr88 => ?_
            refine SO.b3 ?_
            refine SO.rd fun hr90 => ?_
            refine SO.b3 ?_
            refine SO.b3 ?_
            refine SO.b3 ?_
            refine SO.b3 ?_
            exact SO.nilZ fun a w h1 h2 h3 h4 h5 => PZ.of h1 h3 h5 (.cons () (.cons () (.cons (u89_l, u87_l) (.nil ⟨EnvAll.of h2 ⟨rfl, rfl, rfl, trivial⟩, h4⟩))))
          · rintro Fr _
            refine SO.v rfl (opv_move rfl) ?_
            exact SO.nilZ fun a w h1 h2 h3 h4 h5 => PZ.of h1 h3 h5 (.cons () (.cons () (.nil ⟨EnvAll.of h2 ⟨rfl, rfl, trivial⟩, h4⟩)))
          · rintro Fr _
            refine SO.v rfl (opv_move rfl) ?_
            exact SO.nilZ fun a w h1 h2 h3 h4 h5 => PZ.of h1 h3 h5 (.cons () (.cons () (.nil ⟨EnvAll.of h2 ⟨rfl, rfl, trivial⟩, h4⟩)))
          · rintro Fr _ _ _
            refine SO.v rfl (opv_idx (K := ekP) Try.underlying36 Try.sizeOf40 hRp80 rfl rfl hb78) ?_
            exact SO.nilZ fun a w h1 h2 h3 h4 h5 => PZ.of h1 h3 h5 (.cons () (.cons () (.cons () (.cons () (.nil ⟨EnvAll.of h2 ⟨rfl, rfl, rfl, trivial⟩, h4⟩)))))
          · rintro Fr _ _
            refine SO.loadI1 (j := 0) (K := ekP) rfl Try.isAgg40 (Rd.head hRp80) hb78 rfl rfl rfl rfl ?_
            exact SO.nilZ fun a w h1 h2 h3 h4 h5 => PZ.of h1 h3 h5 (.cons () (.cons () (.cons () (.nil ⟨EnvAll.of h2 ⟨rfl, rfl, trivial⟩, h4⟩))))
          · rintro Fr _
            refine SO.v rfl (opv_move rfl) ?_
            exact SO.nilZ fun a w h1 h2 h3 h4 h5 => PZ.of h1 h3 h5 (.cons () (.cons () (.nil ⟨EnvAll.of h2 ⟨rfl, rfl, trivial⟩, h4⟩)))
          · refine spec2 (X := fun Q => ∀ (_ _ _ _ _ _ : Unit), Q [(127, bp b77 0), (128, bp b20 0)] [Box b77 [.int .i64 x74.Mark, g81_L, .int .i64 x74.Status, .int .i64 x74.At], Own 66 ek_ref07_Entry g81_L x74.L, Box b20 [vy20_0_2, .int .u32 y20_1_2], Own 55 ek_api_Cell vy20_0_2 y20_0_2]) (fun Q => by kernel_rfl) ?_
            rintro Fr _ _ _ _ _ _
            refine SO.b3 ?_
            refine SO.b3 ?_
            refine SO.b3 ?_
            refine SO.b3 ?_
            have ct100 := ref07_Desc_Step.ct b77 g81_L b20 vy20_0_2 _ _ _ _ _ ht95
            try dsimp only at ct100
            refine SO.call (pre := [Box _ _, Own _ _ _ _, Box _ _, Own _ _ _ _]) rfl Try.call10 rfl rfl rfl ct100 trivial ?_
            rintro _ _ ⟨u96_L, u98_L, rfl, rfl⟩
            refine SO.b1 ?_
            refine SO.rd fun hr97 => ?_
            refine SO.b3 ?_
            refine SO.rd fun hr99 => ?_
            refine SO.b3 ?_
            refine SO.b3 ?_
            refine SO.b3 ?_
            refine SO.b3 ?_
            exact SO.nilZ fun a w h1 h2 h3 h4 h5 => PZ.of h1 h3 h5 (.cons () (.cons () (.cons (u98_L, u96_L) (.nil ⟨EnvAll.of h2 ⟨rfl, rfl, rfl, trivial⟩, h4⟩))))
          · rintro Fr ⟨u89_l, u87_l⟩ ⟨u98_L, u96_L⟩
            refine SO.rd fun hr101 => ?_
            refine SO.b1 ?_
            refine SO.rd fun hr102 => ?_
            refine SO.b4 ?_
            refine SO.rd fun hr103 => ?_
            refine SO.b5 ?_
            refine SO.rd fun hr104 => ?_
            refine SO.v rfl (opv_neq rfl rfl) ?_
            refine SO.b7 ?_
            refine SO.b7 ?_
            refine SO.b2 ?_
            refine SO.b3 ?_
            refine SO.b7 ?_
            refine SO.b7 ?_
            refine SO.b6 ?_
            refine SO.b7 ?_
            exact SO.nilZ fun a w h1 h2 h3 h4 h5 => PZ.of h1 h3 h5 (.cons (u89_l, u87_l) (.cons (u98_L, u96_L) (.cons () (.nil ⟨EnvAll.of h2 ⟨rfl, rfl, rfl, trivial⟩, h4⟩))))
          · rintro Fr _
            refine SO.v rfl (opv_move rfl) ?_
            exact SO.nilZ fun a w h1 h2 h3 h4 h5 => PZ.of h1 h3 h5 (.cons () (.cons () (.nil ⟨EnvAll.of h2 ⟨rfl, rfl, trivial⟩, h4⟩)))
          · rintro Fr _
            refine SO.passF rfl rfl rfl b105 rfl rfl ?_
            exact SO.nilZ fun a w h1 h2 h3 h4 h5 => PZ.of h1 h3 h5 (.cons () (.cons () (.nil ⟨EnvAll.of h2 ⟨rfl, rfl, trivial⟩, h4⟩)))
          · rintro Fr _
            refine SO.passF rfl rfl rfl b105 rfl rfl ?_
            exact SO.nilZ fun a w h1 h2 h3 h4 h5 => PZ.of h1 h3 h5 (.cons () (.cons () (.nil ⟨EnvAll.of h2 ⟨rfl, rfl, trivial⟩, h4⟩)))
          · rintro Fr _
            refine SO.passF rfl rfl rfl b105 rfl rfl ?_
            exact SO.nilZ fun a w h1 h2 h3 h4 h5 => PZ.of h1 h3 h5 (.cons () (.cons () (.nil ⟨EnvAll.of h2 ⟨rfl, rfl, trivial⟩, h4⟩)))
          · rintro Fr _
            refine SO.passF rfl rfl rfl b105 rfl rfl ?_
            exact SO.nilZ fun a w h1 h2 h3 h4 h5 => PZ.of h1 h3 h5 (.cons () (.cons () (.nil ⟨EnvAll.of h2 ⟨rfl, rfl, trivial⟩, h4⟩)))
          · rintro Fr _
            refine SO.passF rfl rfl rfl b105 rfl rfl ?_
            exact SO.nilZ fun a w h1 h2 h3 h4 h5 => PZ.of h1 h3 h5 (.cons () (.cons () (.nil ⟨EnvAll.of h2 ⟨rfl, rfl, trivial⟩, h4⟩)))
          · rintro Fr _
            refine SO.passF rfl rfl rfl b105 rfl rfl ?_
            exact SO.nilZ fun a w h1 h2 h3 h4 h5 => PZ.of h1 h3 h5 (.cons () (.cons () (.nil ⟨EnvAll.of h2 ⟨rfl, rfl, trivial⟩, h4⟩)))
          · rintro Fr _
            refine SO.passF rfl rfl rfl b105 rfl rfl ?_
            exact SO.nilZ fun a w h1 h2 h3 h4 h5 => PZ.of h1 h3 h5 (.cons () (.cons () (.nil ⟨EnvAll.of h2 ⟨rfl, rfl, trivial⟩, h4⟩)))
          · rintro Fr _
            refine SO.passF rfl rfl rfl b105 rfl rfl ?_
            exact SO.nilZ fun a w h1 h2 h3 h4 h5 => PZ.of h1 h3 h5 (.cons () (.cons () (.nil ⟨EnvAll.of h2 ⟨rfl, rfl, trivial⟩, h4⟩)))
          · rintro Fr _
            refine SO.passF rfl rfl rfl b105 rfl rfl ?_
            exact SO.nilZ fun a w h1 h2 h3 h4 h5 => PZ.of h1 h3 h5 (.cons () (.cons () (.nil ⟨EnvAll.of h2 ⟨rfl, rfl, trivial⟩, h4⟩)))
          · rintro Fr _
            refine SO.passF rfl rfl rfl b105 rfl rfl ?_
            exact SO.nilZ fun a w h1 h2 h3 h4 h5 => PZ.of h1 h3 h5 (.cons () (.cons () (.nil ⟨EnvAll.of h2 ⟨rfl, rfl, trivial⟩, h4⟩)))
          · rintro Fr _
            refine SO.passF rfl rfl rfl b105 rfl rfl ?_
            exact SO.nilZ fun a w h1 h2 h3 h4 h5 => PZ.of h1 h3 h5 (.cons () (.cons () (.nil ⟨EnvAll.of h2 ⟨rfl, rfl, trivial⟩, h4⟩)))
          · rintro Fr _
            refine SO.passF rfl rfl rfl b105 rfl rfl ?_
            exact SO.nilZ fun a w h1 h2 h3 h4 h5 => PZ.of h1 h3 h5 (.cons () (.cons () (.nil ⟨EnvAll.of h2 ⟨rfl, rfl, trivial⟩, h4⟩)))
          · rintro Fr _
            refine SO.passF rfl rfl rfl b105 rfl rfl ?_
            exact SO.nilZ fun a w h1 h2 h3 h4 h5 => PZ.of h1 h3 h5 (.cons () (.cons () (.nil ⟨EnvAll.of h2 ⟨rfl, rfl, trivial⟩, h4⟩)))
          · rintro Fr _ _
            refine SO.v rfl (opv_pick_t' b105 rfl rfl) ?_
            exact SO.nilZ fun a w h1 h2 h3 h4 h5 => PZ.of h1 h3 h5 (.cons () (.cons () (.cons () (.nil ⟨EnvAll.of h2 ⟨rfl, rfl, rfl, trivial⟩, h4⟩))))
          · rintro Fr _
            refine SO.v rfl (opv_move rfl) ?_
            exact SO.nilZ fun a w h1 h2 h3 h4 h5 => PZ.of h1 h3 h5 (.cons () (.cons () (.nil ⟨EnvAll.of h2 ⟨rfl, rfl, trivial⟩, h4⟩)))
          · rintro Fr _
            refine SO.passF rfl rfl rfl rfl rfl rfl ?_
            exact SO.nilZ fun a w h1 h2 h3 h4 h5 => PZ.of h1 h3 h5 (.cons () (.cons () (.nil ⟨EnvAll.of h2 ⟨rfl, rfl, trivial⟩, h4⟩)))
          · rintro Fr _
            refine SO.passF rfl rfl rfl rfl rfl rfl ?_
            exact SO.nilZ fun a w h1 h2 h3 h4 h5 => PZ.of h1 h3 h5 (.cons () (.cons () (.nil ⟨EnvAll.of h2 ⟨rfl, rfl, trivial⟩, h4⟩)))
          · rintro Fr _
            refine SO.passF rfl rfl rfl rfl rfl rfl ?_
            exact SO.nilZ fun a w h1 h2 h3 h4 h5 => PZ.of h1 h3 h5 (.cons () (.cons () (.nil ⟨EnvAll.of h2 ⟨rfl, rfl, trivial⟩, h4⟩)))
          · rintro Fr _
            refine SO.passF rfl rfl rfl rfl rfl rfl ?_
            exact SO.nilZ fun a w h1 h2 h3 h4 h5 => PZ.of h1 h3 h5 (.cons () (.cons () (.nil ⟨EnvAll.of h2 ⟨rfl, rfl, trivial⟩, h4⟩)))
          · rintro Fr _
            refine SO.passF rfl rfl rfl rfl rfl rfl ?_
            exact SO.nilZ fun a w h1 h2 h3 h4 h5 => PZ.of h1 h3 h5 (.cons () (.cons () (.nil ⟨EnvAll.of h2 ⟨rfl, rfl, trivial⟩, h4⟩)))
          · rintro Fr _
            refine SO.passF rfl rfl rfl rfl rfl rfl ?_
            exact SO.nilZ fun a w h1 h2 h3 h4 h5 => PZ.of h1 h3 h5 (.cons () (.cons () (.nil ⟨EnvAll.of h2 ⟨rfl, rfl, trivial⟩, h4⟩)))
          · rintro Fr _
            refine SO.passF rfl rfl rfl rfl rfl rfl ?_
            exact SO.nilZ fun a w h1 h2 h3 h4 h5 => PZ.of h1 h3 h5 (.cons () (.cons () (.nil ⟨EnvAll.of h2 ⟨rfl, rfl, trivial⟩, h4⟩)))
          · rintro Fr _
            refine SO.passF rfl rfl rfl rfl rfl rfl ?_
            exact SO.nilZ fun a w h1 h2 h3 h4 h5 => PZ.of h1 h3 h5 (.cons () (.cons () (.nil ⟨EnvAll.of h2 ⟨rfl, rfl, trivial⟩, h4⟩)))
          · rintro Fr _
            refine SO.passF rfl rfl rfl rfl rfl rfl ?_
            exact SO.nilZ fun a w h1 h2 h3 h4 h5 => PZ.of h1 h3 h5 (.cons () (.cons () (.nil ⟨EnvAll.of h2 ⟨rfl, rfl, trivial⟩, h4⟩)))
          · rintro Fr _
            refine SO.passF rfl rfl rfl rfl rfl rfl ?_
            exact SO.nilZ fun a w h1 h2 h3 h4 h5 => PZ.of h1 h3 h5 (.cons () (.cons () (.nil ⟨EnvAll.of h2 ⟨rfl, rfl, trivial⟩, h4⟩)))
          · rintro Fr _
            refine SO.passF rfl rfl rfl rfl rfl rfl ?_
            exact SO.nilZ fun a w h1 h2 h3 h4 h5 => PZ.of h1 h3 h5 (.cons () (.cons () (.nil ⟨EnvAll.of h2 ⟨rfl, rfl, trivial⟩, h4⟩)))
          · rintro Fr _ _
            refine SO.v rfl (opv_pick_tt rfl rfl) ?_
            exact SO.nilZ fun a w h1 h2 h3 h4 h5 => PZ.of h1 h3 h5 (.cons () (.cons () (.cons () (.nil ⟨EnvAll.of h2 ⟨rfl, rfl, rfl, trivial⟩, h4⟩))))
          · rintro Fr _
            refine SO.v rfl (opv_move rfl) ?_
            exact SO.nilZ fun a w h1 h2 h3 h4 h5 => PZ.of h1 h3 h5 (.cons () (.cons () (.nil ⟨EnvAll.of h2 ⟨rfl, rfl, trivial⟩, h4⟩)))
          · rintro Fr _
            refine SO.passF rfl rfl rfl rfl rfl rfl ?_
            exact SO.nilZ fun a w h1 h2 h3 h4 h5 => PZ.of h1 h3 h5 (.cons () (.cons () (.nil ⟨EnvAll.of h2 ⟨rfl, rfl, trivial⟩, h4⟩)))
          · rintro Fr _
            refine SO.passF rfl rfl rfl rfl rfl rfl ?_
            exact SO.nilZ fun a w h1 h2 h3 h4 h5 => PZ.of h1 h3 h5 (.cons () (.cons () (.nil ⟨EnvAll.of h2 ⟨rfl, rfl, trivial⟩, h4⟩)))
          · rintro Fr _
            refine SO.passF rfl rfl rfl rfl rfl rfl ?_
            exact SO.nilZ fun a w h1 h2 h3 h4 h5 => PZ.of h1 h3 h5 (.cons () (.cons () (.nil ⟨EnvAll.of h2 ⟨rfl, rfl, trivial⟩, h4⟩)))
          · rintro Fr _
            refine SO.passF rfl rfl rfl rfl rfl rfl ?_
            exact SO.nilZ fun a w h1 h2 h3 h4 h5 => PZ.of h1 h3 h5 (.cons () (.cons () (.nil ⟨EnvAll.of h2 ⟨rfl, rfl, trivial⟩, h4⟩)))
          · rintro Fr _
            refine SO.passF rfl rfl rfl rfl rfl rfl ?_
            exact SO.nilZ fun a w h1 h2 h3 h4 h5 => PZ.of h1 h3 h5 (.cons () (.cons () (.nil ⟨EnvAll.of h2 ⟨rfl, rfl, trivial⟩, h4⟩)))
          · rintro Fr _
            refine SO.passF rfl rfl rfl rfl rfl rfl ?_
            exact SO.nilZ fun a w h1 h2 h3 h4 h5 => PZ.of h1 h3 h5 (.cons () (.cons () (.nil ⟨EnvAll.of h2 ⟨rfl, rfl, trivial⟩, h4⟩)))
          · rintro Fr _
            refine SO.passF rfl rfl rfl rfl rfl rfl ?_
            exact SO.nilZ fun a w h1 h2 h3 h4 h5 => PZ.of h1 h3 h5 (.cons () (.cons () (.nil ⟨EnvAll.of h2 ⟨rfl, rfl, trivial⟩, h4⟩)))
          · rintro Fr _
            refine SO.passF rfl rfl rfl rfl rfl rfl ?_
            exact SO.nilZ fun a w h1 h2 h3 h4 h5 => PZ.of h1 h3 h5 (.cons () (.cons () (.nil ⟨EnvAll.of h2 ⟨rfl, rfl, trivial⟩, h4⟩)))
          · rintro Fr _ _
            refine SO.v rfl (opv_pick_tt rfl rfl) ?_
            exact SO.nilZ fun a w h1 h2 h3 h4 h5 => PZ.of h1 h3 h5 (.cons () (.cons () (.cons () (.nil ⟨EnvAll.of h2 ⟨rfl, rfl, rfl, trivial⟩, h4⟩))))
          · rintro Fr _
            refine SO.v rfl (opv_move rfl) ?_
            exact SO.nilZ fun a w h1 h2 h3 h4 h5 => PZ.of h1 h3 h5 (.cons () (.cons () (.nil ⟨EnvAll.of h2 ⟨rfl, rfl, trivial⟩, h4⟩)))
          · rintro Fr _
            refine SO.passF rfl rfl rfl rfl rfl rfl ?_
            exact SO.nilZ fun a w h1 h2 h3 h4 h5 => PZ.of h1 h3 h5 (.cons () (.cons () (.nil ⟨EnvAll.of h2 ⟨rfl, rfl, trivial⟩, h4⟩)))
          · rintro Fr _
            refine SO.passF rfl rfl rfl rfl rfl rfl ?_
            exact SO.nilZ fun a w h1 h2 h3 h4 h5 => PZ.of h1 h3 h5 (.cons () (.cons () (.nil ⟨EnvAll.of h2 ⟨rfl, rfl, trivial⟩, h4⟩)))
          · rintro Fr _
            refine SO.passF rfl rfl rfl rfl rfl rfl ?_
            exact SO.nilZ fun a w h1 h2 h3 h4 h5 => PZ.of h1 h3 h5 (.cons () (.cons () (.nil ⟨EnvAll.of h2 ⟨rfl, rfl, trivial⟩, h4⟩)))
          · rintro Fr _
            refine SO.passF rfl rfl rfl rfl rfl rfl ?_
            exact SO.nilZ fun a w h1 h2 h3 h4 h5 => PZ.of h1 h3 h5 (.cons () (.cons () (.nil ⟨EnvAll.of h2 ⟨rfl, rfl, trivial⟩, h4⟩)))
          · rintro Fr _ _
            refine SO.v rfl (opv_pick_tt rfl rfl) ?_
            exact SO.nilZ fun a w h1 h2 h3 h4 h5 => PZ.of h1 h3 h5 (.cons () (.cons () (.cons () (.nil ⟨EnvAll.of h2 ⟨rfl, rfl, rfl, trivial⟩, h4⟩))))
          rintro _ _ _ _ _ _ ⟨u98_L, u96_L⟩ ⟨u89_l, u87_l⟩ _ _ _
          refine S.to (ρ' := [(2, v2), (3, v3), (8, .bool false), (9, .bool t1), (17, .int .i64 x17_2), (10, bp b12 0), (12, bp b20 0), (13, v13_e1), (14, v14_e1), (174, .bool true)]) ⟨rfl, rfl, rfl, rfl, rfl, rfl, rfl, rfl, rfl, rfl, trivial⟩ ?_
          refine S.rd fun hr106 => ?_
          refine S.b1 ?_
          refine S.rd fun hr107 => ?_
          refine S.b4 ?_
          refine S.rd fun hr108 => ?_
          refine S.b5 ?_
          refine S.rd fun hr109 => ?_
          cases h
          refine S.b10 ?_
          refine S.b8 ?_
          refine S.b7 ?_
          refine S.b10 ?_
          refine S.b9 ?_
          refine S.b10 ?_
          refine S.b10 ?_
          refine S.b9 ?_
          refine S.b8 ?_
          refine S.b10 ?_
          refine S.b10 ?_
          refine S.to ?_ (hk4 (u96_L, u87_l, u98_L, u89_l) trivial)
          exact ⟨rfl, rfl, rfl, rfl, rfl, rfl, rfl, rfl, rfl, rfl, trivial⟩
        replace h := cond_f b105 h
        obtain ⟨t112, ht113, h⟩ := opt_bind h
        rcases bool_or (t112 != p93.Status) with b116 | b116
        · replace h := cond_t b116 h
          refine S.draw2 (Y := fun Q => ∃ (_ _ _ _ _ _ _ _ _ _ _ _ _ _ _ _ _ : Unit), Q [(13, v13_e1), (18, .int .i64 j18_3), (10, bp b12 0), (14, v14_e1), (12, bp b20 0), (2, v2), (3, v3), (8, .bool false), (9, .bool t1), (17, .int .i64 x17_2)] [Own 66 ek_ref07_Entry g81_L x74.L, Box b77 [.int .i64 x74.Mark, g81_L, .int .i64 x74.Status, .int .i64 x74.At], OwnPH rep_ref07_Desc 40 v14_e1 bs76 qv14_e1_2 j18_3.toNat, Own 53 ek_tx_Entry g72_l x65.l, Box b68 [.int .i64 x65.mark, g72_l, .int .i64 x65.status, .int .i64 x65.at_], OwnPH rep_desc_Desc 38 v13_e1 bs67 qv13_e1_2 j18_3.toNat, Own 55 ek_api_Cell vy20_0_2 y20_0_2, Own 55 ek_api_Cell vy12_0_2 y12_0_2, Box b20 [vy20_0_2, .int .u32 y20_1_2], Box b12 [vy12_0_2, .int .u32 y12_1_2], F]) (Z := fun Q => ∀ (_ _ _ _ _ _ : Unit) (g_6 : (Value × Value)) (g_7 : (Value × Value)) (_ _ _ : Unit), Q [(2, v2), (3, v3), (8, .bool false), (9, .bool t1), (17, .int .i64 x17_2), (10, bp b12 0), (12, bp b20 0), (13, v13_e1), (14, v14_e1), (174, .bool true), (129, .int .i64 t92), (123, .int .i64 t83)] [Own 55 ek_api_Cell g_6.1 p94.L, Own 66 ek_ref07_Entry g_6.2 p93.L, Box b77 [.int .i64 p93.Mark, g_6.2, .int .i64 p93.Status, .int .i64 p93.At], Box b20 [g_6.1, .int .u32 p94.Limit], Own 55 ek_api_Cell g_7.1 p85.l, Own 53 ek_tx_Entry g_7.2 p84.l, Box b68 [.int .i64 p84.mark, g_7.2, .int .i64 p84.status, .int .i64 p84.at_], Box b12 [g_7.1, .int .u32 p85.limit], OwnPH rep_ref07_Desc 40 v14_e1 bs76 qv14_e1_2 j18_3.toNat, OwnPH rep_desc_Desc 38 v13_e1 bs67 qv13_e1_2 j18_3.toNat, F]) (T := [tS 13 (v13_e1), tS 18 (.int .i64 j18_3), tS 10 (bp b12 0), tS 14 (v14_e1), tS 12 (bp b20 0), tE [(2, v2), (3, v3), (8, .bool false), (9, .bool t1), (17, .int .i64 x17_2)], tR (Own 66 ek_ref07_Entry g81_L x74.L), tR (Box b77 [.int .i64 x74.Mark, g81_L, .int .i64 x74.Status, .int .i64 x74.At]), tR (OwnPH rep_ref07_Desc 40 v14_e1 bs76 qv14_e1_2 j18_3.toNat), tR (Own 53 ek_tx_Entry g72_l x65.l), tR (Box b68 [.int .i64 x65.mark, g72_l, .int .i64 x65.status, .int .i64 x65.at_]), tR (OwnPH rep_desc_Desc 38 v13_e1 bs67 qv13_e1_2 j18_3.toNat), tR (Own 55 ek_api_Cell vy20_0_2 y20_0_2), tR (Own 55 ek_api_Cell vy12_0_2 y12_0_2), tR (Box b20 [vy20_0_2, .int .u32 y20_1_2]), tR (Box b12 [vy12_0_2, .int .u32 y12_1_2]), tR (F), tS 118 (v13_e1), tS 119 (.int .i64 j18_3), tS 120 (idxp v13_e1 (j18_3.toNat * ekP.sz)), tS 121 (bp b68 0), tS 122 (bp b12 0), ⟨(Value × Value), [123], (fun x => match x with | (u89_l, u87_l) => [(123, .int .i64 t83)]), (fun x => match x with | (u89_l, u87_l) => [Own 55 ek_api_Cell u89_l p85.l, Own 53 ek_tx_Entry u87_l p84.l, Box b68 [.int .i64 p84.mark, u87_l, .int .i64 p84.status, .int .i64 p84.at_], Box b12 [u89_l, .int .u32 p85.limit]]), fun _ => rfl⟩, tS 124 (v14_e1), tS 125 (.int .i64 j18_3), tS 126 (idxp v14_e1 (j18_3.toNat * ekP.sz)), tS 127 (bp b77 0), tS 128 (bp b20 0), ⟨(Value × Value), [129], (fun x => match x with | (u98_L, u96_L) => [(129, .int .i64 t92)]), (fun x => match x with | (u98_L, u96_L) => [Own 55 ek_api_Cell u98_L p94.L, Own 66 ek_ref07_Entry u96_L p93.L, Box b77 [.int .i64 p93.Mark, u96_L, .int .i64 p93.Status, .int .i64 p93.At], Box b20 [u98_L, .int .u32 p94.Limit]]), fun _ => rfl⟩, tS 130 (.bool (t83 != t92)), tS 131 (.bool (t83 != t92)), tS 132 (v13_e1), tS 133 (.int .i64 j18_3), tS 134 (idxp v13_e1 (j18_3.toNat * ekP.sz)), tS 135 (bp b68 0), tS 136 (.int .i64 t112), tS 137 (v14_e1), tS 138 (.int .i64 j18_3), tS 139 (idxp v14_e1 (j18_3.toNat * ekP.sz)), tS 140 (bp b77 0), tS 141 (bp b77 0), tS 142 (bp b77 2), tS 143 (.int .i64 p93.Status), tS 144 (.bool (t112 != p93.Status)), tS 145 (.bool (t112 != p93.Status)), tS 146 (.bool (t112 != p93.Status)), tS 147 (undef), tS 148 (undef), tS 149 (undef), tS 150 (undef), tS 151 (undef), tS 152 (undef), tS 153 (undef), tS 154 (undef), tS 155 (undef), tS 156 (undef), tS 157 (undef), tS 158 (.bool true), tS 159 (.bool true), tS 160 (undef), tS 161 (undef), tS 162 (undef), tS 163 (undef), tS 164 (undef), tS 165 (undef), tS 166 (undef), tS 167 (undef), tS 168 (.bool true), tS 169 (.bool true), tS 170 (undef), tS 171 (undef), tS 172 (undef), tS 173 (undef), tS 174 (.bool true)]) (D := [⟨[0], [], [17]⟩, ⟨[1], [], [18]⟩, ⟨[17, 18, 11], [], [19]⟩, ⟨[19, 11], [], [20]⟩, ⟨[2], [], [21]⟩, ⟨[20, 21], [10, 9, 15, 13], [22]⟩, ⟨[3], [], [23]⟩, ⟨[1], [], [24]⟩, ⟨[23, 24, 8], [], [25]⟩, ⟨[25, 8], [], [26]⟩, ⟨[4], [], [27]⟩, ⟨[26, 27], [7, 6, 14, 12], [28]⟩, ⟨[22, 28], [], [29]⟩, ⟨[29], [], [30]⟩, ⟨[0, 30], [], [31]⟩, ⟨[1, 30], [], [32]⟩, ⟨[30, 31, 32, 11], [], [33]⟩, ⟨[30, 33, 11], [], [34]⟩, ⟨[30, 34, 22], [], [35]⟩, ⟨[3, 30], [], [36]⟩, ⟨[1, 30], [], [37]⟩, ⟨[30, 36, 37, 8], [], [38]⟩, ⟨[30, 38, 8], [], [39]⟩, ⟨[30, 39], [], [40]⟩, ⟨[30, 40], [], [41]⟩, ⟨[30, 41, 28], [], [42]⟩, ⟨[30, 35, 42], [], [43]⟩, ⟨[30, 43], [], [44]⟩, ⟨[44], [], [45]⟩, ⟨[45], [], [46]⟩, ⟨[45], [], [47]⟩, ⟨[45], [], [48]⟩, ⟨[45], [], [49]⟩, ⟨[45], [], [50]⟩, ⟨[45], [], [51]⟩, ⟨[45], [], [52]⟩, ⟨[45], [], [53]⟩, ⟨[45], [], [54]⟩, ⟨[45], [], [55]⟩, ⟨[45], [], [56]⟩, ⟨[45, 56], [], [57]⟩, ⟨[57], [], [58]⟩, ⟨[58], [], [59]⟩, ⟨[58], [], [60]⟩, ⟨[58], [], [61]⟩, ⟨[58], [], [62]⟩, ⟨[58], [], [63]⟩, ⟨[58], [], [64]⟩, ⟨[58], [], [65]⟩, ⟨[58], [], [66]⟩, ⟨[58, 66], [], [67]⟩, ⟨[67], [], [68]⟩, ⟨[68], [], [69]⟩, ⟨[68], [], [70]⟩, ⟨[68], [], [71]⟩, ⟨[68], [], [72]⟩, ⟨[68, 72], [], [73]⟩]) (ini := [0, 1, 2, 3, 4, 5, 6, 7, 8, 9, 10, 11, 12, 13, 14, 15, 16]) (fin := [5, 2, 4, 0, 3, 73, 28, 22, 8, 11, 16]) (bf := [[], [], [0, 1], [0, 1, 2], [], [0, 1, 2, 3, 4], [], [], [6, 7], [6, 7, 8], [], [0, 1, 2, 3, 4, 5, 6, 7, 8, 9, 10], [0, 1, 2, 3, 4, 5, 6, 7, 8, 9, 10, 11], [0, 1, 2, 3, 4, 5, 6, 7, 8, 9, 10, 11, 12], [0, 1, 2, 3, 4, 5, 6, 7, 8, 9, 10, 11, 12, 13], [0, 1, 2, 3, 4, 5, 6, 7, 8, 9, 10, 11, 12, 13], [0, 1, 2, 3, 4, 5, 6, 7, 8, 9, 10, 11, 12, 13, 14, 15], [0, 1, 2, 3, 4, 5, 6, 7, 8, 9, 10, 11, 12, 13, 14, 15, 16], [0, 1, 2, 3, 4, 5, 6, 7, 8, 9, 10, 11, 12, 13, 14, 15, 16, 17], [0, 1, 2, 3, 4, 5, 6, 7, 8, 9, 10, 11, 12, 13], [0, 1, 2, 3, 4, 5, 6, 7, 8, 9, 10, 11, 12, 13], [0, 1, 2, 3, 4, 5, 6, 7, 8, 9, 10, 11, 12, 13, 19, 20], [0, 1, 2, 3, 4, 5, 6, 7, 8, 9, 10, 11, 12, 13, 19, 20, 21], [0, 1, 2, 3, 4, 5, 6, 7, 8, 9, 10, 11, 12, 13, 19, 20, 21, 22], [0, 1, 2, 3, 4, 5, 6, 7, 8, 9, 10, 11, 12, 13, 19, 20, 21, 22, 23], [0, 1, 2, 3, 4, 5, 6, 7, 8, 9, 10, 11, 12, 13, 19, 20, 21, 22, 23, 24], [0, 1, 2, 3, 4, 5, 6, 7, 8, 9, 10, 11, 12, 13, 14, 15, 16, 17, 18, 19, 20, 21, 22, 23, 24, 25], [0, 1, 2, 3, 4, 5, 6, 7, 8, 9, 10, 11, 12, 13, 14, 15, 16, 17, 18, 19, 20, 21, 22, 23, 24, 25, 26], [0, 1, 2, 3, 4, 5, 6, 7, 8, 9, 10, 11, 12, 13, 14, 15, 16, 17, 18, 19, 20, 21, 22, 23, 24, 25, 26, 27], [0, 1, 2, 3, 4, 5, 6, 7, 8, 9, 10, 11, 12, 13, 14, 15, 16, 17, 18, 19, 20, 21, 22, 23, 24, 25, 26, 27, 28], [0, 1, 2, 3, 4, 5, 6, 7, 8, 9, 10, 11, 12, 13, 14, 15, 16, 17, 18, 19, 20, 21, 22, 23, 24, 25, 26, 27, 28], [0, 1, 2, 3, 4, 5, 6, 7, 8, 9, 10, 11, 12, 13, 14, 15, 16, 17, 18, 19, 20, 21, 22, 23, 24, 25, 26, 27, 28, 29, 30], [0, 1, 2, 3, 4, 5, 6, 7, 8, 9, 10, 11, 12, 13, 14, 15, 16, 17, 18, 19, 20, 21, 22, 23, 24, 25, 26, 27, 28, 29, 30, 31], [0, 1, 2, 3, 4, 5, 6, 7, 8, 9, 10, 11, 12, 13, 14, 15, 16, 17, 18, 19, 20, 21, 22, 23, 24, 25, 26, 27, 28, 29, 30, 31, 32], [0, 1, 2, 3, 4, 5, 6, 7, 8, 9, 10, 11, 12, 13, 14, 15, 16, 17, 18, 19, 20, 21, 22, 23, 24, 25, 26, 27, 28], [0, 1, 2, 3, 4, 5, 6, 7, 8, 9, 10, 11, 12, 13, 14, 15, 16, 17, 18, 19, 20, 21, 22, 23, 24, 25, 26, 27, 28], [0, 1, 2, 3, 4, 5, 6, 7, 8, 9, 10, 11, 12, 13, 14, 15, 16, 17, 18, 19, 20, 21, 22, 23, 24, 25, 26, 27, 28, 34, 35], [0, 1, 2, 3, 4, 5, 6, 7, 8, 9, 10, 11, 12, 13, 14, 15, 16, 17, 18, 19, 20, 21, 22, 23, 24, 25, 26, 27, 28, 34, 35, 36], [0, 1, 2, 3, 4, 5, 6, 7, 8, 9, 10, 11, 12, 13, 14, 15, 16, 17, 18, 19, 20, 21, 22, 23, 24, 25, 26, 27, 28, 29, 30, 31, 32, 33, 34, 35, 36, 37], [0, 1, 2, 3, 4, 5, 6, 7, 8, 9, 10, 11, 12, 13, 14, 15, 16, 17, 18, 19, 20, 21, 22, 23, 24, 25, 26, 27, 28, 29, 30, 31, 32, 33, 34, 35, 36, 37, 38], [0, 1, 2, 3, 4, 5, 6, 7, 8, 9, 10, 11, 12, 13, 14, 15, 16, 17, 18, 19, 20, 21, 22, 23, 24, 25, 26, 27, 28, 29, 30, 31, 32, 33, 34, 35, 36, 37, 38, 39], [0, 1, 2, 3, 4, 5, 6, 7, 8, 9, 10, 11, 12, 13, 14, 15, 16, 17, 18, 19, 20, 21, 22, 23, 24, 25, 26, 27, 28, 29, 30, 31, 32, 33, 34, 35, 36, 37, 38, 39, 40], [0, 1, 2, 3, 4, 5, 6, 7, 8, 9, 10, 11, 12, 13, 14, 15, 16, 17, 18, 19, 20, 21, 22, 23, 24, 25, 26, 27, 28, 29, 30, 31, 32, 33, 34, 35, 36, 37, 38, 39, 40, 41], [0, 1, 2, 3, 4, 5, 6, 7, 8, 9, 10, 11, 12, 13, 14, 15, 16, 17, 18, 19, 20, 21, 22, 23, 24, 25, 26, 27, 28, 29, 30, 31, 32, 33, 34, 35, 36, 37, 38, 39, 40, 41], [0, 1, 2, 3, 4, 5, 6, 7, 8, 9, 10, 11, 12, 13, 14, 15, 16, 17, 18, 19, 20, 21, 22, 23, 24, 25, 26, 27, 28, 29, 30, 31, 32, 33, 34, 35, 36, 37, 38, 39, 40, 41, 42, 43], [0, 1, 2, 3, 4, 5, 6, 7, 8, 9, 10, 11, 12, 13, 14, 15, 16, 17, 18, 19, 20, 21, 22, 23, 24, 25, 26, 27, 28, 29, 30, 31, 32, 33, 34, 35, 36, 37, 38, 39, 40, 41, 42, 43, 44], [0, 1, 2, 3, 4, 5, 6, 7, 8, 9, 10, 11, 12, 13, 14, 15, 16, 17, 18, 19, 20, 21, 22, 23, 24, 25, 26, 27, 28, 29, 30, 31, 32, 33, 34, 35, 36, 37, 38, 39, 40, 41, 42, 43, 44, 45], [0, 1, 2, 3, 4, 5, 6, 7, 8, 9, 10, 11, 12, 13, 14, 15, 16, 17, 18, 19, 20, 21, 22, 23, 24, 25, 26, 27, 28, 29, 30, 31, 32, 33, 34, 35, 36, 37, 38, 39, 40, 41], [0, 1, 2, 3, 4, 5, 6, 7, 8, 9, 10, 11, 12, 13, 14, 15, 16, 17, 18, 19, 20, 21, 22, 23, 24, 25, 26, 27, 28, 29, 30, 31, 32, 33, 34, 35, 36, 37, 38, 39, 40, 41, 47], [0, 1, 2, 3, 4, 5, 6, 7, 8, 9, 10, 11, 12, 13, 14, 15, 16, 17, 18, 19, 20, 21, 22, 23, 24, 25, 26, 27, 28, 29, 30, 31, 32, 33, 34, 35, 36, 37, 38, 39, 40, 41, 42, 43, 44, 45, 46, 47, 48], [0, 1, 2, 3, 4, 5, 6, 7, 8, 9, 10, 11, 12, 13, 14, 15, 16, 17, 18, 19, 20, 21, 22, 23, 24, 25, 26, 27, 28, 29, 30, 31, 32, 33, 34, 35, 36, 37, 38, 39, 40, 41, 42, 43, 44, 45, 46, 47, 48, 49], [0, 1, 2, 3, 4, 5, 6, 7, 8, 9, 10, 11, 12, 13, 14, 15, 16, 17, 18, 19, 20, 21, 22, 23, 24, 25, 26, 27, 28, 29, 30, 31, 32, 33, 34, 35, 36, 37, 38, 39, 40, 41, 42, 43, 44, 45, 46, 47, 48, 49, 50], [0, 1, 2, 3, 4, 5, 6, 7, 8, 9, 10, 11, 12, 13, 14, 15, 16, 17, 18, 19, 20, 21, 22, 23, 24, 25, 26, 27, 28, 29, 30, 31, 32, 33, 34, 35, 36, 37, 38, 39, 40, 41, 42, 43, 44, 45, 46, 47, 48, 49, 50, 51], [0, 1, 2, 3, 4, 5, 6, 7, 8, 9, 10, 11, 12, 13, 14, 15, 16, 17, 18, 19, 20, 21, 22, 23, 24, 25, 26, 27, 28, 29, 30, 31, 32, 33, 34, 35, 36, 37, 38, 39, 40, 41, 42, 43, 44, 45, 46, 47, 48, 49, 50, 51], [0, 1, 2, 3, 4, 5, 6, 7, 8, 9, 10, 11, 12, 13, 14, 15, 16, 17, 18, 19, 20, 21, 22, 23, 24, 25, 26, 27, 28, 29, 30, 31, 32, 33, 34, 35, 36, 37, 38, 39, 40, 41, 42, 43, 44, 45, 46, 47, 48, 49, 50, 51, 52, 53], [0, 1, 2, 3, 4, 5, 6, 7, 8, 9, 10, 11, 12, 13, 14, 15, 16, 17, 18, 19, 20, 21, 22, 23, 24, 25, 26, 27, 28, 29, 30, 31, 32, 33, 34, 35, 36, 37, 38, 39, 40, 41, 42, 43, 44, 45, 46, 47, 48, 49, 50, 51, 52, 53, 54], [0, 1, 2, 3, 4, 5, 6, 7, 8, 9, 10, 11, 12, 13, 14, 15, 16, 17, 18, 19, 20, 21, 22, 23, 24, 25, 26, 27, 28, 29, 30, 31, 32, 33, 34, 35, 36, 37, 38, 39, 40, 41, 42, 43, 44, 45, 46, 47, 48, 49, 50, 51, 52, 53, 54, 55]]) (by kernel_rfl) (by kernel_rfl) (fun Q => by kernel_rfl) (fun x w h1 h2 => ⟨(), (), (), (), (), (), (), (), (), (), (), (), (), (), (), (), (), EnvAll.of h1 ⟨rfl, rfl, rfl, rfl, rfl, rfl, rfl, rfl, rfl, rfl, trivial⟩, h2⟩) (fun Q => by kernel_rfl) ⟨?_, ?_, ?_, ?_, ?_, ?_, ?_, ?_, ?_, ?_, ?_, ?_, ?_, ?_, ?_, ?_, ?_, ?_, ?_, ?_, ?_, ?_, ?_, ?_, ?_, ?_, ?_, ?_, ?_, ?_, ?_, ?_, ?_, ?_, ?_, ?_, ?_, ?_, ?_, ?_, ?_, ?_, ?_, ?_, ?_, ?_, ?_, ?_, ?_, ?_, ?_, ?_, ?_, ?_, ?_, ?_, ?_, trivial⟩ ?_
          · rintro Fr _
            refine SO.v rfl (opv_move rfl) ?_
            exact SO.nilZ fun a w h1 h2 h3 h4 h5 => PZ.of h1 h3 h5 (.cons () (.cons () (.nil ⟨EnvAll.of h2 ⟨rfl, rfl, trivial⟩, h4⟩)))
          · rintro Fr _
            refine SO.v rfl (opv_move rfl) ?_
            exact SO.nilZ fun a w h1 h2 h3 h4 h5 => PZ.of h1 h3 h5 (.cons () (.cons () (.nil ⟨EnvAll.of h2 ⟨rfl, rfl, trivial⟩, h4⟩)))
          · rintro Fr _ _ _
            refine SO.v rfl (opv_idx (K := ekP) Try.underlying35 Try.sizeOf38 hRp71 rfl rfl hb69) ?_
            exact SO.nilZ fun a w h1 h2 h3 h4 h5 => PZ.of h1 h3 h5 (.cons () (.cons () (.cons () (.cons () (.nil ⟨EnvAll.of h2 ⟨rfl, rfl, rfl, trivial⟩, h4⟩)))))
          · rintro Fr _ _
            refine SO.loadI1 (j := 0) (K := ekP) rfl Try.isAgg38 (Rd.head hRp71) hb69 rfl rfl rfl rfl ?_
            exact SO.nilZ fun a w h1 h2 h3 h4 h5 => PZ.of h1 h3 h5 (.cons () (.cons () (.cons () (.nil ⟨EnvAll.of h2 ⟨rfl, rfl, trivial⟩, h4⟩))))
          · rintro Fr _
            refine SO.v rfl (opv_move rfl) ?_
            exact SO.nilZ fun a w h1 h2 h3 h4 h5 => PZ.of h1 h3 h5 (.cons () (.cons () (.nil ⟨EnvAll.of h2 ⟨rfl, rfl, trivial⟩, h4⟩)))
          · refine spec2 (X := fun Q => ∀ (_ _ _ _ _ _ : Unit), Q [(121, bp b68 0), (122, bp b12 0)] [Box b68 [.int .i64 x65.mark, g72_l, .int .i64 x65.status, .int .i64 x65.at_], Own 53 ek_tx_Entry g72_l x65.l, Box b12 [vy12_0_2, .int .u32 y12_1_2], Own 55 ek_api_Cell vy12_0_2 y12_0_2]) (fun Q => by kernel_rfl) ?_
            rintro Fr _ _ _ _ _ _
            refine SO.b3 ?_
            refine SO.b3 ?_
            refine SO.b3 ?_
            refine SO.b3 ?_
            have ct91 := desc_Desc_Step.ct b68 g72_l b12 vy12_0_2 _ _ _ _ _ ht86
            try dsimp only at ct91
            refine SO.call (pre := [Box _ _, Own _ _ _ _, Box _ _, Own _ _ _ _]) rfl Try.call9 rfl rfl rfl ct91 trivial ?_
            rintro _ _ ⟨u87_l, u89_l, rfl, rfl⟩
            refine SO.b1 ?_
            refine SO.rd fun hr88 => ?_
            refine SO.b3 ?_
            refine SO.rd fun hr90 => ?_
            refine SO.b3 ?_
            refine SO.b3 ?_
            refine SO.b3 ?_
            refine SO.b3 ?_
            exact SO.nilZ fun a w h1 h2 h3 h4 h5 => PZ.of h1 h3 h5 (.cons () (.cons () (.cons (u89_l, u87_l) (.nil ⟨EnvAll.of h2 ⟨rfl, rfl, rfl, trivial⟩, h4⟩))))
          · rintro Fr _
            refine SO.v rfl (opv_move rfl) ?_
            exact SO.nilZ fun a w h1 h2 h3 h4 h5 => PZ.of h1 h3 h5 (.cons () (.cons () (.nil ⟨EnvAll.of h2 ⟨rfl, rfl, trivial⟩, h4⟩)))
          · rintro Fr _
            refine SO.v rfl (opv_move rfl) ?_
            exact SO.nilZ fun a w h1 h2 h3 h4 h5 => PZ.of h1 h3 h5 (.cons () (.cons () (.nil ⟨EnvAll.of h2 ⟨rfl, rfl, trivial⟩, h4⟩)))
          · rintro Fr _ _ _
            refine SO.v rfl (opv_idx (K := ekP) Try.underlying36 Try.sizeOf40 hRp80 rfl rfl hb78) ?_
            exact SO.nilZ fun a w h1 h2 h3 h4 h5 => PZ.of h1 h3 h5 (.cons () (.cons () (.cons () (.cons () (.nil ⟨EnvAll.of h2 ⟨rfl, rfl, rfl, trivial⟩, h4⟩)))))
          · rintro Fr _ _
            refine SO.loadI1 (j := 0) (K := ekP) rfl Try.isAgg40 (Rd.head hRp80) hb78 rfl rfl rfl rfl ?_
            exact SO.nilZ fun a w h1 h2 h3 h4 h5 => PZ.of h1 h3 h5 (.cons () (.cons () (.cons () (.nil ⟨EnvAll.of h2 ⟨rfl, rfl, trivial⟩, h4⟩))))
          · rintro Fr _
            refine SO.v rfl (opv_move rfl) ?_
            exact SO.nilZ fun a w h1 h2 h3 h4 h5 => PZ.of h1 h3 h5 (.cons () (.cons () (.nil ⟨EnvAll.of h2 ⟨rfl, rfl, trivial⟩, h4⟩)))
          · refine spec2 (X := fun Q => ∀ (_ _ _ _ _ _ : Unit), Q [(127, bp b77 0), (128, bp b20 0)] [Box b77 [.int .i64 x74.Mark, g81_L, .int .i64 x74.Status, .int .i64 x74.At], Own 66 ek_ref07_Entry g81_L x74.L, Box b20 [vy20_0_2, .int .u32 y20_1_2], Own 55 ek_api_Cell vy20_0_2 y20_0_2]) (fun Q => by kernel_rfl) ?_
            rintro Fr _ _ _ _ _ _
            refine SO.b3 ?_
            refine SO.b3 ?_
            refine SO.b3 ?_
            refine SO.b3 ?_
            have ct100 := ref07_Desc_Step.ct b77 g81_L b20 vy20_0_2 _ _ _ _ _ ht95
            try dsimp only at ct100
            refine SO.call (pre := [Box _ _, Own _ _ _ _, Box _ _, Own _ _ _ _]) rfl Try.call10 rfl rfl rfl ct100 trivial ?_
            rintro _ _ ⟨u96_L, u98_L, rfl, rfl⟩
            refine SO.b1 ?_
            refine SO.rd fun hr97 => ?_
            refine SO.b3 ?_
            refine SO.rd fun hr99 => ?_
            refine SO.b3 ?_
            refine SO.b3 ?_
            refine SO.b3 ?_
            refine SO.b3 ?_
            exact SO.nilZ fun a w h1 h2 h3 h4 h5 => PZ.of h1 h3 h5 (.cons () (.cons () (.cons (u98_L, u96_L) (.nil ⟨EnvAll.of h2 ⟨rfl, rfl, rfl, trivial⟩, h4⟩))))
          · rintro Fr ⟨u89_l, u87_l⟩ ⟨u98_L, u96_L⟩
            refine SO.rd fun hr101 => ?_
            refine SO.b1 ?_
            refine SO.rd fun hr102 => ?_
            refine SO.b4 ?_
            refine SO.rd fun hr103 => ?_
            refine SO.b5 ?_
            refine SO.rd fun hr104 => ?_
            refine SO.v rfl (opv_neq rfl rfl) ?_
            refine SO.b7 ?_
            refine SO.b7 ?_
            refine SO.b2 ?_
            refine SO.b3 ?_
            refine SO.b7 ?_
            refine SO.b7 ?_
            refine SO.b6 ?_
            refine SO.b7 ?_
            exact SO.nilZ fun a w h1 h2 h3 h4 h5 => PZ.of h1 h3 h5 (.cons (u89_l, u87_l) (.cons (u98_L, u96_L) (.cons () (.nil ⟨EnvAll.of h2 ⟨rfl, rfl, rfl, trivial⟩, h4⟩))))
          · rintro Fr _
            refine SO.v rfl (opv_move rfl) ?_
            exact SO.nilZ fun a w h1 h2 h3 h4 h5 => PZ.of h1 h3 h5 (.cons () (.cons () (.nil ⟨EnvAll.of h2 ⟨rfl, rfl, trivial⟩, h4⟩)))
          · rintro Fr _ _
            refine SO.takeT rfl rfl rfl b105 ?_
            refine SO.v rfl (opv_move rfl) ?_
            exact SO.nilZ fun a w h1 h2 h3 h4 h5 => PZ.of h1 h3 h5 (.cons () (.cons () (.cons () (.nil ⟨EnvAll.of h2 ⟨rfl, rfl, rfl, trivial⟩, h4⟩))))
          · rintro Fr _ _
            refine SO.takeT rfl rfl rfl b105 ?_
            refine SO.v rfl (opv_move rfl) ?_
            exact SO.nilZ fun a w h1 h2 h3 h4 h5 => PZ.of h1 h3 h5 (.cons () (.cons () (.cons () (.nil ⟨EnvAll.of h2 ⟨rfl, rfl, rfl, trivial⟩, h4⟩))))
          · rintro Fr _ _ _ _
            refine SO.takeT rfl rfl rfl b105 ?_
            refine SO.v rfl (opv_idx (K := ekP) Try.underlying35 Try.sizeOf38 hRp71 rfl rfl hb69) ?_
            exact SO.nilZ fun a w h1 h2 h3 h4 h5 => PZ.of2 (Y := fun Q => ∃ (_ _ _ _ _ : Unit), Q [(131, .bool (t83 != t92)), (132, v13_e1), (133, .int .i64 j18_3), (134, idxp v13_e1 (j18_3.toNat * ekP.sz))] [OwnPH rep_desc_Desc 38 v13_e1 bs67 qv13_e1_2 j18_3.toNat]) (fun Q => by kernel_rfl) h1 h3 h5 ⟨(), (), (), (), (), EnvAll.of h2 ⟨rfl, rfl, rfl, rfl, trivial⟩, h4⟩
          · rintro Fr _ _ _
            refine SO.takeT rfl rfl rfl b105 ?_
            refine SO.loadI1 (j := 0) (K := ekP) rfl Try.isAgg38 (Rd.head hRp71) hb69 rfl rfl rfl rfl ?_
            exact SO.nilZ fun a w h1 h2 h3 h4 h5 => PZ.of h1 h3 h5 (.cons () (.cons () (.cons () (.cons () (.nil ⟨EnvAll.of h2 ⟨rfl, rfl, rfl, trivial⟩, h4⟩)))))
          · rintro Fr _ _ ⟨u89_l, u87_l⟩
            refine SO.rd fun hr110 => ?_
            refine SO.b1 ?_
            refine SO.rd fun hr111 => ?_
            refine SO.takeT rfl rfl rfl b105 ?_
            refine SO.b2 ?_
            refine SO.call (pre := [Box _ _, Own _ _ _ _]) rfl Try.call11 rfl rfl rfl (desc_Desc_Status.ct b68 u87_l _ _ ht113) trivial ?_
            rintro _ _ ⟨rfl, rfl⟩
            refine SO.b3 ?_
            refine SO.b1 ?_
            refine SO.b2 ?_
            refine SO.b3 ?_
            exact SO.nilZ fun a w h1 h2 h3 h4 h5 => PZ.of h1 h3 h5 (.cons () (.cons () (.cons (u89_l, u87_l) (.cons () (.nil ⟨EnvAll.of h2 ⟨rfl, rfl, rfl, rfl, trivial⟩, h4⟩)))))
          · rintro Fr _ _
            refine SO.takeT rfl rfl rfl b105 ?_
            refine SO.v rfl (opv_move rfl) ?_
            exact SO.nilZ fun a w h1 h2 h3 h4 h5 => PZ.of h1 h3 h5 (.cons () (.cons () (.cons () (.nil ⟨EnvAll.of h2 ⟨rfl, rfl, rfl, trivial⟩, h4⟩))))
          · rintro Fr _ _
            refine SO.takeT rfl rfl rfl b105 ?_
            refine SO.v rfl (opv_move rfl) ?_
            exact SO.nilZ fun a w h1 h2 h3 h4 h5 => PZ.of h1 h3 h5 (.cons () (.cons () (.cons () (.nil ⟨EnvAll.of h2 ⟨rfl, rfl, rfl, trivial⟩, h4⟩))))
          · rintro Fr _ _ _ _
            refine SO.takeT rfl rfl rfl b105 ?_
            refine SO.v rfl (opv_idx (K := ekP) Try.underlying36 Try.sizeOf40 hRp80 rfl rfl hb78) ?_
            exact SO.nilZ fun a w h1 h2 h3 h4 h5 => PZ.of2 (Y := fun Q => ∃ (_ _ _ _ _ : Unit), Q [(131, .bool (t83 != t92)), (137, v14_e1), (138, .int .i64 j18_3), (139, idxp v14_e1 (j18_3.toNat * ekP.sz))] [OwnPH rep_ref07_Desc 40 v14_e1 bs76 qv14_e1_2 j18_3.toNat]) (fun Q => by kernel_rfl) h1 h3 h5 ⟨(), (), (), (), (), EnvAll.of h2 ⟨rfl, rfl, rfl, rfl, trivial⟩, h4⟩
          · rintro Fr _ _ _
            refine SO.takeT rfl rfl rfl b105 ?_
            refine SO.loadI1 (j := 0) (K := ekP) rfl Try.isAgg40 (Rd.head hRp80) hb78 rfl rfl rfl rfl ?_
            exact SO.nilZ fun a w h1 h2 h3 h4 h5 => PZ.of h1 h3 h5 (.cons () (.cons () (.cons () (.cons () (.nil ⟨EnvAll.of h2 ⟨rfl, rfl, rfl, trivial⟩, h4⟩)))))
          · rintro Fr _ _
            refine SO.takeT rfl rfl rfl b105 ?_
            refine SO.v rfl (opv_nilCheck rfl) ?_
            exact SO.nilZ fun a w h1 h2 h3 h4 h5 => PZ.of h1 h3 h5 (.cons () (.cons () (.cons () (.nil ⟨EnvAll.of h2 ⟨rfl, rfl, rfl, trivial⟩, h4⟩))))
          · rintro Fr _ _
            refine SO.takeT rfl rfl rfl b105 ?_
            refine SO.v rfl (opv_fieldAddr Try.underlying44 rfl Try.sizeOf3 rfl rfl) ?_
            exact SO.nilZ fun a w h1 h2 h3 h4 h5 => PZ.of h1 h3 h5 (.cons () (.cons () (.cons () (.nil ⟨EnvAll.of h2 ⟨rfl, rfl, rfl, trivial⟩, h4⟩))))
          · rintro Fr _ _ ⟨u98_L, u96_L⟩
            refine SO.rd fun hr114 => ?_
            refine SO.b1 ?_
            refine SO.rd fun hr115 => ?_
            refine SO.takeT rfl rfl rfl b105 ?_
            refine SO.b2 ?_
            refine SO.load1 rfl Try.isAgg3 rfl rfl ?_
            refine SO.b3 ?_
            refine SO.b1 ?_
            refine SO.b2 ?_
            refine SO.b3 ?_
            exact SO.nilZ fun a w h1 h2 h3 h4 h5 => PZ.of h1 h3 h5 (.cons () (.cons () (.cons (u98_L, u96_L) (.cons () (.nil ⟨EnvAll.of h2 ⟨rfl, rfl, rfl, rfl, trivial⟩, h4⟩)))))
          · rintro Fr _ _ _
            refine SO.takeT rfl rfl rfl b105 ?_
            refine SO.v rfl (opv_neq rfl rfl) ?_
            exact SO.nilZ fun a w h1 h2 h3 h4 h5 => PZ.of h1 h3 h5 (.cons () (.cons () (.cons () (.cons () (.nil ⟨EnvAll.of h2 ⟨rfl, rfl, rfl, rfl, trivial⟩, h4⟩)))))
          · rintro Fr _ _
            refine SO.v rfl (opv_pick_f' b105 rfl rfl) ?_
            exact SO.nilZ fun a w h1 h2 h3 h4 h5 => PZ.of h1 h3 h5 (.cons () (.cons () (.cons () (.nil ⟨EnvAll.of h2 ⟨rfl, rfl, rfl, trivial⟩, h4⟩))))
          · rintro Fr _
            refine SO.v rfl (opv_move rfl) ?_
            exact SO.nilZ fun a w h1 h2 h3 h4 h5 => PZ.of h1 h3 h5 (.cons () (.cons () (.nil ⟨EnvAll.of h2 ⟨rfl, rfl, trivial⟩, h4⟩)))
          · rintro Fr _
            refine SO.passF rfl rfl rfl b116 rfl rfl ?_
            exact SO.nilZ fun a w h1 h2 h3 h4 h5 => PZ.of h1 h3 h5 (.cons () (.cons () (.nil ⟨EnvAll.of h2 ⟨rfl, rfl, trivial⟩, h4⟩)))
          · rintro Fr _
            refine SO.passF rfl rfl rfl b116 rfl rfl ?_
            exact SO.nilZ fun a w h1 h2 h3 h4 h5 => PZ.of h1 h3 h5 (.cons () (.cons () (.nil ⟨EnvAll.of h2 ⟨rfl, rfl, trivial⟩, h4⟩)))
          · rintro Fr _
            refine SO.passF rfl rfl rfl b116 rfl rfl ?_
            exact SO.nilZ fun a w h1 h2 h3 h4 h5 => PZ.of h1 h3 h5 (.cons () (.cons () (.nil ⟨EnvAll.of h2 ⟨rfl, rfl, trivial⟩, h4⟩)))
          · rintro Fr _
            refine SO.passF rfl rfl rfl b116 rfl rfl ?_
            exact SO.nilZ fun a w h1 h2 h3 h4 h5 => PZ.of h1 h3 h5 (.cons () (.cons () (.nil ⟨EnvAll.of h2 ⟨rfl, rfl, trivial⟩, h4⟩)))
          · rintro Fr _
            refine SO.passF rfl rfl rfl b116 rfl rfl ?_
            exact SO.nilZ fun a w h1 h2 h3 h4 h5 => PZ.of h1 h3 h5 (.cons () (.cons () (.nil ⟨EnvAll.of h2 ⟨rfl, rfl, trivial⟩, h4⟩)))
          · rintro Fr _
            refine SO.passF rfl rfl rfl b116 rfl rfl ?_
            exact SO.nilZ fun a w h1 h2 h3 h4 h5 => PZ.of h1 h3 h5 (.cons () (.cons () (.nil ⟨EnvAll.of h2 ⟨rfl, rfl, trivial⟩, h4⟩)))
          · rintro Fr _
            refine SO.passF rfl rfl rfl b116 rfl rfl ?_
            exact SO.nilZ fun a w h1 h2 h3 h4 h5 => PZ.of h1 h3 h5 (.cons () (.cons () (.nil ⟨EnvAll.of h2 ⟨rfl, rfl, trivial⟩, h4⟩)))
          · rintro Fr _
            refine SO.passF rfl rfl rfl b116 rfl rfl ?_
            exact SO.nilZ fun a w h1 h2 h3 h4 h5 => PZ.of h1 h3 h5 (.cons () (.cons () (.nil ⟨EnvAll.of h2 ⟨rfl, rfl, trivial⟩, h4⟩)))
          · rintro Fr _
            refine SO.passF rfl rfl rfl b116 rfl rfl ?_
            exact SO.nilZ fun a w h1 h2 h3 h4 h5 => PZ.of h1 h3 h5 (.cons () (.cons () (.nil ⟨EnvAll.of h2 ⟨rfl, rfl, trivial⟩, h4⟩)))
          · rintro Fr _
            refine SO.passF rfl rfl rfl b116 rfl rfl ?_
            exact SO.nilZ fun a w h1 h2 h3 h4 h5 => PZ.of h1 h3 h5 (.cons () (.cons () (.nil ⟨EnvAll.of h2 ⟨rfl, rfl, trivial⟩, h4⟩)))
          · rintro Fr _
            refine SO.passF rfl rfl rfl b116 rfl rfl ?_
            exact SO.nilZ fun a w h1 h2 h3 h4 h5 => PZ.of h1 h3 h5 (.cons () (.cons () (.nil ⟨EnvAll.of h2 ⟨rfl, rfl, trivial⟩, h4⟩)))
          · rintro Fr _ _
            refine SO.v rfl (opv_pick_t' b116 rfl rfl) ?_
            exact SO.nilZ fun a w h1 h2 h3 h4 h5 => PZ.of h1 h3 h5 (.cons () (.cons () (.cons () (.nil ⟨EnvAll.of h2 ⟨rfl, rfl, rfl, trivial⟩, h4⟩))))
          · rintro Fr _
            refine SO.v rfl (opv_move rfl) ?_
            exact SO.nilZ fun a w h1 h2 h3 h4 h5 => PZ.of h1 h3 h5 (.cons () (.cons () (.nil ⟨EnvAll.of h2 ⟨rfl, rfl, trivial⟩, h4⟩)))
          · rintro Fr _
            refine SO.passF rfl rfl rfl rfl rfl rfl ?_
            exact SO.nilZ fun a w h1 h2 h3 h4 h5 => PZ.of h1 h3 h5 (.cons () (.cons () (.nil ⟨EnvAll.of h2 ⟨rfl, rfl, trivial⟩, h4⟩)))
          · rintro Fr _
            refine SO.passF rfl rfl rfl rfl rfl rfl ?_
            exact SO.nilZ fun a w h1 h2 h3 h4 h5 => PZ.of h1 h3 h5 (.cons () (.cons () (.nil ⟨EnvAll.of h2 ⟨rfl, rfl, trivial⟩, h4⟩)))
          · rintro Fr _
            refine SO.passF rfl rfl rfl rfl rfl rfl ?_
            exact SO.nilZ fun a w h1 h2 h3 h4 h5 => PZ.of h1 h3 h5 (.cons () (.cons () (.nil ⟨EnvAll.of h2 ⟨rfl, rfl, trivial⟩, h4⟩)))
          · rintro Fr _
            refine SO.passF rfl rfl rfl rfl rfl rfl ?_
            exact SO.nilZ fun a w h1 h2 h3 h4 h5 => PZ.of h1 h3 h5 (.cons () (.cons () (.nil ⟨EnvAll.of h2 ⟨rfl, rfl, trivial⟩, h4⟩)))
          · rintro Fr _
            refine SO.passF rfl rfl rfl rfl rfl rfl ?_
            exact SO.nilZ fun a w h1 h2 h3 h4 h5 => PZ.of h1 h3 h5 (.cons () (.cons () (.nil ⟨EnvAll.of h2 ⟨rfl, rfl, trivial⟩, h4⟩)))
          · rintro Fr _
            refine SO.passF rfl rfl rfl rfl rfl rfl ?_
            exact SO.nilZ fun a w h1 h2 h3 h4 h5 => PZ.of h1 h3 h5 (.cons () (.cons () (.nil ⟨EnvAll.of h2 ⟨rfl, rfl, trivial⟩, h4⟩)))
          · rintro Fr _
            refine SO.passF rfl rfl rfl rfl rfl rfl ?_
            exact SO.nilZ fun a w h1 h2 h3 h4 h5 => PZ.of h1 h3 h5 (.cons () (.cons () (.nil ⟨EnvAll.of h2 ⟨rfl, rfl, trivial⟩, h4⟩)))
          · rintro Fr _
            refine SO.passF rfl rfl rfl rfl rfl rfl ?_
            exact SO.nilZ fun a w h1 h2 h3 h4 h5 => PZ.of h1 h3 h5 (.cons () (.cons () (.nil ⟨EnvAll.of h2 ⟨rfl, rfl, trivial⟩, h4⟩)))
          · rintro Fr _ _
            refine SO.v rfl (opv_pick_tt rfl rfl) ?_
            exact SO.nilZ fun a w h1 h2 h3 h4 h5 => PZ.of h1 h3 h5 (.cons () (.cons () (.cons () (.nil ⟨EnvAll.of h2 ⟨rfl, rfl, rfl, trivial⟩, h4⟩))))
          · rintro Fr _
            refine SO.v rfl (opv_move rfl) ?_
            exact SO.nilZ fun a w h1 h2 h3 h4 h5 => PZ.of h1 h3 h5 (.cons () (.cons () (.nil ⟨EnvAll.of h2 ⟨rfl, rfl, trivial⟩, h4⟩)))
          · rintro Fr _
            refine SO.passF rfl rfl rfl rfl rfl rfl ?_
            exact SO.nilZ fun a w h1 h2 h3 h4 h5 => PZ.of h1 h3 h5 (.cons () (.cons () (.nil ⟨EnvAll.of h2 ⟨rfl, rfl, trivial⟩, h4⟩)))
          · rintro Fr _
            refine SO.passF rfl rfl rfl rfl rfl rfl ?_
            exact SO.nilZ fun a w h1 h2 h3 h4 h5 => PZ.of h1 h3 h5 (.cons () (.cons () (.nil ⟨EnvAll.of h2 ⟨rfl, rfl, trivial⟩, h4⟩)))
          · rintro Fr _
            refine SO.passF rfl rfl rfl rfl rfl rfl ?_
            exact SO.nilZ fun a w h1 h2 h3 h4 h5 => PZ.of h1 h3 h5 (.cons () (.cons () (.nil ⟨EnvAll.of h2 ⟨rfl, rfl, trivial⟩, h4⟩)))
          · rintro Fr _
            refine SO.passF rfl rfl rfl rfl rfl rfl ?_
            exact SO.nilZ fun a w h1 h2 h3 h4 h5 => PZ.of h1 h3 h5 (.cons () (.cons () (.nil ⟨EnvAll.of h2 ⟨rfl, rfl, trivial⟩, h4⟩)))
          · rintro Fr _ _
            refine SO.v rfl (opv_pick_tt rfl rfl) ?_
            exact SO.nilZ fun a w h1 h2 h3 h4 h5 => PZ.of h1 h3 h5 (.cons () (.cons () (.cons () (.nil ⟨EnvAll.of h2 ⟨rfl, rfl, rfl, trivial⟩, h4⟩))))
          rintro _ _ _ _ _ _ ⟨u98_L, u96_L⟩ ⟨u89_l, u87_l⟩ _ _ _
          refine S.to (ρ' := [(2, v2), (3, v3), (8, .bool false), (9, .bool t1), (17, .int .i64 x17_2), (10, bp b12 0), (12, bp b20 0), (13, v13_e1), (14, v14_e1), (174, .bool true)]) ⟨rfl, rfl, rfl, rfl, rfl, rfl, rfl, rfl, rfl, rfl, trivial⟩ ?_
          refine S.rd fun hr117 => ?_
          refine S.b1 ?_
          refine S.rd fun hr118 => ?_
          refine S.b4 ?_
          refine S.rd fun hr119 => ?_
          refine S.b5 ?_
          refine S.rd fun hr120 => ?_
          cases h
          refine S.b10 ?_
          refine S.b8 ?_
          refine S.b7 ?_
          refine S.b10 ?_
          refine S.b9 ?_
          refine S.b10 ?_
          refine S.b10 ?_
          refine S.b9 ?_
          refine S.b8 ?_
          refine S.b10 ?_
          refine S.b10 ?_
          refine S.to ?_ (hk4 (u96_L, u87_l, u98_L, u89_l) trivial)
          exact ⟨rfl, rfl, rfl, rfl, rfl, rfl, rfl, rfl, rfl, rfl, trivial⟩
        replace h := cond_f b116 h
        obtain ⟨t123, ht124, h⟩ := opt_bind h
        obtain ⟨t127, ht128, h⟩ := opt_bind h
        rcases bool_or (t123 != t127) with b129 | b129
        · replace h := cond_t b129 h
          refine S.draw2 (Y := fun Q => ∃ (_ _ _ _ _ _ _ _ _ _ _ _ _ _ _ _ _ : Unit), Q [(13, v13_e1), (18, .int .i64 j18_3), (10, bp b12 0), (14, v14_e1), (12, bp b20 0), (2, v2), (3, v3), (8, .bool false), (9, .bool t1), (17, .int .i64 x17_2)] [Own 66 ek_ref07_Entry g81_L x74.L, Box b77 [.int .i64 x74.Mark, g81_L, .int .i64 x74.Status, .int .i64 x74.At], OwnPH rep_ref07_Desc 40 v14_e1 bs76 qv14_e1_2 j18_3.toNat, Own 53 ek_tx_Entry g72_l x65.l, Box b68 [.int .i64 x65.mark, g72_l, .int .i64 x65.status, .int .i64 x65.at_], OwnPH rep_desc_Desc 38 v13_e1 bs67 qv13_e1_2 j18_3.toNat, Own 55 ek_api_Cell vy20_0_2 y20_0_2, Own 55 ek_api_Cell vy12_0_2 y12_0_2, Box b20 [vy20_0_2, .int .u32 y20_1_2], Box b12 [vy12_0_2, .int .u32 y12_1_2], F]) (Z := fun Q => ∀ (_ _ _ _ _ _ : Unit) (g_6 : (Value × Value)) (g_7 : (Value × Value)) (_ _ _ : Unit), Q [(2, v2), (3, v3), (8, .bool false), (9, .bool t1), (17, .int .i64 x17_2), (10, bp b12 0), (12, bp b20 0), (13, v13_e1), (14, v14_e1), (174, .bool true), (129, .int .i64 t92), (123, .int .i64 t83)] [Own 55 ek_api_Cell g_6.1 p94.L, Own 66 ek_ref07_Entry g_6.2 p93.L, Box b77 [.int .i64 p93.Mark, g_6.2, .int .i64 p93.Status, .int .i64 p93.At], Box b20 [g_6.1, .int .u32 p94.Limit], Own 55 ek_api_Cell g_7.1 p85.l, Own 53 ek_tx_Entry g_7.2 p84.l, Box b68 [.int .i64 p84.mark, g_7.2, .int .i64 p84.status, .int .i64 p84.at_], Box b12 [g_7.1, .int .u32 p85.limit], OwnPH rep_ref07_Desc 40 v14_e1 bs76 qv14_e1_2 j18_3.toNat, OwnPH rep_desc_Desc 38 v13_e1 bs67 qv13_e1_2 j18_3.toNat, F]) (T := [tS 13 (v13_e1), tS 18 (.int .i64 j18_3), tS 10 (bp b12 0), tS 14 (v14_e1), tS 12 (bp b20 0), tE [(2, v2), (3, v3), (8, .bool false), (9, .bool t1), (17, .int .i64 x17_2)], tR (Own 66 ek_ref07_Entry g81_L x74.L), tR (Box b77 [.int .i64 x74.Mark, g81_L, .int .i64 x74.Status, .int .i64 x74.At]), tR (OwnPH rep_ref07_Desc 40 v14_e1 bs76 qv14_e1_2 j18_3.toNat), tR (Own 53 ek_tx_Entry g72_l x65.l), tR (Box b68 [.int .i64 x65.mark, g72_l, .int .i64 x65.status, .int .i64 x65.at_]), tR (OwnPH rep_desc_Desc 38 v13_e1 bs67 qv13_e1_2 j18_3.toNat), tR (Own 55 ek_api_Cell vy20_0_2 y20_0_2), tR (Own 55 ek_api_Cell vy12_0_2 y12_0_2), tR (Box b20 [vy20_0_2, .int .u32 y20_1_2]), tR (Box b12 [vy12_0_2, .int .u32 y12_1_2]), tR (F), tS 118 (v13_e1), tS 119 (.int .i64 j18_3), tS 120 (idxp v13_e1 (j18_3.toNat * ekP.sz)), tS 121 (bp b68 0), tS 122 (bp b12 0), ⟨(Value × Value), [123], (fun x => match x with | (u89_l, u87_l) => [(123, .int .i64 t83)]), (fun x => match x with | (u89_l, u87_l) => [Own 55 ek_api_Cell u89_l p85.l, Own 53 ek_tx_Entry u87_l p84.l, Box b68 [.int .i64 p84.mark, u87_l, .int .i64 p84.status, .int .i64 p84.at_], Box b12 [u89_l, .int .u32 p85.limit]]), fun _ => rfl⟩, tS 124 (v14_e1), tS 125 (.int .i64 j18_3), tS 126 (idxp v14_e1 (j18_3.toNat * ekP.sz)), tS 127 (bp b77 0), tS 128 (bp b20 0), ⟨(Value × Value), [129], (fun x => match x with | (u98_L, u96_L) => [(129, .int .i64 t92)]), (fun x => match x with | (u98_L, u96_L) => [Own 55 ek_api_Cell u98_L p94.L, Own 66 ek_ref07_Entry u96_L p93.L, Box b77 [.int .i64 p93.Mark, u96_L, .int .i64 p93.Status, .int .i64 p93.At], Box b20 [u98_L, .int .u32 p94.Limit]]), fun _ => rfl⟩, tS 130 (.bool (t83 != t92)), tS 131 (.bool (t83 != t92)), tS 132 (v13_e1), tS 133 (.int .i64 j18_3), tS 134 (idxp v13_e1 (j18_3.toNat * ekP.sz)), tS 135 (bp b68 0), tS 136 (.int .i64 t112), tS 137 (v14_e1), tS 138 (.int .i64 j18_3), tS 139 (idxp v14_e1 (j18_3.toNat * ekP.sz)), tS 140 (bp b77 0), tS 141 (bp b77 0), tS 142 (bp b77 2), tS 143 (.int .i64 p93.Status), tS 144 (.bool (t112 != p93.Status)), tS 145 (.bool (t112 != p93.Status)), tS 146 (.bool (t112 != p93.Status)), tS 147 (v13_e1), tS 148 (.int .i64 j18_3), tS 149 (idxp v13_e1 (j18_3.toNat * ekP.sz)), tS 150 (bp b68 0), tS 151 (.bool t123), tS 152 (v14_e1), tS 153 (.int .i64 j18_3), tS 154 (idxp v14_e1 (j18_3.toNat * ekP.sz)), tS 155 (bp b77 0), tS 156 (.bool t127), tS 157 (.bool (t123 != t127)), tS 158 (.bool (t123 != t127)), tS 159 (.bool (t123 != t127)), tS 160 (undef), tS 161 (undef), tS 162 (undef), tS 163 (undef), tS 164 (undef), tS 165 (undef), tS 166 (undef), tS 167 (undef), tS 168 (.bool true), tS 169 (.bool true), tS 170 (undef), tS 171 (undef), tS 172 (undef), tS 173 (undef), tS 174 (.bool true)]) (D := [⟨[0], [], [17]⟩, ⟨[1], [], [18]⟩, ⟨[17, 18, 11], [], [19]⟩, ⟨[19, 11], [], [20]⟩, ⟨[2], [], [21]⟩, ⟨[20, 21], [10, 9, 15, 13], [22]⟩, ⟨[3], [], [23]⟩, ⟨[1], [], [24]⟩, ⟨[23, 24, 8], [], [25]⟩, ⟨[25, 8], [], [26]⟩, ⟨[4], [], [27]⟩, ⟨[26, 27], [7, 6, 14, 12], [28]⟩, ⟨[22, 28], [], [29]⟩, ⟨[29], [], [30]⟩, ⟨[0, 30], [], [31]⟩, ⟨[1, 30], [], [32]⟩, ⟨[30, 31, 32, 11], [], [33]⟩, ⟨[30, 33, 11], [], [34]⟩, ⟨[30, 34, 22], [], [35]⟩, ⟨[3, 30], [], [36]⟩, ⟨[1, 30], [], [37]⟩, ⟨[30, 36, 37, 8], [], [38]⟩, ⟨[30, 38, 8], [], [39]⟩, ⟨[30, 39], [], [40]⟩, ⟨[30, 40], [], [41]⟩, ⟨[30, 41, 28], [], [42]⟩, ⟨[30, 35, 42], [], [43]⟩, ⟨[30, 43], [], [44]⟩, ⟨[44], [], [45]⟩, ⟨[0, 45], [], [46]⟩, ⟨[1, 45], [], [47]⟩, ⟨[45, 46, 47, 11], [], [48]⟩, ⟨[45, 48, 11], [], [49]⟩, ⟨[45, 49, 22], [], [50]⟩, ⟨[3, 45], [], [51]⟩, ⟨[1, 45], [], [52]⟩, ⟨[45, 51, 52, 8], [], [53]⟩, ⟨[45, 53, 8], [], [54]⟩, ⟨[45, 54, 28], [], [55]⟩, ⟨[45, 50, 55], [], [56]⟩, ⟨[45, 56], [], [57]⟩, ⟨[57], [], [58]⟩, ⟨[58], [], [59]⟩, ⟨[58], [], [60]⟩, ⟨[58], [], [61]⟩, ⟨[58], [], [62]⟩, ⟨[58], [], [63]⟩, ⟨[58], [], [64]⟩, ⟨[58], [], [65]⟩, ⟨[58], [], [66]⟩, ⟨[58, 66], [], [67]⟩, ⟨[67], [], [68]⟩, ⟨[68], [], [69]⟩, ⟨[68], [], [70]⟩, ⟨[68], [], [71]⟩, ⟨[68], [], [72]⟩, ⟨[68, 72], [], [73]⟩]) (ini := [0, 1, 2, 3, 4, 5, 6, 7, 8, 9, 10, 11, 12, 13, 14, 15, 16]) (fin := [5, 2, 4, 0, 3, 73, 28, 22, 8, 11, 16]) (bf := [[], [], [0, 1], [0, 1, 2], [], [0, 1, 2, 3, 4], [], [], [6, 7], [6, 7, 8], [], [0, 1, 2, 3, 4, 5, 6, 7, 8, 9, 10], [0, 1, 2, 3, 4, 5, 6, 7, 8, 9, 10, 11], [0, 1, 2, 3, 4, 5, 6, 7, 8, 9, 10, 11, 12], [0, 1, 2, 3, 4, 5, 6, 7, 8, 9, 10, 11, 12, 13], [0, 1, 2, 3, 4, 5, 6, 7, 8, 9, 10, 11, 12, 13], [0, 1, 2, 3, 4, 5, 6, 7, 8, 9, 10, 11, 12, 13, 14, 15], [0, 1, 2, 3, 4, 5, 6, 7, 8, 9, 10, 11, 12, 13, 14, 15, 16], [0, 1, 2, 3, 4, 5, 6, 7, 8, 9, 10, 11, 12, 13, 14, 15, 16, 17], [0, 1, 2, 3, 4, 5, 6, 7, 8, 9, 10, 11, 12, 13], [0, 1, 2, 3, 4, 5, 6, 7, 8, 9, 10, 11, 12, 13], [0, 1, 2, 3, 4, 5, 6, 7, 8, 9, 10, 11, 12, 13, 19, 20], [0, 1, 2, 3, 4, 5, 6, 7, 8, 9, 10, 11, 12, 13, 19, 20, 21], [0, 1, 2, 3, 4, 5, 6, 7, 8, 9, 10, 11, 12, 13, 19, 20, 21, 22], [0, 1, 2, 3, 4, 5, 6, 7, 8, 9, 10, 11, 12, 13, 19, 20, 21, 22, 23], [0, 1, 2, 3, 4, 5, 6, 7, 8, 9, 10, 11, 12, 13, 19, 20, 21, 22, 23, 24], [0, 1, 2, 3, 4, 5, 6, 7, 8, 9, 10, 11, 12, 13, 14, 15, 16, 17, 18, 19, 20, 21, 22, 23, 24, 25], [0, 1, 2, 3, 4, 5, 6, 7, 8, 9, 10, 11, 12, 13, 14, 15, 16, 17, 18, 19, 20, 21, 22, 23, 24, 25, 26], [0, 1, 2, 3, 4, 5, 6, 7, 8, 9, 10, 11, 12, 13, 14, 15, 16, 17, 18, 19, 20, 21, 22, 23, 24, 25, 26, 27], [0, 1, 2, 3, 4, 5, 6, 7, 8, 9, 10, 11, 12, 13, 14, 15, 16, 17, 18, 19, 20, 21, 22, 23, 24, 25, 26, 27, 28], [0, 1, 2, 3, 4, 5, 6, 7, 8, 9, 10, 11, 12, 13, 14, 15, 16, 17, 18, 19, 20, 21, 22, 23, 24, 25, 26, 27, 28], [0, 1, 2, 3, 4, 5, 6, 7, 8, 9, 10, 11, 12, 13, 14, 15, 16, 17, 18, 19, 20, 21, 22, 23, 24, 25, 26, 27, 28, 29, 30], [0, 1, 2, 3, 4, 5, 6, 7, 8, 9, 10, 11, 12, 13, 14, 15, 16, 17, 18, 19, 20, 21, 22, 23, 24, 25, 26, 27, 28, 29, 30, 31], [0, 1, 2, 3, 4, 5, 6, 7, 8, 9, 10, 11, 12, 13, 14, 15, 16, 17, 18, 19, 20, 21, 22, 23, 24, 25, 26, 27, 28, 29, 30, 31, 32], [0, 1, 2, 3, 4, 5, 6, 7, 8, 9, 10, 11, 12, 13, 14, 15, 16, 17, 18, 19, 20, 21, 22, 23, 24, 25, 26, 27, 28], [0, 1, 2, 3, 4, 5, 6, 7, 8, 9, 10, 11, 12, 13, 14, 15, 16, 17, 18, 19, 20, 21, 22, 23, 24, 25, 26, 27, 28], [0, 1, 2, 3, 4, 5, 6, 7, 8, 9, 10, 11, 12, 13, 14, 15, 16, 17, 18, 19, 20, 21, 22, 23, 24, 25, 26, 27, 28, 34, 35], [0, 1, 2, 3, 4, 5, 6, 7, 8, 9, 10, 11, 12, 13, 14, 15, 16, 17, 18, 19, 20, 21, 22, 23, 24, 25, 26, 27, 28, 34, 35, 36], [0, 1, 2, 3, 4, 5, 6, 7, 8, 9, 10, 11, 12, 13, 14, 15, 16, 17, 18, 19, 20, 21, 22, 23, 24, 25, 26, 27, 28, 29, 30, 31, 32, 33, 34, 35, 36, 37], [0, 1, 2, 3, 4, 5, 6, 7, 8, 9, 10, 11, 12, 13, 14, 15, 16, 17, 18, 19, 20, 21, 22, 23, 24, 25, 26, 27, 28, 29, 30, 31, 32, 33, 34, 35, 36, 37, 38], [0, 1, 2, 3, 4, 5, 6, 7, 8, 9, 10, 11, 12, 13, 14, 15, 16, 17, 18, 19, 20, 21, 22, 23, 24, 25, 26, 27, 28, 29, 30, 31, 32, 33, 34, 35, 36, 37, 38, 39], [0, 1, 2, 3, 4, 5, 6, 7, 8, 9, 10, 11, 12, 13, 14, 15, 16, 17, 18, 19, 20, 21, 22, 23, 24, 25, 26, 27, 28, 29, 30, 31, 32, 33, 34, 35, 36, 37, 38, 39, 40], [0, 1, 2, 3, 4, 5, 6, 7, 8, 9, 10, 11, 12, 13, 14, 15, 16, 17, 18, 19, 20, 21, 22, 23, 24, 25, 26, 27, 28, 29, 30, 31, 32, 33, 34, 35, 36, 37, 38, 39, 40, 41], [0, 1, 2, 3, 4, 5, 6, 7, 8, 9, 10, 11, 12, 13, 14, 15, 16, 17, 18, 19, 20, 21, 22, 23, 24, 25, 26, 27, 28, 29, 30, 31, 32, 33, 34, 35, 36, 37, 38, 39, 40, 41], [0, 1, 2, 3, 4, 5, 6, 7, 8, 9, 10, 11, 12, 13, 14, 15, 16, 17, 18, 19, 20, 21, 22, 23, 24, 25, 26, 27, 28, 29, 30, 31, 32, 33, 34, 35, 36, 37, 38, 39, 40, 41, 42, 43], [0, 1, 2, 3, 4, 5, 6, 7, 8, 9, 10, 11, 12, 13, 14, 15, 16, 17, 18, 19, 20, 21, 22, 23, 24, 25, 26, 27, 28, 29, 30, 31, 32, 33, 34, 35, 36, 37, 38, 39, 40, 41, 42, 43, 44], [0, 1, 2, 3, 4, 5, 6, 7, 8, 9, 10, 11, 12, 13, 14, 15, 16, 17, 18, 19, 20, 21, 22, 23, 24, 25, 26, 27, 28, 29, 30, 31, 32, 33, 34, 35, 36, 37, 38, 39, 40, 41, 42, 43, 44, 45], [0, 1, 2, 3, 4, 5, 6, 7, 8, 9, 10, 11, 12, 13, 14, 15, 16, 17, 18, 19, 20, 21, 22, 23, 24, 25, 26, 27, 28, 29, 30, 31, 32, 33, 34, 35, 36, 37, 38, 39, 40, 41], [0, 1, 2, 3, 4, 5, 6, 7, 8, 9, 10, 11, 12, 13, 14, 15, 16, 17, 18, 19, 20, 21, 22, 23, 24, 25, 26, 27, 28, 29, 30, 31, 32, 33, 34, 35, 36, 37, 38, 39, 40, 41, 47], [0, 1, 2, 3, 4, 5, 6, 7, 8, 9, 10, 11, 12, 13, 14, 15, 16, 17, 18, 19, 20, 21, 22, 23, 24, 25, 26, 27, 28, 29, 30, 31, 32, 33, 34, 35, 36, 37, 38, 39, 40, 41, 42, 43, 44, 45, 46, 47, 48], [0, 1, 2, 3, 4, 5, 6, 7, 8, 9, 10, 11, 12, 13, 14, 15, 16, 17, 18, 19, 20, 21, 22, 23, 24, 25, 26, 27, 28, 29, 30, 31, 32, 33, 34, 35, 36, 37, 38, 39, 40, 41, 42, 43, 44, 45, 46, 47, 48, 49], [0, 1, 2, 3, 4, 5, 6, 7, 8, 9, 10, 11, 12, 13, 14, 15, 16, 17, 18, 19, 20, 21, 22, 23, 24, 25, 26, 27, 28, 29, 30, 31, 32, 33, 34, 35, 36, 37, 38, 39, 40, 41, 42, 43, 44, 45, 46, 47, 48, 49, 50], [0, 1, 2, 3, 4, 5, 6, 7, 8, 9, 10, 11, 12, 13, 14, 15, 16, 17, 18, 19, 20, 21, 22, 23, 24, 25, 26, 27, 28, 29, 30, 31, 32, 33, 34, 35, 36, 37, 38, 39, 40, 41, 42, 43, 44, 45, 46, 47, 48, 49, 50, 51], [0, 1, 2, 3, 4, 5, 6, 7, 8, 9, 10, 11, 12, 13, 14, 15, 16, 17, 18, 19, 20, 21, 22, 23, 24, 25, 26, 27, 28, 29, 30, 31, 32, 33, 34, 35, 36, 37, 38, 39, 40, 41, 42, 43, 44, 45, 46, 47, 48, 49, 50, 51], [0, 1, 2, 3, 4, 5, 6, 7, 8, 9, 10, 11, 12, 13, 14, 15, 16, 17, 18, 19, 20, 21, 22, 23, 24, 25, 26, 27, 28, 29, 30, 31, 32, 33, 34, 35, 36, 37, 38, 39, 40, 41, 42, 43, 44, 45, 46, 47, 48, 49, 50, 51, 52, 53], [0, 1, 2, 3, 4, 5, 6, 7, 8, 9, 10, 11, 12, 13, 14, 15, 16, 17, 18, 19, 20, 21, 22, 23, 24, 25, 26, 27, 28, 29, 30, 31, 32, 33, 34, 35, 36, 37, 38, 39, 40, 41, 42, 43, 44, 45, 46, 47, 48, 49, 50, 51, 52, 53, 54], [0, 1, 2, 3, 4, 5, 6, 7, 8, 9, 10, 11, 12, 13, 14, 15, 16, 17, 18, 19, 20, 21, 22, 23, 24, 25, 26, 27, 28, 29, 30, 31, 32, 33, 34, 35, 36, 37, 38, 39, 40, 41, 42, 43, 44, 45, 46, 47, 48, 49, 50, 51, 52, 53, 54, 55]]) (by kernel_rfl) (by kernel_rfl) (fun Q => by kernel_rfl) (fun x w h1 h2 => ⟨(), (), (), (), (), (), (), (), (), (), (), (), (), (), (), (), (), EnvAll.of h1 ⟨rfl, rfl, rfl, rfl, rfl, rfl, rfl, rfl, rfl, rfl, trivial⟩, h2⟩) (fun Q => by kernel_rfl) ⟨?_, ?_, ?_, ?_, ?_, ?_, ?_, ?_, ?_, ?_, ?_, ?_, ?_, ?_, ?_, ?_, ?_, ?_, ?_, ?_, ?_, ?_, ?_, ?_, ?_, ?_, ?_, ?_, ?_, ?_, ?_, ?_, ?_, ?_, ?_, ?_, ?_, ?_, ?_, ?_, ?_, ?_, ?_, ?_, ?_, ?_, ?_, ?_, ?_, ?_, ?_, ?_, ?_, ?_, ?_, ?_, ?_, trivial⟩ ?_
          · rintro Fr _
            refine SO.v rfl (opv_move rfl) ?_
            exact SO.nilZ fun a w h1 h2 h3 h4 h5 => PZ.of h1 h3 h5 (.cons () (.cons () (.nil ⟨EnvAll.of h2 ⟨rfl, rfl, trivial⟩, h4⟩)))
          · rintro Fr _
            refine SO.v rfl (opv_move rfl) ?_
            exact SO.nilZ fun a w h1 h2 h3 h4 h5 => PZ.of h1 h3 h5 (.cons () (.cons () (.nil ⟨EnvAll.of h2 ⟨rfl, rfl, trivial⟩, h4⟩)))
          · rintro Fr _ _ _
            refine SO.v rfl (opv_idx (K := ekP) Try.underlying35 Try.sizeOf38 hRp71 rfl rfl hb69) ?_
            exact SO.nilZ fun a w h1 h2 h3 h4 h5 => PZ.of h1 h3 h5 (.cons () (.cons () (.cons () (.cons () (.nil ⟨EnvAll.of h2 ⟨rfl, rfl, rfl, trivial⟩, h4⟩)))))
          · rintro Fr _ _
            refine SO.loadI1 (j := 0) (K := ekP) rfl Try.isAgg38 (Rd.head hRp71) hb69 rfl rfl rfl rfl ?_
            exact SO.nilZ fun a w h1 h2 h3 h4 h5 => PZ.of h1 h3 h5 (.cons () (.cons () (.cons () (.nil ⟨EnvAll.of h2 ⟨rfl, rfl, trivial⟩, h4⟩))))
          · rintro Fr _
            refine SO.v rfl (opv_move rfl) ?_
            exact SO.nilZ fun a w h1 h2 h3 h4 h5 => PZ.of h1 h3 h5 (.cons () (.cons () (.nil ⟨EnvAll.of h2 ⟨rfl, rfl, trivial⟩, h4⟩)))
          · refine spec2 (X := fun Q => ∀ (_ _ _ _ _ _ : Unit), Q [(121, bp b68 0), (122, bp b12 0)] [Box b68 [.int .i64 x65.mark, g72_l, .int .i64 x65.status, .int .i64 x65.at_], Own 53 ek_tx_Entry g72_l x65.l, Box b12 [vy12_0_2, .int .u32 y12_1_2], Own 55 ek_api_Cell vy12_0_2 y12_0_2]) (fun Q => by kernel_rfl) ?_
            rintro Fr _ _ _ _ _ _
            refine SO.b3 ?_
            refine SO.b3 ?_
            refine SO.b3 ?_
            refine SO.b3 ?_
            have ct91 := desc_Desc_Step.ct b68 g72_l b12 vy12_0_2 _ _ _ _ _ ht86
            try dsimp only at ct91
            refine SO.call (pre := [Box _ _, Own _ _ _ _, Box _ _, Own _ _ _ _]) rfl Try.call9 rfl rfl rfl ct91 trivial ?_
            rintro _ _ ⟨u87_l, u89_l, rfl, rfl⟩
            refine SO.b1 ?_
            refine SO.rd fun hr88 => ?_
            refine SO.b3 ?_
            refine SO.rd fun hr90 => ?_
            refine SO.b3 ?_
            refine SO.b3 ?_
            refine SO.b3 ?_
            refine SO.b3 ?_
            exact SO.nilZ fun a w h1 h2 h3 h4 h5 => PZ.of h1 h3 h5 (.cons () (.cons () (.cons (u89_l, u87_l) (.nil ⟨EnvAll.of h2 ⟨rfl, rfl, rfl, trivial⟩, h4⟩))))
          · rintro Fr _
            refine SO.v rfl (opv_move rfl) ?_
            exact SO.nilZ fun a w h1 h2 h3 h4 h5 => PZ.of h1 h3 h5 (.cons () (.cons () (.nil ⟨EnvAll.of h2 ⟨rfl, rfl, trivial⟩, h4⟩)))
          · rintro Fr _
            refine SO.v rfl (opv_move rfl) ?_
            exact SO.nilZ fun a w h1 h2 h3 h4 h5 => PZ.of h1 h3 h5 (.cons () (.cons () (.nil ⟨EnvAll.of h2 ⟨rfl, rfl, trivial⟩, h4⟩)))
          · rintro Fr _ _ _
            refine SO.v rfl (opv_idx (K := ekP) Try.underlying36 Try.sizeOf40 hRp80 rfl rfl hb78) ?_
            exact SO.nilZ fun a w h1 h2 h3 h4 h5 => PZ.of h1 h3 h5 (.cons () (.cons () (.cons () (.cons () (.nil ⟨EnvAll.of h2 ⟨rfl, rfl, rfl, trivial⟩, h4⟩)))))
          · rintro Fr _ _
            refine SO.loadI1 (j := 0) (K := ekP) rfl Try.isAgg40 (Rd.head hRp80) hb78 rfl rfl rfl rfl ?_
            exact SO.nilZ fun a w h1 h2 h3 h4 h5 => PZ.of h1 h3 h5 (.cons () (.cons () (.cons () (.nil ⟨EnvAll.of h2 ⟨rfl, rfl, trivial⟩, h4⟩))))
          · rintro Fr _
            refine SO.v rfl (opv_move rfl) ?_
            exact SO.nilZ fun a w h1 h2 h3 h4 h5 => PZ.of h1 h3 h5 (.cons () (.cons () (.nil ⟨EnvAll.of h2 ⟨rfl, rfl, trivial⟩, h4⟩)))
          · refine spec2 (X := fun Q => ∀ (_ _ _ _ _ _ : Unit), Q [(127, bp b77 0), (128, bp b20 0)] [Box b77 [.int .i64 x74.Mark, g81_L, .int .i64 x74.Status, .int .i64 x74.At], Own 66 ek_ref07_Entry g81_L x74.L, Box b20 [vy20_0_2, .int .u32 y20_1_2], Own 55 ek_api_Cell vy20_0_2 y20_0_2]) (fun Q => by kernel_rfl) ?_
            rintro Fr _ _ _ _ _ _
            refine SO.b3 ?_
            refine SO.b3 ?_
            refine SO.b3 ?_
            refine SO.b3 ?_
            have ct100 := ref07_Desc_Step.ct b77 g81_L b20 vy20_0_2 _ _ _ _ _ ht95
            try dsimp only at ct100
            refine SO.call (pre := [Box _ _, Own _ _ _ _, Box _ _, Own _ _ _ _]) rfl Try.call10 rfl rfl rfl ct100 trivial ?_
            rintro _ _ ⟨u96_L, u98_L, rfl, rfl⟩
            refine SO.b1 ?_
            refine SO.rd fun hr97 => ?_
            refine SO.b3 ?_
            refine SO.rd fun hr99 => ?_
            refine SO.b3 ?_
            refine SO.b3 ?_
            refine SO.b3 ?_
            refine SO.b3 ?_
            exact SO.nilZ fun a w h1 h2 h3 h4 h5 => PZ.of h1 h3 h5 (.cons () (.cons () (.cons (u98_L, u96_L) (.nil ⟨EnvAll.of h2 ⟨rfl, rfl, rfl, trivial⟩, h4⟩))))
          · rintro Fr ⟨u89_l, u87_l⟩ ⟨u98_L, u96_L⟩
            refine SO.rd fun hr101 => ?_
            refine SO.b1 ?_
            refine SO.rd fun hr102 => ?_
            refine SO.b4 ?_
            refine SO.rd fun hr103 => ?_
            refine SO.b5 ?_
            refine SO.rd fun hr104 => ?_
            refine SO.v rfl (opv_neq rfl rfl) ?_
            refine SO.b7 ?_
            refine SO.b7 ?_
            refine SO.b2 ?_
            refine SO.b3 ?_
            refine SO.b7 ?_
            refine SO.b7 ?_
            refine SO.b6 ?_
            refine SO.b7 ?_
            exact SO.nilZ fun a w h1 h2 h3 h4 h5 => PZ.of h1 h3 h5 (.cons (u89_l, u87_l) (.cons (u98_L, u96_L) (.cons () (.nil ⟨EnvAll.of h2 ⟨rfl, rfl, rfl, trivial⟩, h4⟩))))
          · rintro Fr _
            refine SO.v rfl (opv_move rfl) ?_
            exact SO.nilZ fun a w h1 h2 h3 h4 h5 => PZ.of h1 h3 h5 (.cons () (.cons () (.nil ⟨EnvAll.of h2 ⟨rfl, rfl, trivial⟩, h4⟩)))
          · rintro Fr _ _
            refine SO.takeT rfl rfl rfl b105 ?_
            refine SO.v rfl (opv_move rfl) ?_
            exact SO.nilZ fun a w h1 h2 h3 h4 h5 => PZ.of h1 h3 h5 (.cons () (.cons () (.cons () (.nil ⟨EnvAll.of h2 ⟨rfl, rfl, rfl, trivial⟩, h4⟩))))
          · rintro Fr _ _
            refine SO.takeT rfl rfl rfl b105 ?_
            refine SO.v rfl (opv_move rfl) ?_
            exact SO.nilZ fun a w h1 h2 h3 h4 h5 => PZ.of h1 h3 h5 (.cons () (.cons () (.cons () (.nil ⟨EnvAll.of h2 ⟨rfl, rfl, rfl, trivial⟩, h4⟩))))
          · rintro Fr _ _ _ _
            refine SO.takeT rfl rfl rfl b105 ?_
            refine SO.v rfl (opv_idx (K := ekP) Try.underlying35 Try.sizeOf38 hRp71 rfl rfl hb69) ?_
            exact SO.nilZ fun a w h1 h2 h3 h4 h5 => PZ.of2 (Y := fun Q => ∃ (_ _ _ _ _ : Unit), Q [(131, .bool (t83 != t92)), (132, v13_e1), (133, .int .i64 j18_3), (134, idxp v13_e1 (j18_3.toNat * ekP.sz))] [OwnPH rep_desc_Desc 38 v13_e1 bs67 qv13_e1_2 j18_3.toNat]) (fun Q => by kernel_rfl) h1 h3 h5 ⟨(), (), (), (), (), EnvAll.of h2 ⟨rfl, rfl, rfl, rfl, trivial⟩, h4⟩
          · rintro Fr _ _ _
            refine SO.takeT rfl rfl rfl b105 ?_
            refine SO.loadI1 (j := 0) (K := ekP) rfl Try.isAgg38 (Rd.head hRp71) hb69 rfl rfl rfl rfl ?_
            exact SO.nilZ fun a w h1 h2 h3 h4 h5 => PZ.of h1 h3 h5 (.cons () (.cons () (.cons () (.cons () (.nil ⟨EnvAll.of h2 ⟨rfl, rfl, rfl, trivial⟩, h4⟩)))))
          · rintro Fr _ _ ⟨u89_l, u87_l⟩
            refine SO.rd fun hr110 => ?_
            refine SO.b1 ?_
            refine SO.rd fun hr111 => ?_
            refine SO.takeT rfl rfl rfl b105 ?_
            refine SO.b2 ?_
            refine SO.call (pre := [Box _ _, Own _ _ _ _]) rfl Try.call11 rfl rfl rfl (desc_Desc_Status.ct b68 u87_l _ _ ht113) trivial ?_
            rintro _ _ ⟨rfl, rfl⟩
            refine SO.b3 ?_
            refine SO.b1 ?_
            refine SO.b2 ?_
            refine SO.b3 ?_
            exact SO.nilZ fun a w h1 h2 h3 h4 h5 => PZ.of h1 h3 h5 (.cons () (.cons () (.cons (u89_l, u87_l) (.cons () (.nil ⟨EnvAll.of h2 ⟨rfl, rfl, rfl, rfl, trivial⟩, h4⟩)))))
          · rintro Fr _ _
            refine SO.takeT rfl rfl rfl b105 ?_
            refine SO.v rfl (opv_move rfl) ?_
            exact SO.nilZ fun a w h1 h2 h3 h4 h5 => PZ.of h1 h3 h5 (.cons () (.cons () (.cons () (.nil ⟨EnvAll.of h2 ⟨rfl, rfl, rfl, trivial⟩, h4⟩))))
          · rintro Fr _ _
            refine SO.takeT rfl rfl rfl b105 ?_
            refine SO.v rfl (opv_move rfl) ?_
            exact SO.nilZ fun a w h1 h2 h3 h4 h5 => PZ.of h1 h3 h5 (.cons () (.cons () (.cons () (.nil ⟨EnvAll.of h2 ⟨rfl, rfl, rfl, trivial⟩, h4⟩))))
          · rintro Fr _ _ _ _
            refine SO.takeT rfl rfl rfl b105 ?_
            refine SO.v rfl (opv_idx (K := ekP) Try.underlying36 Try.sizeOf40 hRp80 rfl rfl hb78) ?_
            exact SO.nilZ fun a w h1 h2 h3 h4 h5 => PZ.of2 (Y := fun Q => ∃ (_ _ _ _ _ : Unit), Q [(131, .bool (t83 != t92)), (137, v14_e1), (138, .int .i64 j18_3), (139, idxp v14_e1 (j18_3.toNat * ekP.sz))] [OwnPH rep_ref07_Desc 40 v14_e1 bs76 qv14_e1_2 j18_3.toNat]) (fun Q => by kernel_rfl) h1 h3 h5 ⟨(), (), (), (), (), EnvAll.of h2 ⟨rfl, rfl, rfl, rfl, trivial⟩, h4⟩
          · rintro Fr _ _ _
            refine SO.takeT rfl rfl rfl b105 ?_
            refine SO.loadI1 (j := 0) (K := ekP) rfl Try.isAgg40 (Rd.head hRp80) hb78 rfl rfl rfl rfl ?_
            exact SO.nilZ fun a w h1 h2 h3 h4 h5 => PZ.of h1 h3 h5 (.cons () (.cons () (.cons () (.cons () (.nil ⟨EnvAll.of h2 ⟨rfl, rfl, rfl, trivial⟩, h4⟩)))))
          · rintro Fr _ _
            refine SO.takeT rfl rfl rfl b105 ?_
            refine SO.v rfl (opv_nilCheck rfl) ?_
            exact SO.nilZ fun a w h1 h2 h3 h4 h5 => PZ.of h1 h3 h5 (.cons () (.cons () (.cons () (.nil ⟨EnvAll.of h2 ⟨rfl, rfl, rfl, trivial⟩, h4⟩))))
          · rintro Fr _ _
            refine SO.takeT rfl rfl rfl b105 ?_
            refine SO.v rfl (opv_fieldAddr Try.underlying44 rfl Try.sizeOf3 rfl rfl) ?_
            exact SO.nilZ fun a w h1 h2 h3 h4 h5 => PZ.of h1 h3 h5 (.cons () (.cons () (.cons () (.nil ⟨EnvAll.of h2 ⟨rfl, rfl, rfl, trivial⟩, h4⟩))))
          · rintro Fr _ _ ⟨u98_L, u96_L⟩
            refine SO.rd fun hr114 => ?_
            refine SO.b1 ?_
            refine SO.rd fun hr115 => ?_
            refine SO.takeT rfl rfl rfl b105 ?_
            refine SO.b2 ?_
            refine SO.load1 rfl Try.isAgg3 rfl rfl ?_
            refine SO.b3 ?_
            refine SO.b1 ?_
            refine SO.b2 ?_
            refine SO.b3 ?_
            exact SO.nilZ fun a w h1 h2 h3 h4 h5 => PZ.of h1 h3 h5 (.cons () (.cons () (.cons (u98_L, u96_L) (.cons () (.nil ⟨EnvAll.of h2 ⟨rfl, rfl, rfl, rfl, trivial⟩, h4⟩)))))
          · rintro Fr _ _ _
            refine SO.takeT rfl rfl rfl b105 ?_
            refine SO.v rfl (opv_neq rfl rfl) ?_
            exact SO.nilZ fun a w h1 h2 h3 h4 h5 => PZ.of h1 h3 h5 (.cons () (.cons () (.cons () (.cons () (.nil ⟨EnvAll.of h2 ⟨rfl, rfl, rfl, rfl, trivial⟩, h4⟩)))))
          · rintro Fr _ _
            refine SO.v rfl (opv_pick_f' b105 rfl rfl) ?_
            exact SO.nilZ fun a w h1 h2 h3 h4 h5 => PZ.of h1 h3 h5 (.cons () (.cons () (.cons () (.nil ⟨EnvAll.of h2 ⟨rfl, rfl, rfl, trivial⟩, h4⟩))))
          · rintro Fr _
            refine SO.v rfl (opv_move rfl) ?_
            exact SO.nilZ fun a w h1 h2 h3 h4 h5 => PZ.of h1 h3 h5 (.cons () (.cons () (.nil ⟨EnvAll.of h2 ⟨rfl, rfl, trivial⟩, h4⟩)))
          · rintro Fr _ _
            refine SO.takeT rfl rfl rfl b116 ?_
            refine SO.v rfl (opv_move rfl) ?_
            exact SO.nilZ fun a w h1 h2 h3 h4 h5 => PZ.of h1 h3 h5 (.cons () (.cons () (.cons () (.nil ⟨EnvAll.of h2 ⟨rfl, rfl, rfl, trivial⟩, h4⟩))))
          · rintro Fr _ _
            refine SO.takeT rfl rfl rfl b116 ?_
            refine SO.v rfl (opv_move rfl) ?_
            exact SO.nilZ fun a w h1 h2 h3 h4 h5 => PZ.of h1 h3 h5 (.cons () (.cons () (.cons () (.nil ⟨EnvAll.of h2 ⟨rfl, rfl, rfl, trivial⟩, h4⟩))))
          · rintro Fr _ _ _ _
            refine SO.takeT rfl rfl rfl b116 ?_
            refine SO.v rfl (opv_idx (K := ekP) Try.underlying35 Try.sizeOf38 hRp71 rfl rfl hb69) ?_
            exact SO.nilZ fun a w h1 h2 h3 h4 h5 => PZ.of2 (Y := fun Q => ∃ (_ _ _ _ _ : Unit), Q [(146, .bool (t112 != p93.Status)), (147, v13_e1), (148, .int .i64 j18_3), (149, idxp v13_e1 (j18_3.toNat * ekP.sz))] [OwnPH rep_desc_Desc 38 v13_e1 bs67 qv13_e1_2 j18_3.toNat]) (fun Q => by kernel_rfl) h1 h3 h5 ⟨(), (), (), (), (), EnvAll.of h2 ⟨rfl, rfl, rfl, rfl, trivial⟩, h4⟩
          · rintro Fr _ _ _
            refine SO.takeT rfl rfl rfl b116 ?_
            refine SO.loadI1 (j := 0) (K := ekP) rfl Try.isAgg38 (Rd.head hRp71) hb69 rfl rfl rfl rfl ?_
            exact SO.nilZ fun a w h1 h2 h3 h4 h5 => PZ.of h1 h3 h5 (.cons () (.cons () (.cons () (.cons () (.nil ⟨EnvAll.of h2 ⟨rfl, rfl, rfl, trivial⟩, h4⟩)))))
          · rintro Fr _ _ ⟨u89_l, u87_l⟩
            refine SO.rd fun hr121 => ?_
            refine SO.b1 ?_
            refine SO.rd fun hr122 => ?_
            refine SO.takeT rfl rfl rfl b116 ?_
            refine SO.b2 ?_
            refine SO.call (pre := [Box _ _, Own _ _ _ _]) rfl Try.call12 rfl rfl rfl (desc_Desc_Over.ct b68 u87_l _ _ ht124) trivial ?_
            rintro _ _ ⟨rfl, rfl⟩
            refine SO.b3 ?_
            refine SO.b1 ?_
            refine SO.b2 ?_
            refine SO.b3 ?_
            exact SO.nilZ fun a w h1 h2 h3 h4 h5 => PZ.of h1 h3 h5 (.cons () (.cons () (.cons (u89_l, u87_l) (.cons () (.nil ⟨EnvAll.of h2 ⟨rfl, rfl, rfl, rfl, trivial⟩, h4⟩)))))
          · rintro Fr _ _
            refine SO.takeT rfl rfl rfl b116 ?_
            refine SO.v rfl (opv_move rfl) ?_
            exact SO.nilZ fun a w h1 h2 h3 h4 h5 => PZ.of h1 h3 h5 (.cons () (.cons () (.cons () (.nil ⟨EnvAll.of h2 ⟨rfl, rfl, rfl, trivial⟩, h4⟩))))
          · rintro Fr _ _
            refine SO.takeT rfl rfl rfl b116 ?_
            refine SO.v rfl (opv_move rfl) ?_
            exact SO.nilZ fun a w h1 h2 h3 h4 h5 => PZ.of h1 h3 h5 (.cons () (.cons () (.cons () (.nil ⟨EnvAll.of h2 ⟨rfl, rfl, rfl, trivial⟩, h4⟩))))
          · rintro Fr _ _ _ _
            refine SO.takeT rfl rfl rfl b116 ?_
            refine SO.v rfl (opv_idx (K := ekP) Try.underlying36 Try.sizeOf40 hRp80 rfl rfl hb78) ?_
            exact SO.nilZ fun a w h1 h2 h3 h4 h5 => PZ.of2 (Y := fun Q => ∃ (_ _ _ _ _ : Unit), Q [(146, .bool (t112 != p93.Status)), (152, v14_e1), (153, .int .i64 j18_3), (154, idxp v14_e1 (j18_3.toNat * ekP.sz))] [OwnPH rep_ref07_Desc 40 v14_e1 bs76 qv14_e1_2 j18_3.toNat]) (fun Q => by kernel_rfl) h1 h3 h5 ⟨(), (), (), (), (), EnvAll.of h2 ⟨rfl, rfl, rfl, rfl, trivial⟩, h4⟩
          · rintro Fr _ _ _
            refine SO.takeT rfl rfl rfl b116 ?_
            refine SO.loadI1 (j := 0) (K := ekP) rfl Try.isAgg40 (Rd.head hRp80) hb78 rfl rfl rfl rfl ?_
            exact SO.nilZ fun a w h1 h2 h3 h4 h5 => PZ.of h1 h3 h5 (.cons () (.cons () (.cons () (.cons () (.nil ⟨EnvAll.of h2 ⟨rfl, rfl, rfl, trivial⟩, h4⟩)))))
          · rintro Fr _ _ ⟨u98_L, u96_L⟩
            refine SO.rd fun hr125 => ?_
            refine SO.b1 ?_
            refine SO.rd fun hr126 => ?_
            refine SO.takeT rfl rfl rfl b116 ?_
            refine SO.b2 ?_
            refine SO.call (pre := [Box _ _, Own _ _ _ _]) rfl Try.call13 rfl rfl rfl (ref07_Desc_Over.ct b77 u96_L _ _ ht128) trivial ?_
            rintro _ _ ⟨rfl, rfl⟩
            refine SO.b3 ?_
            refine SO.b1 ?_
            refine SO.b2 ?_
            refine SO.b3 ?_
            exact SO.nilZ fun a w h1 h2 h3 h4 h5 => PZ.of h1 h3 h5 (.cons () (.cons () (.cons (u98_L, u96_L) (.cons () (.nil ⟨EnvAll.of h2 ⟨rfl, rfl, rfl, rfl, trivial⟩, h4⟩)))))
          · rintro Fr _ _ _
            refine SO.takeT rfl rfl rfl b116 ?_
            refine SO.v rfl (opv_neqB Try.underlying4 rfl rfl) ?_
            exact SO.nilZ fun a w h1 h2 h3 h4 h5 => PZ.of h1 h3 h5 (.cons () (.cons () (.cons () (.cons () (.nil ⟨EnvAll.of h2 ⟨rfl, rfl, rfl, rfl, trivial⟩, h4⟩)))))
          · rintro Fr _ _
            refine SO.v rfl (opv_pick_f' b116 rfl rfl) ?_
            exact SO.nilZ fun a w h1 h2 h3 h4 h5 => PZ.of h1 h3 h5 (.cons () (.cons () (.cons () (.nil ⟨EnvAll.of h2 ⟨rfl, rfl, rfl, trivial⟩, h4⟩))))
          · rintro Fr _
            refine SO.v rfl (opv_move rfl) ?_
            exact SO.nilZ fun a w h1 h2 h3 h4 h5 => PZ.of h1 h3 h5 (.cons () (.cons () (.nil ⟨EnvAll.of h2 ⟨rfl, rfl, trivial⟩, h4⟩)))
          · rintro Fr _
            refine SO.passF rfl rfl rfl b129 rfl rfl ?_
            exact SO.nilZ fun a w h1 h2 h3 h4 h5 => PZ.of h1 h3 h5 (.cons () (.cons () (.nil ⟨EnvAll.of h2 ⟨rfl, rfl, trivial⟩, h4⟩)))
          · rintro Fr _
            refine SO.passF rfl rfl rfl b129 rfl rfl ?_
            exact SO.nilZ fun a w h1 h2 h3 h4 h5 => PZ.of h1 h3 h5 (.cons () (.cons () (.nil ⟨EnvAll.of h2 ⟨rfl, rfl, trivial⟩, h4⟩)))
          · rintro Fr _
            refine SO.passF rfl rfl rfl b129 rfl rfl ?_
            exact SO.nilZ fun a w h1 h2 h3 h4 h5 => PZ.of h1 h3 h5 (.cons () (.cons () (.nil ⟨EnvAll.of h2 ⟨rfl, rfl, trivial⟩, h4⟩)))
          · rintro Fr _
            refine SO.passF rfl rfl rfl b129 rfl rfl ?_
            exact SO.nilZ fun a w h1 h2 h3 h4 h5 => PZ.of h1 h3 h5 (.cons () (.cons () (.nil ⟨EnvAll.of h2 ⟨rfl, rfl, trivial⟩, h4⟩)))
          · rintro Fr _
            refine SO.passF rfl rfl rfl b129 rfl rfl ?_
            exact SO.nilZ fun a w h1 h2 h3 h4 h5 => PZ.of h1 h3 h5 (.cons () (.cons () (.nil ⟨EnvAll.of h2 ⟨rfl, rfl, trivial⟩, h4⟩)))
          · rintro Fr _
            refine SO.passF rfl rfl rfl b129 rfl rfl ?_
            exact SO.nilZ fun a w h1 h2 h3 h4 h5 => PZ.of h1 h3 h5 (.cons () (.cons () (.nil ⟨EnvAll.of h2 ⟨rfl, rfl, trivial⟩, h4⟩)))
          · rintro Fr _
            refine SO.passF rfl rfl rfl b129 rfl rfl ?_
            exact SO.nilZ fun a w h1 h2 h3 h4 h5 => PZ.of h1 h3 h5 (.cons () (.cons () (.nil ⟨EnvAll.of h2 ⟨rfl, rfl, trivial⟩, h4⟩)))
          · rintro Fr _
            refine SO.passF rfl rfl rfl b129 rfl rfl ?_
            exact SO.nilZ fun a w h1 h2 h3 h4 h5 => PZ.of h1 h3 h5 (.cons () (.cons () (.nil ⟨EnvAll.of h2 ⟨rfl, rfl, trivial⟩, h4⟩)))
          · rintro Fr _ _
            refine SO.v rfl (opv_pick_t' b129 rfl rfl) ?_
            exact SO.nilZ fun a w h1 h2 h3 h4 h5 => PZ.of h1 h3 h5 (.cons () (.cons () (.cons () (.nil ⟨EnvAll.of h2 ⟨rfl, rfl, rfl, trivial⟩, h4⟩))))
          · rintro Fr _
            refine SO.v rfl (opv_move rfl) ?_
            exact SO.nilZ fun a w h1 h2 h3 h4 h5 => PZ.of h1 h3 h5 (.cons () (.cons () (.nil ⟨EnvAll.of h2 ⟨rfl, rfl, trivial⟩, h4⟩)))
          · rintro Fr _
            refine SO.passF rfl rfl rfl rfl rfl rfl ?_
            exact SO.nilZ fun a w h1 h2 h3 h4 h5 => PZ.of h1 h3 h5 (.cons () (.cons () (.nil ⟨EnvAll.of h2 ⟨rfl, rfl, trivial⟩, h4⟩)))
          · rintro Fr _
            refine SO.passF rfl rfl rfl rfl rfl rfl ?_
            exact SO.nilZ fun a w h1 h2 h3 h4 h5 => PZ.of h1 h3 h5 (.cons () (.cons () (.nil ⟨EnvAll.of h2 ⟨rfl, rfl, trivial⟩, h4⟩)))
          · rintro Fr _
            refine SO.passF rfl rfl rfl rfl rfl rfl ?_
            exact SO.nilZ fun a w h1 h2 h3 h4 h5 => PZ.of h1 h3 h5 (.cons () (.cons () (.nil ⟨EnvAll.of h2 ⟨rfl, rfl, trivial⟩, h4⟩)))
          · rintro Fr _
            refine SO.passF rfl rfl rfl rfl rfl rfl ?_
            exact SO.nilZ fun a w h1 h2 h3 h4 h5 => PZ.of h1 h3 h5 (.cons () (.cons () (.nil ⟨EnvAll.of h2 ⟨rfl, rfl, trivial⟩, h4⟩)))
          · rintro Fr _ _
            refine SO.v rfl (opv_pick_tt rfl rfl) ?_
            exact SO.nilZ fun a w h1 h2 h3 h4 h5 => PZ.of h1 h3 h5 (.cons () (.cons () (.cons () (.nil ⟨EnvAll.of h2 ⟨rfl, rfl, rfl, trivial⟩, h4⟩))))
          rintro _ _ _ _ _ _ ⟨u98_L, u96_L⟩ ⟨u89_l, u87_l⟩ _ _ _
          refine S.to (ρ' := [(2, v2), (3, v3), (8, .bool false), (9, .bool t1), (17, .int .i64 x17_2), (10, bp b12 0), (12, bp b20 0), (13, v13_e1), (14, v14_e1), (174, .bool true)]) ⟨rfl, rfl, rfl, rfl, rfl, rfl, rfl, rfl, rfl, rfl, trivial⟩ ?_
          refine S.rd fun hr130 => ?_
          refine S.b1 ?_
          refine S.rd fun hr131 => ?_
          refine S.b4 ?_
          refine S.rd fun hr132 => ?_
          refine S.b5 ?_
          refine S.rd fun hr133 => ?_
          cases h
          refine S.b10 ?_
          refine S.b8 ?_
          refine S.b7 ?_
          refine S.b10 ?_
          refine S.b9 ?_
          refine S.b10 ?_
          refine S.b10 ?_
          refine S.b9 ?_
          refine S.b8 ?_
          refine S.b10 ?_
          refine S.b10 ?_
          refine S.to ?_ (hk4 (u96_L, u87_l, u98_L, u89_l) trivial)
          exact ⟨rfl, rfl, rfl, rfl, rfl, rfl, rfl, rfl, rfl, rfl, trivial⟩
        replace h := cond_f b129 h
        obtain ⟨t136, ht137, h⟩ := opt_bind h
        rcases bool_or (t136 != (w64 (j18_3 + 1))) with b138 | b138
        · replace h := cond_t b138 h
          refine S.draw2 (Y := fun Q => ∃ (_ _ _ _ _ _ _ _ _ _ _ _ _ _ _ _ _ : Unit), Q [(13, v13_e1), (18, .int .i64 j18_3), (10, bp b12 0), (14, v14_e1), (12, bp b20 0), (2, v2), (3, v3), (8, .bool false), (9, .bool t1), (17, .int .i64 x17_2)] [Own 66 ek_ref07_Entry g81_L x74.L, Box b77 [.int .i64 x74.Mark, g81_L, .int .i64 x74.Status, .int .i64 x74.At], OwnPH rep_ref07_Desc 40 v14_e1 bs76 qv14_e1_2 j18_3.toNat, Own 53 ek_tx_Entry g72_l x65.l, Box b68 [.int .i64 x65.mark, g72_l, .int .i64 x65.status, .int .i64 x65.at_], OwnPH rep_desc_Desc 38 v13_e1 bs67 qv13_e1_2 j18_3.toNat, Own 55 ek_api_Cell vy20_0_2 y20_0_2, Own 55 ek_api_Cell vy12_0_2 y12_0_2, Box b20 [vy20_0_2, .int .u32 y20_1_2], Box b12 [vy12_0_2, .int .u32 y12_1_2], F]) (Z := fun Q => ∀ (_ _ _ _ _ _ : Unit) (g_6 : (Value × Value)) (g_7 : (Value × Value)) (_ _ _ : Unit), Q [(2, v2), (3, v3), (8, .bool false), (9, .bool t1), (17, .int .i64 x17_2), (10, bp b12 0), (12, bp b20 0), (13, v13_e1), (14, v14_e1), (174, .bool true), (129, .int .i64 t92), (123, .int .i64 t83)] [Own 55 ek_api_Cell g_6.1 p94.L, Own 66 ek_ref07_Entry g_6.2 p93.L, Box b77 [.int .i64 p93.Mark, g_6.2, .int .i64 p93.Status, .int .i64 p93.At], Box b20 [g_6.1, .int .u32 p94.Limit], Own 55 ek_api_Cell g_7.1 p85.l, Own 53 ek_tx_Entry g_7.2 p84.l, Box b68 [.int .i64 p84.mark, g_7.2, .int .i64 p84.status, .int .i64 p84.at_], Box b12 [g_7.1, .int .u32 p85.limit], OwnPH rep_ref07_Desc 40 v14_e1 bs76 qv14_e1_2 j18_3.toNat, OwnPH rep_desc_Desc 38 v13_e1 bs67 qv13_e1_2 j18_3.toNat, F]) (T := [tS 13 (v13_e1), tS 18 (.int .i64 j18_3), tS 10 (bp b12 0), tS 14 (v14_e1), tS 12 (bp b20 0), tE [(2, v2), (3, v3), (8, .bool false), (9, .bool t1), (17, .int .i64 x17_2)], tR (Own 66 ek_ref07_Entry g81_L x74.L), tR (Box b77 [.int .i64 x74.Mark, g81_L, .int .i64 x74.Status, .int .i64 x74.At]), tR (OwnPH rep_ref07_Desc 40 v14_e1 bs76 qv14_e1_2 j18_3.toNat), tR (Own 53 ek_tx_Entry g72_l x65.l), tR (Box b68 [.int .i64 x65.mark, g72_l, .int .i64 x65.status, .int .i64 x65.at_]), tR (OwnPH rep_desc_Desc 38 v13_e1 bs67 qv13_e1_2 j18_3.toNat), tR (Own 55 ek_api_Cell vy20_0_2 y20_0_2), tR (Own 55 ek_api_Cell vy12_0_2 y12_0_2), tR (Box b20 [vy20_0_2, .int .u32 y20_1_2]), tR (Box b12 [vy12_0_2, .int .u32 y12_1_2]), tR (F), tS 118 (v13_e1), tS 119 (.int .i64 j18_3), tS 120 (idxp v13_e1 (j18_3.toNat * ekP.sz)), tS 121 (bp b68 0), tS 122 (bp b12 0), ⟨(Value × Value), [123], (fun x => match x with | (u89_l, u87_l) => [(123, .int .i64 t83)]), (fun x => match x with | (u89_l, u87_l) => [Own 55 ek_api_Cell u89_l p85.l, Own 53 ek_tx_Entry u87_l p84.l, Box b68 [.int .i64 p84.mark, u87_l, .int .i64 p84.status, .int .i64 p84.at_], Box b12 [u89_l, .int .u32 p85.limit]]), fun _ => rfl⟩, tS 124 (v14_e1), tS 125 (.int .i64 j18_3), tS 126 (idxp v14_e1 (j18_3.toNat * ekP.sz)), tS 127 (bp b77 0), tS 128 (bp b20 0), ⟨(Value × Value), [129], (fun x => match x with | (u98_L, u96_L) => [(129, .int .i64 t92)]), (fun x => match x with | (u98_L, u96_L) => [Own 55 ek_api_Cell u98_L p94.L, Own 66 ek_ref07_Entry u96_L p93.L, Box b77 [.int .i64 p93.Mark, u96_L, .int .i64 p93.Status, .int .i64 p93.At], Box b20 [u98_L, .int .u32 p94.Limit]]), fun _ => rfl⟩, tS 130 (.bool (t83 != t92)), tS 131 (.bool (t83 != t92)), tS 132 (v13_e1), tS 133 (.int .i64 j18_3), tS 134 (idxp v13_e1 (j18_3.toNat * ekP.sz)), tS 135 (bp b68 0), tS 136 (.int .i64 t112), tS 137 (v14_e1), tS 138 (.int .i64 j18_3), tS 139 (idxp v14_e1 (j18_3.toNat * ekP.sz)), tS 140 (bp b77 0), tS 141 (bp b77 0), tS 142 (bp b77 2), tS 143 (.int .i64 p93.Status), tS 144 (.bool (t112 != p93.Status)), tS 145 (.bool (t112 != p93.Status)), tS 146 (.bool (t112 != p93.Status)), tS 147 (v13_e1), tS 148 (.int .i64 j18_3), tS 149 (idxp v13_e1 (j18_3.toNat * ekP.sz)), tS 150 (bp b68 0), tS 151 (.bool t123), tS 152 (v14_e1), tS 153 (.int .i64 j18_3), tS 154 (idxp v14_e1 (j18_3.toNat * ekP.sz)), tS 155 (bp b77 0), tS 156 (.bool t127), tS 157 (.bool (t123 != t127)), tS 158 (.bool (t123 != t127)), tS 159 (.bool (t123 != t127)), tS 160 (v13_e1), tS 161 (.int .i64 j18_3), tS 162 (idxp v13_e1 (j18_3.toNat * ekP.sz)), tS 163 (bp b68 0), tS 164 (.int .i64 t136), tS 165 (.int .i64 j18_3), tS 166 (.int .i64 (w64 (j18_3 + 1))), tS 167 (.bool (t136 != (w64 (j18_3 + 1)))), tS 168 (.bool (t136 != (w64 (j18_3 + 1)))), tS 169 (.bool (t136 != (w64 (j18_3 + 1)))), tS 170 (undef), tS 171 (undef), tS 172 (undef), tS 173 (undef), tS 174 (.bool true)]) (D := [⟨[0], [], [17]⟩, ⟨[1], [], [18]⟩, ⟨[17, 18, 11], [], [19]⟩, ⟨[19, 11], [], [20]⟩, ⟨[2], [], [21]⟩, ⟨[20, 21], [10, 9, 15, 13], [22]⟩, ⟨[3], [], [23]⟩, ⟨[1], [], [24]⟩, ⟨[23, 24, 8], [], [25]⟩, ⟨[25, 8], [], [26]⟩, ⟨[4], [], [27]⟩, ⟨[26, 27], [7, 6, 14, 12], [28]⟩, ⟨[22, 28], [], [29]⟩, ⟨[29], [], [30]⟩, ⟨[0, 30], [], [31]⟩, ⟨[1, 30], [], [32]⟩, ⟨[30, 31, 32, 11], [], [33]⟩, ⟨[30, 33, 11], [], [34]⟩, ⟨[30, 34, 22], [], [35]⟩, ⟨[3, 30], [], [36]⟩, ⟨[1, 30], [], [37]⟩, ⟨[30, 36, 37, 8], [], [38]⟩, ⟨[30, 38, 8], [], [39]⟩, ⟨[30, 39], [], [40]⟩, ⟨[30, 40], [], [41]⟩, ⟨[30, 41, 28], [], [42]⟩, ⟨[30, 35, 42], [], [43]⟩, ⟨[30, 43], [], [44]⟩, ⟨[44], [], [45]⟩, ⟨[0, 45], [], [46]⟩, ⟨[1, 45], [], [47]⟩, ⟨[45, 46, 47, 11], [], [48]⟩, ⟨[45, 48, 11], [], [49]⟩, ⟨[45, 49, 22], [], [50]⟩, ⟨[3, 45], [], [51]⟩, ⟨[1, 45], [], [52]⟩, ⟨[45, 51, 52, 8], [], [53]⟩, ⟨[45, 53, 8], [], [54]⟩, ⟨[45, 54, 28], [], [55]⟩, ⟨[45, 50, 55], [], [56]⟩, ⟨[45, 56], [], [57]⟩, ⟨[57], [], [58]⟩, ⟨[0, 58], [], [59]⟩, ⟨[1, 58], [], [60]⟩, ⟨[58, 59, 60, 11], [], [61]⟩, ⟨[58, 61, 11], [], [62]⟩, ⟨[58, 62, 22], [], [63]⟩, ⟨[1, 58], [], [64]⟩, ⟨[58, 64], [], [65]⟩, ⟨[58, 63, 65], [], [66]⟩, ⟨[58, 66], [], [67]⟩, ⟨[67], [], [68]⟩, ⟨[68], [], [69]⟩, ⟨[68], [], [70]⟩, ⟨[68], [], [71]⟩, ⟨[68], [], [72]⟩, ⟨[68, 72], [], [73]⟩]) (ini := [0, 1, 2, 3, 4, 5, 6, 7, 8, 9, 10, 11, 12, 13, 14, 15, 16]) (fin := [5, 2, 4, 0, 3, 73, 28, 22, 8, 11, 16]) (bf := [[], [], [0, 1], [0, 1, 2], [], [0, 1, 2, 3, 4], [], [], [6, 7], [6, 7, 8], [], [0, 1, 2, 3, 4, 5, 6, 7, 8, 9, 10], [0, 1, 2, 3, 4, 5, 6, 7, 8, 9, 10, 11], [0, 1, 2, 3, 4, 5, 6, 7, 8, 9, 10, 11, 12], [0, 1, 2, 3, 4, 5, 6, 7, 8, 9, 10, 11, 12, 13], [0, 1, 2, 3, 4, 5, 6, 7, 8, 9, 10, 11, 12, 13], [0, 1, 2, 3, 4, 5, 6, 7, 8, 9, 10, 11, 12, 13, 14, 15], [0, 1, 2, 3, 4, 5, 6, 7, 8, 9, 10, 11, 12, 13, 14, 15, 16], [0, 1, 2, 3, 4, 5, 6, 7, 8, 9, 10, 11, 12, 13, 14, 15, 16, 17], [0, 1, 2, 3, 4, 5, 6, 7, 8, 9, 10, 11, 12, 13], [0, 1, 2, 3, 4, 5, 6, 7, 8, 9, 10, 11, 12, 13], [0, 1, 2, 3, 4, 5, 6, 7, 8, 9, 10, 11, 12, 13, 19, 20], [0, 1, 2, 3, 4, 5, 6, 7, 8, 9, 10, 11, 12, 13, 19, 20, 21], [0, 1, 2, 3, 4, 5, 6, 7, 8, 9, 10, 11, 12, 13, 19, 20, 21, 22], [0, 1, 2, 3, 4, 5, 6, 7, 8, 9, 10, 11, 12, 13, 19, 20, 21, 22, 23], [0, 1, 2, 3, 4, 5, 6, 7, 8, 9, 10, 11, 12, 13, 19, 20, 21, 22, 23, 24], [0, 1, 2, 3, 4, 5, 6, 7, 8, 9, 10, 11, 12, 13, 14, 15, 16, 17, 18, 19, 20, 21, 22, 23, 24, 25], [0, 1, 2, 3, 4, 5, 6, 7, 8, 9, 10, 11, 12, 13, 14, 15, 16, 17, 18, 19, 20, 21, 22, 23, 24, 25, 26], [0, 1, 2, 3, 4, 5, 6, 7, 8, 9, 10, 11, 12, 13, 14, 15, 16, 17, 18, 19, 20, 21, 22, 23, 24, 25, 26, 27], [0, 1, 2, 3, 4, 5, 6, 7, 8, 9, 10, 11, 12, 13, 14, 15, 16, 17, 18, 19, 20, 21, 22, 23, 24, 25, 26, 27, 28], [0, 1, 2, 3, 4, 5, 6, 7, 8, 9, 10, 11, 12, 13, 14, 15, 16, 17, 18, 19, 20, 21, 22, 23, 24, 25, 26, 27, 28], [0, 1, 2, 3, 4, 5, 6, 7, 8, 9, 10, 11, 12, 13, 14, 15, 16, 17, 18, 19, 20, 21, 22, 23, 24, 25, 26, 27, 28, 29, 30], [0, 1, 2, 3, 4, 5, 6, 7, 8, 9, 10, 11, 12, 13, 14, 15, 16, 17, 18, 19, 20, 21, 22, 23, 24, 25, 26, 27, 28, 29, 30, 31], [0, 1, 2, 3, 4, 5, 6, 7, 8, 9, 10, 11, 12, 13, 14, 15, 16, 17, 18, 19, 20, 21, 22, 23, 24, 25, 26, 27, 28, 29, 30, 31, 32], [0, 1, 2, 3, 4, 5, 6, 7, 8, 9, 10, 11, 12, 13, 14, 15, 16, 17, 18, 19, 20, 21, 22, 23, 24, 25, 26, 27, 28], [0, 1, 2, 3, 4, 5, 6, 7, 8, 9, 10, 11, 12, 13, 14, 15, 16, 17, 18, 19, 20, 21, 22, 23, 24, 25, 26, 27, 28], [0, 1, 2, 3, 4, 5, 6, 7, 8, 9, 10, 11, 12, 13, 14, 15, 16, 17, 18, 19, 20, 21, 22, 23, 24, 25, 26, 27, 28, 34, 35], [0, 1, 2, 3, 4, 5, 6, 7, 8, 9, 10, 11, 12, 13, 14, 15, 16, 17, 18, 19, 20, 21, 22, 23, 24, 25, 26, 27, 28, 34, 35, 36], [0, 1, 2, 3, 4, 5, 6, 7, 8, 9, 10, 11, 12, 13, 14, 15, 16, 17, 18, 19, 20, 21, 22, 23, 24, 25, 26, 27, 28, 29, 30, 31, 32, 33, 34, 35, 36, 37], [0, 1, 2, 3, 4, 5, 6, 7, 8, 9, 10, 11, 12, 13, 14, 15, 16, 17, 18, 19, 20, 21, 22, 23, 24, 25, 26, 27, 28, 29, 30, 31, 32, 33, 34, 35, 36, 37, 38], [0, 1, 2, 3, 4, 5, 6, 7, 8, 9, 10, 11, 12, 13, 14, 15, 16, 17, 18, 19, 20, 21, 22, 23, 24, 25, 26, 27, 28, 29, 30, 31, 32, 33, 34, 35, 36, 37, 38, 39], [0, 1, 2, 3, 4, 5, 6, 7, 8, 9, 10, 11, 12, 13, 14, 15, 16, 17, 18, 19, 20, 21, 22, 23, 24, 25, 26, 27, 28, 29, 30, 31, 32, 33, 34, 35, 36, 37, 38, 39, 40], [0, 1, 2, 3, 4, 5, 6, 7, 8, 9, 10, 11, 12, 13, 14, 15, 16, 17, 18, 19, 20, 21, 22, 23, 24, 25, 26, 27, 28, 29, 30, 31, 32, 33, 34, 35, 36, 37, 38, 39, 40, 41], [0, 1, 2, 3, 4, 5, 6, 7, 8, 9, 10, 11, 12, 13, 14, 15, 16, 17, 18, 19, 20, 21, 22, 23, 24, 25, 26, 27, 28, 29, 30, 31, 32, 33, 34, 35, 36, 37, 38, 39, 40, 41], [0, 1, 2, 3, 4, 5, 6, 7, 8, 9, 10, 11, 12, 13, 14, 15, 16, 17, 18, 19, 20, 21, 22, 23, 24, 25, 26, 27, 28, 29, 30, 31, 32, 33, 34, 35, 36, 37, 38, 39, 40, 41, 42, 43], [0, 1, 2, 3, 4, 5, 6, 7, 8, 9, 10, 11, 12, 13, 14, 15, 16, 17, 18, 19, 20, 21, 22, 23, 24, 25, 26, 27, 28, 29, 30, 31, 32, 33, 34, 35, 36, 37, 38, 39, 40, 41, 42, 43, 44], [0, 1, 2, 3, 4, 5, 6, 7, 8, 9, 10, 11, 12, 13, 14, 15, 16, 17, 18, 19, 20, 21, 22, 23, 24, 25, 26, 27, 28, 29, 30, 31, 32, 33, 34, 35, 36, 37, 38, 39, 40, 41, 42, 43, 44, 45], [0, 1, 2, 3, 4, 5, 6, 7, 8, 9, 10, 11, 12, 13, 14, 15, 16, 17, 18, 19, 20, 21, 22, 23, 24, 25, 26, 27, 28, 29, 30, 31, 32, 33, 34, 35, 36, 37, 38, 39, 40, 41], [0, 1, 2, 3, 4, 5, 6, 7, 8, 9, 10, 11, 12, 13, 14, 15, 16, 17, 18, 19, 20, 21, 22, 23, 24, 25, 26, 27, 28, 29, 30, 31, 32, 33, 34, 35, 36, 37, 38, 39, 40, 41, 47], [0, 1, 2, 3, 4, 5, 6, 7, 8, 9, 10, 11, 12, 13, 14, 15, 16, 17, 18, 19, 20, 21, 22, 23, 24, 25, 26, 27, 28, 29, 30, 31, 32, 33, 34, 35, 36, 37, 38, 39, 40, 41, 42, 43, 44, 45, 46, 47, 48], [0, 1, 2, 3, 4, 5, 6, 7, 8, 9, 10, 11, 12, 13, 14, 15, 16, 17, 18, 19, 20, 21, 22, 23, 24, 25, 26, 27, 28, 29, 30, 31, 32, 33, 34, 35, 36, 37, 38, 39, 40, 41, 42, 43, 44, 45, 46, 47, 48, 49], [0, 1, 2, 3, 4, 5, 6, 7, 8, 9, 10, 11, 12, 13, 14, 15, 16, 17, 18, 19, 20, 21, 22, 23, 24, 25, 26, 27, 28, 29, 30, 31, 32, 33, 34, 35, 36, 37, 38, 39, 40, 41, 42, 43, 44, 45, 46, 47, 48, 49, 50], [0, 1, 2, 3, 4, 5, 6, 7, 8, 9, 10, 11, 12, 13, 14, 15, 16, 17, 18, 19, 20, 21, 22, 23, 24, 25, 26, 27, 28, 29, 30, 31, 32, 33, 34, 35, 36, 37, 38, 39, 40, 41, 42, 43, 44, 45, 46, 47, 48, 49, 50, 51], [0, 1, 2, 3, 4, 5, 6, 7, 8, 9, 10, 11, 12, 13, 14, 15, 16, 17, 18, 19, 20, 21, 22, 23, 24, 25, 26, 27, 28, 29, 30, 31, 32, 33, 34, 35, 36, 37, 38, 39, 40, 41, 42, 43, 44, 45, 46, 47, 48, 49, 50, 51], [0, 1, 2, 3, 4, 5, 6, 7, 8, 9, 10, 11, 12, 13, 14, 15, 16, 17, 18, 19, 20, 21, 22, 23, 24, 25, 26, 27, 28, 29, 30, 31, 32, 33, 34, 35, 36, 37, 38, 39, 40, 41, 42, 43, 44, 45, 46, 47, 48, 49, 50, 51, 52, 53], [0, 1, 2, 3, 4, 5, 6, 7, 8, 9, 10, 11, 12, 13, 14, 15, 16, 17, 18, 19, 20, 21, 22, 23, 24, 25, 26, 27, 28, 29, 30, 31, 32, 33, 34, 35, 36, 37, 38, 39, 40, 41, 42, 43, 44, 45, 46, 47, 48, 49, 50, 51, 52, 53, 54], [0, 1, 2, 3, 4, 5, 6, 7, 8, 9, 10, 11, 12, 13, 14, 15, 16, 17, 18, 19, 20, 21, 22, 23, 24, 25, 26, 27, 28, 29, 30, 31, 32, 33, 34, 35, 36, 37, 38, 39, 40, 41, 42, 43, 44, 45, 46, 47, 48, 49, 50, 51, 52, 53, 54, 55]]) (by kernel_rfl) (by kernel_rfl) (fun Q => by kernel_rfl) (fun x w h1 h2 => ⟨(), (), (), (), (), (), (), (), (), (), (), (), (), (), (), (), (), EnvAll.of h1 ⟨rfl, rfl, rfl, rfl, rfl, rfl, rfl, rfl, rfl, rfl, trivial⟩, h2⟩) (fun Q => by kernel_rfl) ⟨?_, ?_, ?_, ?_, ?_, ?_, ?_, ?_, ?_, ?_, ?_, ?_, ?_, ?_, ?_, ?_, ?_, ?_, ?_, ?_, ?_, ?_, ?_, ?_, ?_, ?_, ?_, ?_, ?_, ?_, ?_, ?_, ?_, ?_, ?_, ?_, ?_, ?_, ?_, ?_, ?_, ?_, ?_, ?_, ?_, ?_, ?_, ?_, ?_, ?_, ?_, ?_, ?_, ?_, ?_, ?_, ?_, trivial⟩ ?_
          · rintro Fr _
            refine SO.v rfl (opv_move rfl) ?_
            exact SO.nilZ fun a w h1 h2 h3 h4 h5 => PZ.of h1 h3 h5 (.cons () (.cons () (.nil ⟨EnvAll.of h2 ⟨rfl, rfl, trivial⟩, h4⟩)))
          · rintro Fr _
            refine SO.v rfl (opv_move rfl) ?_
            exact SO.nilZ fun a w h1 h2 h3 h4 h5 => PZ.of h1 h3 h5 (.cons () (.cons () (.nil ⟨EnvAll.of h2 ⟨rfl, rfl, trivial⟩, h4⟩)))
          · rintro Fr _ _ _
            refine SO.v rfl (opv_idx (K := ekP) Try.underlying35 Try.sizeOf38 hRp71 rfl rfl hb69) ?_
            exact SO.nilZ fun a w h1 h2 h3 h4 h5 => PZ.of h1 h3 h5 (.cons () (.cons () (.cons () (.cons () (.nil ⟨EnvAll.of h2 ⟨rfl, rfl, rfl, trivial⟩, h4⟩)))))
          · rintro Fr _ _
            refine SO.loadI1 (j := 0) (K := ekP) rfl Try.isAgg38 (Rd.head hRp71) hb69 rfl rfl rfl rfl ?_
            exact SO.nilZ fun a w h1 h2 h3 h4 h5 => PZ.of h1 h3 h5 (.cons () (.cons () (.cons () (.nil ⟨EnvAll.of h2 ⟨rfl, rfl, trivial⟩, h4⟩))))
          · rintro Fr _
            refine SO.v rfl (opv_move rfl) ?_
            exact SO.nilZ fun a w h1 h2 h3 h4 h5 => PZ.of h1 h3 h5 (.cons () (.cons () (.nil ⟨EnvAll.of h2 ⟨rfl, rfl, trivial⟩, h4⟩)))
          · refine spec2 (X := fun Q => ∀ (_ _ _ _ _ _ : Unit), Q [(121, bp b68 0), (122, bp b12 0)] [Box b68 [.int .i64 x65.mark, g72_l, .int .i64 x65.status, .int .i64 x65.at_], Own 53 ek_tx_Entry g72_l x65.l, Box b12 [vy12_0_2, .int .u32 y12_1_2], Own 55 ek_api_Cell vy12_0_2 y12_0_2]) (fun Q => by kernel_rfl) ?_
            rintro Fr _ _ _ _ _ _
            refine SO.b3 ?_
            refine SO.b3 ?_
            refine SO.b3 ?_
            refine SO.b3 ?_
            have ct91 := desc_Desc_Step.ct b68 g72_l b12 vy12_0_2 _ _ _ _ _ ht86
            try dsimp only at ct91
            refine SO.call (pre := [Box _ _, Own _ _ _ _, Box _ _, Own _ _ _ _]) rfl Try.call9 rfl rfl rfl ct91 trivial ?_
            rintro _ _ ⟨u87_l, u89_l, rfl, rfl⟩
            refine SO.b1 ?_
            refine SO.rd fun hr88 => ?_
            refine SO.b3 ?_
            refine SO.rd fun hr90 => ?_
            refine SO.b3 ?_
            refine SO.b3 ?_
            refine SO.b3 ?_
            refine SO.b3 ?_
            exact SO.nilZ fun a w h1 h2 h3 h4 h5 => PZ.of h1 h3 h5 (.cons () (.cons () (.cons (u89_l, u87_l) (.nil ⟨EnvAll.of h2 ⟨rfl, rfl, rfl, trivial⟩, h4⟩))))
          · rintro Fr _
            refine SO.v rfl (opv_move rfl) ?_
            exact SO.nilZ fun a w h1 h2 h3 h4 h5 => PZ.of h1 h3 h5 (.cons () (.cons () (.nil ⟨EnvAll.of h2 ⟨rfl, rfl, trivial⟩, h4⟩)))
          · rintro Fr _
            refine SO.v rfl (opv_move rfl) ?_
            exact SO.nilZ fun a w h1 h2 h3 h4 h5 => PZ.of h1 h3 h5 (.cons () (.cons () (.nil ⟨EnvAll.of h2 ⟨rfl, rfl, trivial⟩, h4⟩)))
          · rintro Fr _ _ _
            refine SO.v rfl (opv_idx (K := ekP) Try.underlying36 Try.sizeOf40 hRp80 rfl rfl hb78) ?_
            exact SO.nilZ fun a w h1 h2 h3 h4 h5 => PZ.of h1 h3 h5 (.cons () (.cons () (.cons () (.cons () (.nil ⟨EnvAll.of h2 ⟨rfl, rfl, rfl, trivial⟩, h4⟩)))))
          · rintro Fr _ _
            refine SO.loadI1 (j := 0) (K := ekP) rfl Try.isAgg40 (Rd.head hRp80) hb78 rfl rfl rfl rfl ?_
            exact SO.nilZ fun a w h1 h2 h3 h4 h5 => PZ.of h1 h3 h5 (.cons () (.cons () (.cons () (.nil ⟨EnvAll.of h2 ⟨rfl, rfl, trivial⟩, h4⟩))))
          · rintro Fr _
            refine SO.v rfl (opv_move rfl) ?_
            exact SO.nilZ fun a w h1 h2 h3 h4 h5 => PZ.of h1 h3 h5 (.cons () (.cons () (.nil ⟨EnvAll.of h2 ⟨rfl, rfl, trivial⟩, h4⟩)))
          · refine spec2 (X := fun Q => ∀ (_ _ _ _ _ _ : Unit), Q [(127, bp b77 0), (128, bp b20 0)] [Box b77 [.int .i64 x74.Mark, g81_L, .int .i64 x74.Status, .int .i64 x74.At], Own 66 ek_ref07_Entry g81_L x74.L, Box b20 [vy20_0_2, .int .u32 y20_1_2], Own 55 ek_api_Cell vy20_0_2 y20_0_2]) (fun Q => by kernel_rfl) ?_
            rintro Fr _ _ _ _ _ _
            refine SO.b3 ?_
            refine SO.b3 ?_
            refine SO.b3 ?_
            refine SO.b3 ?_
            have ct100 := ref07_Desc_Step.ct b77 g81_L b20 vy20_0_2 _ _ _ _ _ ht95
            try dsimp only at ct100
            refine SO.call (pre := [Box _ _, Own _ _ _ _, Box _ _, Own _ _ _ _]) rfl Try.call10 rfl rfl rfl ct100 trivial ?_
            rintro _ _ ⟨u96_L, u98_L, rfl, rfl⟩
            refine SO.b1 ?_
            refine SO.rd fun hr97 => ?_
            refine SO.b3 ?_
            refine SO.rd fun hr99 => ?_
            refine SO.b3 ?_
            refine SO.b3 ?_
            refine SO.b3 ?_
            refine SO.b3 ?_
            exact SO.nilZ fun a w h1 h2 h3 h4 h5 => PZ.of h1 h3 h5 (.cons () (.cons () (.cons (u98_L, u96_L) (.nil ⟨EnvAll.of h2 ⟨rfl, rfl, rfl, trivial⟩, h4⟩))))
          · rintro Fr ⟨u89_l, u87_l⟩ ⟨u98_L, u96_L⟩
            refine SO.rd fun hr101 => ?_
            refine SO.b1 ?_
            refine SO.rd fun hr102 => ?_
            refine SO.b4 ?_
            refine SO.rd fun hr103 => ?_
            refine SO.b5 ?_
            refine SO.rd fun hr104 => ?_
            refine SO.v rfl (opv_neq rfl rfl) ?_
            refine SO.b7 ?_
            refine SO.b7 ?_
            refine SO.b2 ?_
            refine SO.b3 ?_
            refine SO.b7 ?_
            refine SO.b7 ?_
            refine SO.b6 ?_
            refine SO.b7 ?_
            exact SO.nilZ fun a w h1 h2 h3 h4 h5 => PZ.of h1 h3 h5 (.cons (u89_l, u87_l) (.cons (u98_L, u96_L) (.cons () (.nil ⟨EnvAll.of h2 ⟨rfl, rfl, rfl, trivial⟩, h4⟩))))
          · rintro Fr _
            refine SO.v rfl (opv_move rfl) ?_
            exact SO.nilZ fun a w h1 h2 h3 h4 h5 => PZ.of h1 h3 h5 (.cons () (.cons () (.nil ⟨EnvAll.of h2 ⟨rfl, rfl, trivial⟩, h4⟩)))
          · rintro Fr _ _
            refine SO.takeT rfl rfl rfl b105 ?_
            refine SO.v rfl (opv_move rfl) ?_
            exact SO.nilZ fun a w h1 h2 h3 h4 h5 => PZ.of h1 h3 h5 (.cons () (.cons () (.cons () (.nil ⟨EnvAll.of h2 ⟨rfl, rfl, rfl, trivial⟩, h4⟩))))
          · rintro Fr _ _
            refine SO.takeT rfl rfl rfl b105 ?_
            refine SO.v rfl (opv_move rfl) ?_
            exact SO.nilZ fun a w h1 h2 h3 h4 h5 => PZ.of h1 h3 h5 (.cons () (.cons () (.cons () (.nil ⟨EnvAll.of h2 ⟨rfl, rfl, rfl, trivial⟩, h4⟩))))
          · rintro Fr _ _ _ _
            refine SO.takeT rfl rfl rfl b105 ?_
            refine SO.v rfl (opv_idx (K := ekP) Try.underlying35 Try.sizeOf38 hRp71 rfl rfl hb69) ?_
            exact SO.nilZ fun a w h1 h2 h3 h4 h5 => PZ.of2 (Y := fun Q => ∃ (_ _ _ _ _ : Unit), Q [(131, .bool (t83 != t92)), (132, v13_e1), (133, .int .i64 j18_3), (134, idxp v13_e1 (j18_3.toNat * ekP.sz))] [OwnPH rep_desc_Desc 38 v13_e1 bs67 qv13_e1_2 j18_3.toNat]) (fun Q => by kernel_rfl) h1 h3 h5 ⟨(), (), (), (), (), EnvAll.of h2 ⟨rfl, rfl, rfl, rfl, trivial⟩, h4⟩
          · rintro Fr _ _ _
            refine SO.takeT rfl rfl rfl b105 ?_
            refine SO.loadI1 (j := 0) (K := ekP) rfl Try.isAgg38 (Rd.head hRp71) hb69 rfl rfl rfl rfl ?_
            exact SO.nilZ fun a w h1 h2 h3 h4 h5 => PZ.of h1 h3 h5 (.cons () (.cons () (.cons () (.cons () (.nil ⟨EnvAll.of h2 ⟨rfl, rfl, rfl, trivial⟩, h4⟩)))))
          · rintro Fr _ _ ⟨u89_l, u87_l⟩
            refine SO.rd fun hr110 => ?_
            refine SO.b1 ?_
            refine SO.rd fun hr111 => ?_
            refine SO.takeT rfl rfl rfl b105 ?_
            refine SO.b2 ?_
            refine SO.call (pre := [Box _ _, Own _ _ _ _]) rfl Try.call11 rfl rfl rfl (desc_Desc_Status.ct b68 u87_l _ _ ht113) trivial ?_
            rintro _ _ ⟨rfl, rfl⟩
            refine SO.b3 ?_
            refine SO.b1 ?_
            refine SO.b2 ?_
            refine SO.b3 ?_
            exact SO.nilZ fun a w h1 h2 h3 h4 h5 => PZ.of h1 h3 h5 (.cons () (.cons () (.cons (u89_l, u87_l) (.cons () (.nil ⟨EnvAll.of h2 ⟨rfl, rfl, rfl, rfl, trivial⟩, h4⟩)))))
          · rintro Fr _ _
            refine SO.takeT rfl rfl rfl b105 ?_
            refine SO.v rfl (opv_move rfl) ?_
            exact SO.nilZ fun a w h1 h2 h3 h4 h5 => PZ.of h1 h3 h5 (.cons () (.cons () (.cons () (.nil ⟨EnvAll.of h2 ⟨rfl, rfl, rfl, trivial⟩, h4⟩))))
          · rintro Fr _ _
            refine SO.takeT rfl rfl rfl b105 ?_
            refine SO.v rfl (opv_move rfl) ?_
            exact SO.nilZ fun a w h1 h2 h3 h4 h5 => PZ.of h1 h3 h5 (.cons () (.cons () (.cons () (.nil ⟨EnvAll.of h2 ⟨rfl, rfl, rfl, trivial⟩, h4⟩))))
          · rintro Fr _ _ _ _
            refine SO.takeT rfl rfl rfl b105 ?_
            refine SO.v rfl (opv_idx (K := ekP) Try.underlying36 Try.sizeOf40 hRp80 rfl rfl hb78) ?_
            exact SO.nilZ fun a w h1 h2 h3 h4 h5 => PZ.of2 (Y := fun Q => ∃ (_ _ _ _ _ : Unit), Q [(131, .bool (t83 != t92)), (137, v14_e1), (138, .int .i64 j18_3), (139, idxp v14_e1 (j18_3.toNat * ekP.sz))] [OwnPH rep_ref07_Desc 40 v14_e1 bs76 qv14_e1_2 j18_3.toNat]) (fun Q => by kernel_rfl) h1 h3 h5 ⟨(), (), (), (), (), EnvAll.of h2 ⟨rfl, rfl, rfl, rfl, trivial⟩, h4⟩
          · rintro Fr _ _ _
            refine SO.takeT rfl rfl rfl b105 ?_
            refine SO.loadI1 (j := 0) (K := ekP) rfl Try.isAgg40 (Rd.head hRp80) hb78 rfl rfl rfl rfl ?_
            exact SO.nilZ fun a w h1 h2 h3 h4 h5 => PZ.of h1 h3 h5 (.cons () (.cons () (.cons () (.cons () (.nil ⟨EnvAll.of h2 ⟨rfl, rfl, rfl, trivial⟩, h4⟩)))))
          · rintro Fr _ _
            refine SO.takeT rfl rfl rfl b105 ?_
            refine SO.v rfl (opv_nilCheck rfl) ?_
            exact SO.nilZ fun a w h1 h2 h3 h4 h5 => PZ.of h1 h3 h5 (.cons () (.cons () (.cons () (.nil ⟨EnvAll.of h2 ⟨rfl, rfl, rfl, trivial⟩, h4⟩))))
          · rintro Fr _ _
            refine SO.takeT rfl rfl rfl b105 ?_
            refine SO.v rfl (opv_fieldAddr Try.underlying44 rfl Try.sizeOf3 rfl rfl) ?_
            exact SO.nilZ fun a w h1 h2 h3 h4 h5 => PZ.of h1 h3 h5 (.cons () (.cons () (.cons () (.nil ⟨EnvAll.of h2 ⟨rfl, rfl, rfl, trivial⟩, h4⟩))))
          · rintro Fr _ _ ⟨u98_L, u96_L⟩
            refine SO.rd fun hr114 => ?_
            refine SO.b1 ?_
            refine SO.rd fun hr115 => ?_
            refine SO.takeT rfl rfl rfl b105 ?_
            refine SO.b2 ?_
            refine SO.load1 rfl Try.isAgg3 rfl rfl ?_
            refine SO.b3 ?_
            refine SO.b1 ?_
            refine SO.b2 ?_
            refine SO.b3 ?_
            exact SO.nilZ fun a w h1 h2 h3 h4 h5 => PZ.of h1 h3 h5 (.cons () (.cons () (.cons (u98_L, u96_L) (.cons () (.nil ⟨EnvAll.of h2 ⟨rfl, rfl, rfl, rfl, trivial⟩, h4⟩)))))
          · rintro Fr _ _ _
            refine SO.takeT rfl rfl rfl b105 ?_
            refine SO.v rfl (opv_neq rfl rfl) ?_
            exact SO.nilZ fun a w h1 h2 h3 h4 h5 => PZ.of h1 h3 h5 (.cons () (.cons () (.cons () (.cons () (.nil ⟨EnvAll.of h2 ⟨rfl, rfl, rfl, rfl, trivial⟩, h4⟩)))))
          · rintro Fr _ _
            refine SO.v rfl (opv_pick_f' b105 rfl rfl) ?_
            exact SO.nilZ fun a w h1 h2 h3 h4 h5 => PZ.of h1 h3 h5 (.cons () (.cons () (.cons () (.nil ⟨EnvAll.of h2 ⟨rfl, rfl, rfl, trivial⟩, h4⟩))))
          · rintro Fr _
            refine SO.v rfl (opv_move rfl) ?_
            exact SO.nilZ fun a w h1 h2 h3 h4 h5 => PZ.of h1 h3 h5 (.cons () (.cons () (.nil ⟨EnvAll.of h2 ⟨rfl, rfl, trivial⟩, h4⟩)))
          · rintro Fr _ _
            refine SO.takeT rfl rfl rfl b116 ?_
            refine SO.v rfl (opv_move rfl) ?_
            exact SO.nilZ fun a w h1 h2 h3 h4 h5 => PZ.of h1 h3 h5 (.cons () (.cons () (.cons () (.nil ⟨EnvAll.of h2 ⟨rfl, rfl, rfl, trivial⟩, h4⟩))))
          · rintro Fr _ _
            refine SO.takeT rfl rfl rfl b116 ?_
            refine SO.v rfl (opv_move rfl) ?_
            exact SO.nilZ fun a w h1 h2 h3 h4 h5 => PZ.of h1 h3 h5 (.cons () (.cons () (.cons () (.nil ⟨EnvAll.of h2 ⟨rfl, rfl, rfl, trivial⟩, h4⟩))))
          · rintro Fr _ _ _ _
            refine SO.takeT rfl rfl rfl b116 ?_
            refine SO.v rfl (opv_idx (K := ekP) Try.underlying35 Try.sizeOf38 hRp71 rfl rfl hb69) ?_
            exact SO.nilZ fun a w h1 h2 h3 h4 h5 => PZ.of2 (Y := fun Q => ∃ (_ _ _ _ _ : Unit), Q [(146, .bool (t112 != p93.Status)), (147, v13_e1), (148, .int .i64 j18_3), (149, idxp v13_e1 (j18_3.toNat * ekP.sz))] [OwnPH rep_desc_Desc 38 v13_e1 bs67 qv13_e1_2 j18_3.toNat]) (fun Q => by kernel_rfl) h1 h3 h5 ⟨(), (), (), (), (), EnvAll.of h2 ⟨rfl, rfl, rfl, rfl, trivial⟩, h4⟩
          · rintro Fr _ _ _
            refine SO.takeT rfl rfl rfl b116 ?_
            refine SO.loadI1 (j := 0) (K := ekP) rfl Try.isAgg38 (Rd.head hRp71) hb69 rfl rfl rfl rfl ?_
            exact SO.nilZ fun a w h1 h2 h3 h4 h5 => PZ.of h1 h3 h5 (.cons () (.cons () (.cons () (.cons () (.nil ⟨EnvAll.of h2 ⟨rfl, rfl, rfl, trivial⟩, h4⟩)))))
          · rintro Fr _ _ ⟨u89_l, u87_l⟩
            refine SO.rd fun hr121 => ?_
            refine SO.b1 ?_
            refine SO.rd fun hr122 => ?_
            refine SO.takeT rfl rfl rfl b116 ?_
            refine SO.b2 ?_
            refine SO.call (pre := [Box _ _, Own _ _ _ _]) rfl Try.call12 rfl rfl rfl (desc_Desc_Over.ct b68 u87_l _ _ ht124) trivial ?_
            rintro _ _ ⟨rfl, rfl⟩
            refine SO.b3 ?_
            refine SO.b1 ?_
            refine SO.b2 ?_
            refine SO.b3 ?_
            exact SO.nilZ fun a w h1 h2 h3 h4 h5 => PZ.of h1 h3 h5 (.cons () (.cons () (.cons (u89_l, u87_l) (.cons () (.nil ⟨EnvAll.of h2 ⟨rfl, rfl, rfl, rfl, trivial⟩, h4⟩)))))
          · rintro Fr _ _
            refine SO.takeT rfl rfl rfl b116 ?_
            refine SO.v rfl (opv_move rfl) ?_
            exact SO.nilZ fun a w h1 h2 h3 h4 h5 => PZ.of h1 h3 h5 (.cons () (.cons () (.cons () (.nil ⟨EnvAll.of h2 ⟨rfl, rfl, rfl, trivial⟩, h4⟩))))
          · rintro Fr _ _
            refine SO.takeT rfl rfl rfl b116 ?_
            refine SO.v rfl (opv_move rfl) ?_
            exact SO.nilZ fun a w h1 h2 h3 h4 h5 => PZ.of h1 h3 h5 (.cons () (.cons () (.cons () (.nil ⟨EnvAll.of h2 ⟨rfl, rfl, rfl, trivial⟩, h4⟩))))
          · rintro Fr _ _ _ _
            refine SO.takeT rfl rfl rfl b116 ?_
            refine SO.v rfl (opv_idx (K := ekP) Try.underlying36 Try.sizeOf40 hRp80 rfl rfl hb78) ?_
            exact SO.nilZ fun a w h1 h2 h3 h4 h5 => PZ.of2 (Y := fun Q => ∃ (_ _ _ _ _ : Unit), Q [(146, .bool (t112 != p93.Status)), (152, v14_e1), (153, .int .i64 j18_3), (154, idxp v14_e1 (j18_3.toNat * ekP.sz))] [OwnPH rep_ref07_Desc 40 v14_e1 bs76 qv14_e1_2 j18_3.toNat]) (fun Q => by kernel_rfl) h1 h3 h5 ⟨(), (), (), (), (), EnvAll.of h2 ⟨rfl, rfl, rfl, rfl, trivial⟩, h4⟩
          · rintro Fr _ _ _
            refine SO.takeT rfl rfl rfl b116 ?_
            refine SO.loadI1 (j := 0) (K := ekP) rfl Try.isAgg40 (Rd.head hRp80) hb78 rfl rfl rfl rfl ?_
            exact SO.nilZ fun a w h1 h2 h3 h4 h5 => PZ.of h1 h3 h5 (.cons () (.cons () (.cons () (.cons () (.nil ⟨EnvAll.of h2 ⟨rfl, rfl, rfl, trivial⟩, h4⟩)))))
          · rintro Fr _ _ ⟨u98_L, u96_L⟩
            refine SO.rd fun hr125 => ?_
            refine SO.b1 ?_
            refine SO.rd fun hr126 => ?_
            refine SO.takeT rfl rfl rfl b116 ?_
            refine SO.b2 ?_
            refine SO.call (pre := [Box _ _, Own _ _ _ _]) rfl Try.call13 rfl rfl rfl (ref07_Desc_Over.ct b77 u96_L _ _ ht128) trivial ?_
            rintro _ _ ⟨rfl, rfl⟩
            refine SO.b3 ?_
            refine SO.b1 ?_
            refine SO.b2 ?_
            refine SO.b3 ?_
            exact SO.nilZ fun a w h1 h2 h3 h4 h5 => PZ.of h1 h3 h5 (.cons () (.cons () (.cons (u98_L, u96_L) (.cons () (.nil ⟨EnvAll.of h2 ⟨rfl, rfl, rfl, rfl, trivial⟩, h4⟩)))))
          · rintro Fr _ _ _
            refine SO.takeT rfl rfl rfl b116 ?_
            refine SO.v rfl (opv_neqB Try.underlying4 rfl rfl) ?_
            exact SO.nilZ fun a w h1 h2 h3 h4 h5 => PZ.of h1 h3 h5 (.cons () (.cons () (.cons () (.cons () (.nil ⟨EnvAll.of h2 ⟨rfl, rfl, rfl, rfl, trivial⟩, h4⟩)))))
          · rintro Fr _ _
            refine SO.v rfl (opv_pick_f' b116 rfl rfl) ?_
            exact SO.nilZ fun a w h1 h2 h3 h4 h5 => PZ.of h1 h3 h5 (.cons () (.cons () (.cons () (.nil ⟨EnvAll.of h2 ⟨rfl, rfl, rfl, trivial⟩, h4⟩))))
          · rintro Fr _
            refine SO.v rfl (opv_move rfl) ?_
            exact SO.nilZ fun a w h1 h2 h3 h4 h5 => PZ.of h1 h3 h5 (.cons () (.cons () (.nil ⟨EnvAll.of h2 ⟨rfl, rfl, trivial⟩, h4⟩)))
          · rintro Fr _ _
            refine SO.takeT rfl rfl rfl b129 ?_
            refine SO.v rfl (opv_move rfl) ?_
            exact SO.nilZ fun a w h1 h2 h3 h4 h5 => PZ.of h1 h3 h5 (.cons () (.cons () (.cons () (.nil ⟨EnvAll.of h2 ⟨rfl, rfl, rfl, trivial⟩, h4⟩))))
          · rintro Fr _ _
            refine SO.takeT rfl rfl rfl b129 ?_
            refine SO.v rfl (opv_move rfl) ?_
            exact SO.nilZ fun a w h1 h2 h3 h4 h5 => PZ.of h1 h3 h5 (.cons () (.cons () (.cons () (.nil ⟨EnvAll.of h2 ⟨rfl, rfl, rfl, trivial⟩, h4⟩))))
          · rintro Fr _ _ _ _
            refine SO.takeT rfl rfl rfl b129 ?_
            refine SO.v rfl (opv_idx (K := ekP) Try.underlying35 Try.sizeOf38 hRp71 rfl rfl hb69) ?_
            exact SO.nilZ fun a w h1 h2 h3 h4 h5 => PZ.of2 (Y := fun Q => ∃ (_ _ _ _ _ : Unit), Q [(159, .bool (t123 != t127)), (160, v13_e1), (161, .int .i64 j18_3), (162, idxp v13_e1 (j18_3.toNat * ekP.sz))] [OwnPH rep_desc_Desc 38 v13_e1 bs67 qv13_e1_2 j18_3.toNat]) (fun Q => by kernel_rfl) h1 h3 h5 ⟨(), (), (), (), (), EnvAll.of h2 ⟨rfl, rfl, rfl, rfl, trivial⟩, h4⟩
          · rintro Fr _ _ _
            refine SO.takeT rfl rfl rfl b129 ?_
            refine SO.loadI1 (j := 0) (K := ekP) rfl Try.isAgg38 (Rd.head hRp71) hb69 rfl rfl rfl rfl ?_
            exact SO.nilZ fun a w h1 h2 h3 h4 h5 => PZ.of h1 h3 h5 (.cons () (.cons () (.cons () (.cons () (.nil ⟨EnvAll.of h2 ⟨rfl, rfl, rfl, trivial⟩, h4⟩)))))
          · rintro Fr _ _ ⟨u89_l, u87_l⟩
            refine SO.rd fun hr134 => ?_
            refine SO.b1 ?_
            refine SO.rd fun hr135 => ?_
            refine SO.takeT rfl rfl rfl b129 ?_
            refine SO.b2 ?_
            refine SO.call (pre := [Box _ _, Own _ _ _ _]) rfl Try.call14 rfl rfl rfl (desc_Desc_Mark.ct b68 u87_l _ _ ht137) trivial ?_
            rintro _ _ ⟨rfl, rfl⟩
            refine SO.b3 ?_
            refine SO.b1 ?_
            refine SO.b2 ?_
            refine SO.b3 ?_
            exact SO.nilZ fun a w h1 h2 h3 h4 h5 => PZ.of h1 h3 h5 (.cons () (.cons () (.cons (u89_l, u87_l) (.cons () (.nil ⟨EnvAll.of h2 ⟨rfl, rfl, rfl, rfl, trivial⟩, h4⟩)))))
          · rintro Fr _ _
            refine SO.takeT rfl rfl rfl b129 ?_
            refine SO.v rfl (opv_move rfl) ?_
            exact SO.nilZ fun a w h1 h2 h3 h4 h5 => PZ.of h1 h3 h5 (.cons () (.cons () (.cons () (.nil ⟨EnvAll.of h2 ⟨rfl, rfl, rfl, trivial⟩, h4⟩))))
          · rintro Fr _ _
            refine SO.takeT rfl rfl rfl b129 ?_
            refine SO.v rfl (opv_add rfl rfl) ?_
            exact SO.nilZ fun a w h1 h2 h3 h4 h5 => PZ.of h1 h3 h5 (.cons () (.cons () (.cons () (.nil ⟨EnvAll.of h2 ⟨rfl, rfl, rfl, trivial⟩, h4⟩))))
          · rintro Fr _ _ _
            refine SO.takeT rfl rfl rfl b129 ?_
            refine SO.v rfl (opv_neq rfl rfl) ?_
            exact SO.nilZ fun a w h1 h2 h3 h4 h5 => PZ.of h1 h3 h5 (.cons () (.cons () (.cons () (.cons () (.nil ⟨EnvAll.of h2 ⟨rfl, rfl, rfl, rfl, trivial⟩, h4⟩)))))
          · rintro Fr _ _
            refine SO.v rfl (opv_pick_f' b129 rfl rfl) ?_
            exact SO.nilZ fun a w h1 h2 h3 h4 h5 => PZ.of h1 h3 h5 (.cons () (.cons () (.cons () (.nil ⟨EnvAll.of h2 ⟨rfl, rfl, rfl, trivial⟩, h4⟩))))
          · rintro Fr _
            refine SO.v rfl (opv_move rfl) ?_
            exact SO.nilZ fun a w h1 h2 h3 h4 h5 => PZ.of h1 h3 h5 (.cons () (.cons () (.nil ⟨EnvAll.of h2 ⟨rfl, rfl, trivial⟩, h4⟩)))
          · rintro Fr _
            refine SO.passF rfl rfl rfl b138 rfl rfl ?_
            exact SO.nilZ fun a w h1 h2 h3 h4 h5 => PZ.of h1 h3 h5 (.cons () (.cons () (.nil ⟨EnvAll.of h2 ⟨rfl, rfl, trivial⟩, h4⟩)))
          · rintro Fr _
            refine SO.passF rfl rfl rfl b138 rfl rfl ?_
            exact SO.nilZ fun a w h1 h2 h3 h4 h5 => PZ.of h1 h3 h5 (.cons () (.cons () (.nil ⟨EnvAll.of h2 ⟨rfl, rfl, trivial⟩, h4⟩)))
          · rintro Fr _
            refine SO.passF rfl rfl rfl b138 rfl rfl ?_
            exact SO.nilZ fun a w h1 h2 h3 h4 h5 => PZ.of h1 h3 h5 (.cons () (.cons () (.nil ⟨EnvAll.of h2 ⟨rfl, rfl, trivial⟩, h4⟩)))
          · rintro Fr _
            refine SO.passF rfl rfl rfl b138 rfl rfl ?_
            exact SO.nilZ fun a w h1 h2 h3 h4 h5 => PZ.of h1 h3 h5 (.cons () (.cons () (.nil ⟨EnvAll.of h2 ⟨rfl, rfl, trivial⟩, h4⟩)))
          · rintro Fr _ _
            refine SO.v rfl (opv_pick_t' b138 rfl rfl) ?_
            exact SO.nilZ fun a w h1 h2 h3 h4 h5 => PZ.of h1 h3 h5 (.cons () (.cons () (.cons () (.nil ⟨EnvAll.of h2 ⟨rfl, rfl, rfl, trivial⟩, h4⟩))))
          rintro _ _ _ _ _ _ ⟨u98_L, u96_L⟩ ⟨u89_l, u87_l⟩ _ _ _
          refine S.to (ρ' := [(2, v2), (3, v3), (8, .bool false), (9, .bool t1), (17, .int .i64 x17_2), (10, bp b12 0), (12, bp b20 0), (13, v13_e1), (14, v14_e1), (174, .bool true)]) ⟨rfl, rfl, rfl, rfl, rfl, rfl, rfl, rfl, rfl, rfl, trivial⟩ ?_
          refine S.rd fun hr139 => ?_
          refine S.b1 ?_
          refine S.rd fun hr140 => ?_
          refine S.b4 ?_
          refine S.rd fun hr141 => ?_
          refine S.b5 ?_
          refine S.rd fun hr142 => ?_
          cases h
          refine S.b10 ?_
          refine S.b8 ?_
          refine S.b7 ?_
          refine S.b10 ?_
          refine S.b9 ?_
          refine S.b10 ?_
          refine S.b10 ?_
          refine S.b9 ?_
          refine S.b8 ?_
          refine S.b10 ?_
          refine S.b10 ?_
          refine S.to ?_ (hk4 (u96_L, u87_l, u98_L, u89_l) trivial)
          exact ⟨rfl, rfl, rfl, rfl, rfl, rfl, rfl, rfl, rfl, rfl, trivial⟩
        replace h := cond_f b138 h
        obtain ⟨t147, ht148, h⟩ := opt_bind h
        refine S.draw2 (Y := fun Q => ∃ (_ _ _ _ _ _ _ _ _ _ _ _ _ _ _ _ _ : Unit), Q [(13, v13_e1), (18, .int .i64 j18_3), (10, bp b12 0), (14, v14_e1), (12, bp b20 0), (2, v2), (3, v3), (8, .bool false), (9, .bool t1), (17, .int .i64 x17_2)] [Own 66 ek_ref07_Entry g81_L x74.L, Box b77 [.int .i64 x74.Mark, g81_L, .int .i64 x74.Status, .int .i64 x74.At], OwnPH rep_ref07_Desc 40 v14_e1 bs76 qv14_e1_2 j18_3.toNat, Own 53 ek_tx_Entry g72_l x65.l, Box b68 [.int .i64 x65.mark, g72_l, .int .i64 x65.status, .int .i64 x65.at_], OwnPH rep_desc_Desc 38 v13_e1 bs67 qv13_e1_2 j18_3.toNat, Own 55 ek_api_Cell vy20_0_2 y20_0_2, Own 55 ek_api_Cell vy12_0_2 y12_0_2, Box b20 [vy20_0_2, .int .u32 y20_1_2], Box b12 [vy12_0_2, .int .u32 y12_1_2], F]) (Z := fun Q => ∀ (_ _ _ _ _ _ : Unit) (g_6 : (Value × Value)) (g_7 : (Value × Value)) (_ _ _ : Unit), Q [(2, v2), (3, v3), (8, .bool false), (9, .bool t1), (17, .int .i64 x17_2), (10, bp b12 0), (12, bp b20 0), (13, v13_e1), (14, v14_e1), (174, .bool (!t147)), (129, .int .i64 t92), (123, .int .i64 t83)] [Own 55 ek_api_Cell g_6.1 p94.L, Own 66 ek_ref07_Entry g_6.2 p93.L, Box b77 [.int .i64 p93.Mark, g_6.2, .int .i64 p93.Status, .int .i64 p93.At], Box b20 [g_6.1, .int .u32 p94.Limit], Own 55 ek_api_Cell g_7.1 p85.l, Own 53 ek_tx_Entry g_7.2 p84.l, Box b68 [.int .i64 p84.mark, g_7.2, .int .i64 p84.status, .int .i64 p84.at_], Box b12 [g_7.1, .int .u32 p85.limit], OwnPH rep_ref07_Desc 40 v14_e1 bs76 qv14_e1_2 j18_3.toNat, OwnPH rep_desc_Desc 38 v13_e1 bs67 qv13_e1_2 j18_3.toNat, F]) (T := [tS 13 (v13_e1), tS 18 (.int .i64 j18_3), tS 10 (bp b12 0), tS 14 (v14_e1), tS 12 (bp b20 0), tE [(2, v2), (3, v3), (8, .bool false), (9, .bool t1), (17, .int .i64 x17_2)], tR (Own 66 ek_ref07_Entry g81_L x74.L), tR (Box b77 [.int .i64 x74.Mark, g81_L, .int .i64 x74.Status, .int .i64 x74.At]), tR (OwnPH rep_ref07_Desc 40 v14_e1 bs76 qv14_e1_2 j18_3.toNat), tR (Own 53 ek_tx_Entry g72_l x65.l), tR (Box b68 [.int .i64 x65.mark, g72_l, .int .i64 x65.status, .int .i64 x65.at_]), tR (OwnPH rep_desc_Desc 38 v13_e1 bs67 qv13_e1_2 j18_3.toNat), tR (Own 55 ek_api_Cell vy20_0_2 y20_0_2), tR (Own 55 ek_api_Cell vy12_0_2 y12_0_2), tR (Box b20 [vy20_0_2, .int .u32 y20_1_2]), tR (Box b12 [vy12_0_2, .int .u32 y12_1_2]), tR (F), tS 118 (v13_e1), tS 119 (.int .i64 j18_3), tS 120 (idxp v13_e1 (j18_3.toNat * ekP.sz)), tS 121 (bp b68 0), tS 122 (bp b12 0), ⟨(Value × Value), [123], (fun x => match x with | (u89_l, u87_l) => [(123, .int .i64 t83)]), (fun x => match x with | (u89_l, u87_l) => [Own 55 ek_api_Cell u89_l p85.l, Own 53 ek_tx_Entry u87_l p84.l, Box b68 [.int .i64 p84.mark, u87_l, .int .i64 p84.status, .int .i64 p84.at_], Box b12 [u89_l, .int .u32 p85.limit]]), fun _ => rfl⟩, tS 124 (v14_e1), tS 125 (.int .i64 j18_3), tS 126 (idxp v14_e1 (j18_3.toNat * ekP.sz)), tS 127 (bp b77 0), tS 128 (bp b20 0), ⟨(Value × Value), [129], (fun x => match x with | (u98_L, u96_L) => [(129, .int .i64 t92)]), (fun x => match x with | (u98_L, u96_L) => [Own 55 ek_api_Cell u98_L p94.L, Own 66 ek_ref07_Entry u96_L p93.L, Box b77 [.int .i64 p93.Mark, u96_L, .int .i64 p93.Status, .int .i64 p93.At], Box b20 [u98_L, .int .u32 p94.Limit]]), fun _ => rfl⟩, tS 130 (.bool (t83 != t92)), tS 131 (.bool (t83 != t92)), tS 132 (v13_e1), tS 133 (.int .i64 j18_3), tS 134 (idxp v13_e1 (j18_3.toNat * ekP.sz)), tS 135 (bp b68 0), tS 136 (.int .i64 t112), tS 137 (v14_e1), tS 138 (.int .i64 j18_3), tS 139 (idxp v14_e1 (j18_3.toNat * ekP.sz)), tS 140 (bp b77 0), tS 141 (bp b77 0), tS 142 (bp b77 2), tS 143 (.int .i64 p93.Status), tS 144 (.bool (t112 != p93.Status)), tS 145 (.bool (t112 != p93.Status)), tS 146 (.bool (t112 != p93.Status)), tS 147 (v13_e1), tS 148 (.int .i64 j18_3), tS 149 (idxp v13_e1 (j18_3.toNat * ekP.sz)), tS 150 (bp b68 0), tS 151 (.bool t123), tS 152 (v14_e1), tS 153 (.int .i64 j18_3), tS 154 (idxp v14_e1 (j18_3.toNat * ekP.sz)), tS 155 (bp b77 0), tS 156 (.bool t127), tS 157 (.bool (t123 != t127)), tS 158 (.bool (t123 != t127)), tS 159 (.bool (t123 != t127)), tS 160 (v13_e1), tS 161 (.int .i64 j18_3), tS 162 (idxp v13_e1 (j18_3.toNat * ekP.sz)), tS 163 (bp b68 0), tS 164 (.int .i64 t136), tS 165 (.int .i64 j18_3), tS 166 (.int .i64 (w64 (j18_3 + 1))), tS 167 (.bool (t136 != (w64 (j18_3 + 1)))), tS 168 (.bool (t136 != (w64 (j18_3 + 1)))), tS 169 (.bool (t136 != (w64 (j18_3 + 1)))), tS 170 (bp b12 0), tS 171 (bp b20 0), tS 172 (.bool t147), tS 173 (.bool (!t147)), tS 174 (.bool (!t147))]) (D := [⟨[0], [], [17]⟩, ⟨[1], [], [18]⟩, ⟨[17, 18, 11], [], [19]⟩, ⟨[19, 11], [], [20]⟩, ⟨[2], [], [21]⟩, ⟨[20, 21], [10, 9, 15, 13], [22]⟩, ⟨[3], [], [23]⟩, ⟨[1], [], [24]⟩, ⟨[23, 24, 8], [], [25]⟩, ⟨[25, 8], [], [26]⟩, ⟨[4], [], [27]⟩, ⟨[26, 27], [7, 6, 14, 12], [28]⟩, ⟨[22, 28], [], [29]⟩, ⟨[29], [], [30]⟩, ⟨[0, 30], [], [31]⟩, ⟨[1, 30], [], [32]⟩, ⟨[30, 31, 32, 11], [], [33]⟩, ⟨[30, 33, 11], [], [34]⟩, ⟨[30, 34, 22], [], [35]⟩, ⟨[3, 30], [], [36]⟩, ⟨[1, 30], [], [37]⟩, ⟨[30, 36, 37, 8], [], [38]⟩, ⟨[30, 38, 8], [], [39]⟩, ⟨[30, 39], [], [40]⟩, ⟨[30, 40], [], [41]⟩, ⟨[30, 41, 28], [], [42]⟩, ⟨[30, 35, 42], [], [43]⟩, ⟨[30, 43], [], [44]⟩, ⟨[44], [], [45]⟩, ⟨[0, 45], [], [46]⟩, ⟨[1, 45], [], [47]⟩, ⟨[45, 46, 47, 11], [], [48]⟩, ⟨[45, 48, 11], [], [49]⟩, ⟨[45, 49, 22], [], [50]⟩, ⟨[3, 45], [], [51]⟩, ⟨[1, 45], [], [52]⟩, ⟨[45, 51, 52, 8], [], [53]⟩, ⟨[45, 53, 8], [], [54]⟩, ⟨[45, 54, 28], [], [55]⟩, ⟨[45, 50, 55], [], [56]⟩, ⟨[45, 56], [], [57]⟩, ⟨[57], [], [58]⟩, ⟨[0, 58], [], [59]⟩, ⟨[1, 58], [], [60]⟩, ⟨[58, 59, 60, 11], [], [61]⟩, ⟨[58, 61, 11], [], [62]⟩, ⟨[58, 62, 22], [], [63]⟩, ⟨[1, 58], [], [64]⟩, ⟨[58, 64], [], [65]⟩, ⟨[58, 63, 65], [], [66]⟩, ⟨[58, 66], [], [67]⟩, ⟨[67], [], [68]⟩, ⟨[2, 68], [], [69]⟩, ⟨[4, 68], [], [70]⟩, ⟨[68, 69, 70, 22, 28], [], [71]⟩, ⟨[68, 71], [], [72]⟩, ⟨[68, 72], [], [73]⟩]) (ini := [0, 1, 2, 3, 4, 5, 6, 7, 8, 9, 10, 11, 12, 13, 14, 15, 16]) (fin := [5, 2, 4, 0, 3, 73, 28, 22, 8, 11, 16]) (bf := [[], [], [0, 1], [0, 1, 2], [], [0, 1, 2, 3, 4], [], [], [6, 7], [6, 7, 8], [], [0, 1, 2, 3, 4, 5, 6, 7, 8, 9, 10], [0, 1, 2, 3, 4, 5, 6, 7, 8, 9, 10, 11], [0, 1, 2, 3, 4, 5, 6, 7, 8, 9, 10, 11, 12], [0, 1, 2, 3, 4, 5, 6, 7, 8, 9, 10, 11, 12, 13], [0, 1, 2, 3, 4, 5, 6, 7, 8, 9, 10, 11, 12, 13], [0, 1, 2, 3, 4, 5, 6, 7, 8, 9, 10, 11, 12, 13, 14, 15], [0, 1, 2, 3, 4, 5, 6, 7, 8, 9, 10, 11, 12, 13, 14, 15, 16], [0, 1, 2, 3, 4, 5, 6, 7, 8, 9, 10, 11, 12, 13, 14, 15, 16, 17], [0, 1, 2, 3, 4, 5, 6, 7, 8, 9, 10, 11, 12, 13], [0, 1, 2, 3, 4, 5, 6, 7, 8, 9, 10, 11, 12, 13], [0, 1, 2, 3, 4, 5, 6, 7, 8, 9, 10, 11, 12, 13, 19, 20], [0, 1, 2, 3, 4, 5, 6, 7, 8, 9, 10, 11, 12, 13, 19, 20, 21], [0, 1, 2, 3, 4, 5, 6, 7, 8, 9, 10, 11, 12, 13, 19, 20, 21, 22], [0, 1, 2, 3, 4, 5, 6, 7, 8, 9, 10, 11, 12, 13, 19, 20, 21, 22, 23], [0, 1, 2, 3, 4, 5, 6, 7, 8, 9, 10, 11, 12, 13, 19, 20, 21, 22, 23, 24], [0, 1, 2, 3, 4, 5, 6, 7, 8, 9, 10, 11, 12, 13, 14, 15, 16, 17, 18, 19, 20, 21, 22, 23, 24, 25], [0, 1, 2, 3, 4, 5, 6, 7, 8, 9, 10, 11, 12, 13, 14, 15, 16, 17, 18, 19, 20, 21, 22, 23, 24, 25, 26], [0, 1, 2, 3, 4, 5, 6, 7, 8, 9, 10, 11, 12, 13, 14, 15, 16, 17, 18, 19, 20, 21, 22, 23, 24, 25, 26, 27], [0, 1, 2, 3, 4, 5, 6, 7, 8, 9, 10, 11, 12, 13, 14, 15, 16, 17, 18, 19, 20, 21, 22, 23, 24, 25, 26, 27, 28], [0, 1, 2, 3, 4, 5, 6, 7, 8, 9, 10, 11, 12, 13, 14, 15, 16, 17, 18, 19, 20, 21, 22, 23, 24, 25, 26, 27, 28], [0, 1, 2, 3, 4, 5, 6, 7, 8, 9, 10, 11, 12, 13, 14, 15, 16, 17, 18, 19, 20, 21, 22, 23, 24, 25, 26, 27, 28, 29, 30], [0, 1, 2, 3, 4, 5, 6, 7, 8, 9, 10, 11, 12, 13, 14, 15, 16, 17, 18, 19, 20, 21, 22, 23, 24, 25, 26, 27, 28, 29, 30, 31], [0, 1, 2, 3, 4, 5, 6, 7, 8, 9, 10, 11, 12, 13, 14, 15, 16, 17, 18, 19, 20, 21, 22, 23, 24, 25, 26, 27, 28, 29, 30, 31, 32], [0, 1, 2, 3, 4, 5, 6, 7, 8, 9, 10, 11, 12, 13, 14, 15, 16, 17, 18, 19, 20, 21, 22, 23, 24, 25, 26, 27, 28], [0, 1, 2, 3, 4, 5, 6, 7, 8, 9, 10, 11, 12, 13, 14, 15, 16, 17, 18, 19, 20, 21, 22, 23, 24, 25, 26, 27, 28], [0, 1, 2, 3, 4, 5, 6, 7, 8, 9, 10, 11, 12, 13, 14, 15, 16, 17, 18, 19, 20, 21, 22, 23, 24, 25, 26, 27, 28, 34, 35], [0, 1, 2, 3, 4, 5, 6, 7, 8, 9, 10, 11, 12, 13, 14, 15, 16, 17, 18, 19, 20, 21, 22, 23, 24, 25, 26, 27, 28, 34, 35, 36], [0, 1, 2, 3, 4, 5, 6, 7, 8, 9, 10, 11, 12, 13, 14, 15, 16, 17, 18, 19, 20, 21, 22, 23, 24, 25, 26, 27, 28, 29, 30, 31, 32, 33, 34, 35, 36, 37], [0, 1, 2, 3, 4, 5, 6, 7, 8, 9, 10, 11, 12, 13, 14, 15, 16, 17, 18, 19, 20, 21, 22, 23, 24, 25, 26, 27, 28, 29, 30, 31, 32, 33, 34, 35, 36, 37, 38], [0, 1, 2, 3, 4, 5, 6, 7, 8, 9, 10, 11, 12, 13, 14, 15, 16, 17, 18, 19, 20, 21, 22, 23, 24, 25, 26, 27, 28, 29, 30, 31, 32, 33, 34, 35, 36, 37, 38, 39], [0, 1, 2, 3, 4, 5, 6, 7, 8, 9, 10, 11, 12, 13, 14, 15, 16, 17, 18, 19, 20, 21, 22, 23, 24, 25, 26, 27, 28, 29, 30, 31, 32, 33, 34, 35, 36, 37, 38, 39, 40], [0, 1, 2, 3, 4, 5, 6, 7, 8, 9, 10, 11, 12, 13, 14, 15, 16, 17, 18, 19, 20, 21, 22, 23, 24, 25, 26, 27, 28, 29, 30, 31, 32, 33, 34, 35, 36, 37, 38, 39, 40, 41], [0, 1, 2, 3, 4, 5, 6, 7, 8, 9, 10, 11, 12, 13, 14, 15, 16, 17, 18, 19, 20, 21, 22, 23, 24, 25, 26, 27, 28, 29, 30, 31, 32, 33, 34, 35, 36, 37, 38, 39, 40, 41], [0, 1, 2, 3, 4, 5, 6, 7, 8, 9, 10, 11, 12, 13, 14, 15, 16, 17, 18, 19, 20, 21, 22, 23, 24, 25, 26, 27, 28, 29, 30, 31, 32, 33, 34, 35, 36, 37, 38, 39, 40, 41, 42, 43], [0, 1, 2, 3, 4, 5, 6, 7, 8, 9, 10, 11, 12, 13, 14, 15, 16, 17, 18, 19, 20, 21, 22, 23, 24, 25, 26, 27, 28, 29, 30, 31, 32, 33, 34, 35, 36, 37, 38, 39, 40, 41, 42, 43, 44], [0, 1, 2, 3, 4, 5, 6, 7, 8, 9, 10, 11, 12, 13, 14, 15, 16, 17, 18, 19, 20, 21, 22, 23, 24, 25, 26, 27, 28, 29, 30, 31, 32, 33, 34, 35, 36, 37, 38, 39, 40, 41, 42, 43, 44, 45], [0, 1, 2, 3, 4, 5, 6, 7, 8, 9, 10, 11, 12, 13, 14, 15, 16, 17, 18, 19, 20, 21, 22, 23, 24, 25, 26, 27, 28, 29, 30, 31, 32, 33, 34, 35, 36, 37, 38, 39, 40, 41], [0, 1, 2, 3, 4, 5, 6, 7, 8, 9, 10, 11, 12, 13, 14, 15, 16, 17, 18, 19, 20, 21, 22, 23, 24, 25, 26, 27, 28, 29, 30, 31, 32, 33, 34, 35, 36, 37, 38, 39, 40, 41, 47], [0, 1, 2, 3, 4, 5, 6, 7, 8, 9, 10, 11, 12, 13, 14, 15, 16, 17, 18, 19, 20, 21, 22, 23, 24, 25, 26, 27, 28, 29, 30, 31, 32, 33, 34, 35, 36, 37, 38, 39, 40, 41, 42, 43, 44, 45, 46, 47, 48], [0, 1, 2, 3, 4, 5, 6, 7, 8, 9, 10, 11, 12, 13, 14, 15, 16, 17, 18, 19, 20, 21, 22, 23, 24, 25, 26, 27, 28, 29, 30, 31, 32, 33, 34, 35, 36, 37, 38, 39, 40, 41, 42, 43, 44, 45, 46, 47, 48, 49], [0, 1, 2, 3, 4, 5, 6, 7, 8, 9, 10, 11, 12, 13, 14, 15, 16, 17, 18, 19, 20, 21, 22, 23, 24, 25, 26, 27, 28, 29, 30, 31, 32, 33, 34, 35, 36, 37, 38, 39, 40, 41, 42, 43, 44, 45, 46, 47, 48, 49, 50], [0, 1, 2, 3, 4, 5, 6, 7, 8, 9, 10, 11, 12, 13, 14, 15, 16, 17, 18, 19, 20, 21, 22, 23, 24, 25, 26, 27, 28, 29, 30, 31, 32, 33, 34, 35, 36, 37, 38, 39, 40, 41, 42, 43, 44, 45, 46, 47, 48, 49, 50, 51], [0, 1, 2, 3, 4, 5, 6, 7, 8, 9, 10, 11, 12, 13, 14, 15, 16, 17, 18, 19, 20, 21, 22, 23, 24, 25, 26, 27, 28, 29, 30, 31, 32, 33, 34, 35, 36, 37, 38, 39, 40, 41, 42, 43, 44, 45, 46, 47, 48, 49, 50, 51], [0, 1, 2, 3, 4, 5, 6, 7, 8, 9, 10, 11, 12, 13, 14, 15, 16, 17, 18, 19, 20, 21, 22, 23, 24, 25, 26, 27, 28, 29, 30, 31, 32, 33, 34, 35, 36, 37, 38, 39, 40, 41, 42, 43, 44, 45, 46, 47, 48, 49, 50, 51, 52, 53], [0, 1, 2, 3, 4, 5, 6, 7, 8, 9, 10, 11, 12, 13, 14, 15, 16, 17, 18, 19, 20, 21, 22, 23, 24, 25, 26, 27, 28, 29, 30, 31, 32, 33, 34, 35, 36, 37, 38, 39, 40, 41, 42, 43, 44, 45, 46, 47, 48, 49, 50, 51, 52, 53, 54], [0, 1, 2, 3, 4, 5, 6, 7, 8, 9, 10, 11, 12, 13, 14, 15, 16, 17, 18, 19, 20, 21, 22, 23, 24, 25, 26, 27, 28, 29, 30, 31, 32, 33, 34, 35, 36, 37, 38, 39, 40, 41, 42, 43, 44, 45, 46, 47, 48, 49, 50, 51, 52, 53, 54, 55]]) (by kernel_rfl) (by kernel_rfl) (fun Q => by kernel_rfl) (fun x w h1 h2 => ⟨(), (), (), (), (), (), (), (), (), (), (), (), (), (), (), (), (), EnvAll.of h1 ⟨rfl, rfl, rfl, rfl, rfl, rfl, rfl, rfl, rfl, rfl, trivial⟩, h2⟩) (fun Q => by kernel_rfl) ⟨?_, ?_, ?_, ?_, ?_, ?_, ?_, ?_, ?_, ?_, ?_, ?_, ?_, ?_, ?_, ?_, ?_, ?_, ?_, ?_, ?_, ?_, ?_, ?_, ?_, ?_, ?_, ?_, ?_, ?_, ?_, ?_, ?_, ?_, ?_, ?_, ?_, ?_, ?_, ?_, ?_, ?_, ?_, ?_, ?_, ?_, ?_, ?_, ?_, ?_, ?_, ?_, ?_, ?_, ?_, ?_, ?_, trivial⟩ ?_
        · rintro Fr _
          refine SO.v rfl (opv_move rfl) ?_
          exact SO.nilZ fun a w h1 h2 h3 h4 h5 => PZ.of h1 h3 h5 (.cons () (.cons () (.nil ⟨EnvAll.of h2 ⟨rfl, rfl, trivial⟩, h4⟩)))
        · rintro Fr _
          refine SO.v rfl (opv_move rfl) ?_
          exact SO.nilZ fun a w h1 h2 h3 h4 h5 => PZ.of h1 h3 h5 (.cons () (.cons () (.nil ⟨EnvAll.of h2 ⟨rfl, rfl, trivial⟩, h4⟩)))
        · rintro Fr _ _ _
          refine SO.v rfl (opv_idx (K := ekP) Try.underlying35 Try.sizeOf38 hRp71 rfl rfl hb69) ?_
          exact SO.nilZ fun a w h1 h2 h3 h4 h5 => PZ.of h1 h3 h5 (.cons () (.cons () (.cons () (.cons () (.nil ⟨EnvAll.of h2 ⟨rfl, rfl, rfl, trivial⟩, h4⟩)))))
        · rintro Fr _ _
          refine SO.loadI1 (j := 0) (K := ekP) rfl Try.isAgg38 (Rd.head hRp71) hb69 rfl rfl rfl rfl ?_
          exact SO.nilZ fun a w h1 h2 h3 h4 h5 => PZ.of h1 h3 h5 (.cons () (.cons () (.cons () (.nil ⟨EnvAll.of h2 ⟨rfl, rfl, trivial⟩, h4⟩))))
        · rintro Fr _
          refine SO.v rfl (opv_move rfl) ?_
          exact SO.nilZ fun a w h1 h2 h3 h4 h5 => PZ.of h1 h3 h5 (.cons () (.cons () (.nil ⟨EnvAll.of h2 ⟨rfl, rfl, trivial⟩, h4⟩)))
        · refine spec2 (X := fun Q => ∀ (_ _ _ _ _ _ : Unit), Q [(121, bp b68 0), (122, bp b12 0)] [Box b68 [.int .i64 x65.mark, g72_l, .int .i64 x65.status, .int .i64 x65.at_], Own 53 ek_tx_Entry g72_l x65.l, Box b12 [vy12_0_2, .int .u32 y12_1_2], Own 55 ek_api_Cell vy12_0_2 y12_0_2]) (fun Q => by kernel_rfl) ?_
          rintro Fr _ _ _ _ _ _
          refine SO.b3 ?_
          refine SO.b3 ?_
          refine SO.b3 ?_
          refine SO.b3 ?_
          have ct91 := desc_Desc_Step.ct b68 g72_l b12 vy12_0_2 _ _ _ _ _ ht86
          try dsimp only at ct91
          refine SO.call (pre := [Box _ _, Own _ _ _ _, Box _ _, Own _ _ _ _]) rfl Try.call9 rfl rfl rfl ct91 trivial ?_
          rintro _ _ ⟨u87_l, u89_l, rfl, rfl⟩
          refine SO.b1 ?_
          refine SO.rd fun hr88 => ?_
          refine SO.b3 ?_
          refine SO.rd fun hr90 => ?_
          refine SO.b3 ?_
          refine SO.b3 ?_
          refine SO.b3 ?_
          refine SO.b3 ?_
          exact SO.nilZ fun a w h1 h2 h3 h4 h5 => PZ.of h1 h3 h5 (.cons () (.cons () (.cons (u89_l, u87_l) (.nil ⟨EnvAll.of h2 ⟨rfl, rfl, rfl, trivial⟩, h4⟩))))
        · rintro Fr _
          refine SO.v rfl (opv_move rfl) ?_
          exact SO.nilZ fun a w h1 h2 h3 h4 h5 => PZ.of h1 h3 h5 (.cons () (.cons () (.nil ⟨EnvAll.of h2 ⟨rfl, rfl, trivial⟩, h4⟩)))
        · rintro Fr _
          refine SO.v rfl (opv_move rfl) ?_
          exact SO.nilZ fun a w h1 h2 h3 h4 h5 => PZ.of h1 h3 h5 (.cons () (.cons () (.nil ⟨EnvAll.of h2 ⟨rfl, rfl, trivial⟩, h4⟩)))
        · rintro Fr _ _ _
          refine SO.v rfl (opv_idx (K := ekP) Try.underlying36 Try.sizeOf40 hRp80 rfl rfl hb78) ?_
          exact SO.nilZ fun a w h1 h2 h3 h4 h5 => PZ.of h1 h3 h5 (.cons () (.cons () (.cons () (.cons () (.nil ⟨EnvAll.of h2 ⟨rfl, rfl, rfl, trivial⟩, h4⟩)))))
        · rintro Fr _ _
          refine SO.loadI1 (j := 0) (K := ekP) rfl Try.isAgg40 (Rd.head hRp80) hb78 rfl rfl rfl rfl ?_
          exact SO.nilZ fun a w h1 h2 h3 h4 h5 => PZ.of h1 h3 h5 (.cons () (.cons () (.cons () (.nil ⟨EnvAll.of h2 ⟨rfl, rfl, trivial⟩, h4⟩))))
        · rintro Fr _
          refine SO.v rfl (opv_move rfl) ?_
          exact SO.nilZ fun a w h1 h2 h3 h4 h5 => PZ.of h1 h3 h5 (.cons () (.cons () (.nil ⟨EnvAll.of h2 ⟨rfl, rfl, trivial⟩, h4⟩)))
        · refine spec2 (X := fun Q => ∀ (_ _ _ _ _ _ : Unit), Q [(127, bp b77 0), (128, bp b20 0)] [Box b77 [.int .i64 x74.Mark, g81_L, .int .i64 x74.Status, .int .i64 x74.At], Own 66 ek_ref07_Entry g81_L x74.L, Box b20 [vy20_0_2, .int .u32 y20_1_2], Own 55 ek_api_Cell vy20_0_2 y20_0_2]) (fun Q => by kernel_rfl) ?_
          rintro Fr _ _ _ _ _ _
          refine SO.b3 ?_
          refine SO.b3 ?_
          refine SO.b3 ?_
          refine SO.b3 ?_
          have ct100 := ref07_Desc_Step.ct b77 g81_L b20 vy20_0_2 _ _ _ _ _ ht95
          try dsimp only at ct100
          refine SO.call (pre := [Box _ _, Own _ _ _ _, Box _ _, Own _ _ _ _]) rfl Try.call10 rfl rfl rfl ct100 trivial ?_
          rintro _ _ ⟨u96_L, u98_L, rfl, rfl⟩
          refine SO.b1 ?_
          refine SO.rd fun hr97 => ?_
          refine SO.b3 ?_
          refine SO.rd fun hr99 => ?_
          refine SO.b3 ?_
          refine SO.b3 ?_
          refine SO.b3 ?_
          refine SO.b3 ?_
          exact SO.nilZ fun a w h1 h2 h3 h4 h5 => PZ.of h1 h3 h5 (.cons () (.cons () (.cons (u98_L, u96_L) (.nil ⟨EnvAll.of h2 ⟨rfl, rfl, rfl, trivial⟩, h4⟩))))
        · rintro Fr ⟨u89_l, u87_l⟩ ⟨u98_L, u96_L⟩
          refine SO.rd fun hr101 => ?_
          refine SO.b1 ?_
          refine SO.rd fun hr102 => ?_
          refine SO.b4 ?_
          refine SO.rd fun hr103 => ?_
          refine SO.b5 ?_
          refine SO.rd fun hr104 => ?_
          refine SO.v rfl (opv_neq rfl rfl) ?_
          refine SO.b7 ?_
          refine SO.b7 ?_
          refine SO.b2 ?_
          refine SO.b3 ?_
          refine SO.b7 ?_
          refine SO.b7 ?_
          refine SO.b6 ?_
          refine SO.b7 ?_
          exact SO.nilZ fun a w h1 h2 h3 h4 h5 => PZ.of h1 h3 h5 (.cons (u89_l, u87_l) (.cons (u98_L, u96_L) (.cons () (.nil ⟨EnvAll.of h2 ⟨rfl, rfl, rfl, trivial⟩, h4⟩))))
        · rintro Fr _
          refine SO.v rfl (opv_move rfl) ?_
          exact SO.nilZ fun a w h1 h2 h3 h4 h5 => PZ.of h1 h3 h5 (.cons () (.cons () (.nil ⟨EnvAll.of h2 ⟨rfl, rfl, trivial⟩, h4⟩)))
        · rintro Fr _ _
          refine SO.takeT rfl rfl rfl b105 ?_
          refine SO.v rfl (opv_move rfl) ?_
          exact SO.nilZ fun a w h1 h2 h3 h4 h5 => PZ.of h1 h3 h5 (.cons () (.cons () (.cons () (.nil ⟨EnvAll.of h2 ⟨rfl, rfl, rfl, trivial⟩, h4⟩))))
        · rintro Fr _ _
          refine SO.takeT rfl rfl rfl b105 ?_
          refine SO.v rfl (opv_move rfl) ?_
          exact SO.nilZ fun a w h1 h2 h3 h4 h5 => PZ.of h1 h3 h5 (.cons () (.cons () (.cons () (.nil ⟨EnvAll.of h2 ⟨rfl, rfl, rfl, trivial⟩, h4⟩))))
        · rintro Fr _ _ _ _
          refine SO.takeT rfl rfl rfl b105 ?_
          refine SO.v rfl (opv_idx (K := ekP) Try.underlying35 Try.sizeOf38 hRp71 rfl rfl hb69) ?_
          exact SO.nilZ fun a w h1 h2 h3 h4 h5 => PZ.of2 (Y := fun Q => ∃ (_ _ _ _ _ : Unit), Q [(131, .bool (t83 != t92)), (132, v13_e1), (133, .int .i64 j18_3), (134, idxp v13_e1 (j18_3.toNat * ekP.sz))] [OwnPH rep_desc_Desc 38 v13_e1 bs67 qv13_e1_2 j18_3.toNat]) (fun Q => by kernel_rfl) h1 h3 h5 ⟨(), (), (), (), (), EnvAll.of h2 ⟨rfl, rfl, rfl, rfl, trivial⟩, h4⟩
        · rintro Fr _ _ _
          refine SO.takeT rfl rfl rfl b105 ?_
          refine SO.loadI1 (j := 0) (K := ekP) rfl Try.isAgg38 (Rd.head hRp71) hb69 rfl rfl rfl rfl ?_
          exact SO.nilZ fun a w h1 h2 h3 h4 h5 => PZ.of h1 h3 h5 (.cons () (.cons () (.cons () (.cons () (.nil ⟨EnvAll.of h2 ⟨rfl, rfl, rfl, trivial⟩, h4⟩)))))
        · rintro Fr _ _ ⟨u89_l, u87_l⟩
          refine SO.rd fun hr110 => ?_
          refine SO.b1 ?_
          refine SO.rd fun hr111 => ?_
          refine SO.takeT rfl rfl rfl b105 ?_
          refine SO.b2 ?_
          refine SO.call (pre := [Box _ _, Own _ _ _ _]) rfl Try.call11 rfl rfl rfl (desc_Desc_Status.ct b68 u87_l _ _ ht113) trivial ?_
          rintro _ _ ⟨rfl, rfl⟩
          refine SO.b3 ?_
          refine SO.b1 ?_
          refine SO.b2 ?_
          refine SO.b3 ?_
          exact SO.nilZ fun a w h1 h2 h3 h4 h5 => PZ.of h1 h3 h5 (.cons () (.cons () (.cons (u89_l, u87_l) (.cons () (.nil ⟨EnvAll.of h2 ⟨rfl, rfl, rfl, rfl, trivial⟩, h4⟩)))))
        · rintro Fr _ _
          refine SO.takeT rfl rfl rfl b105 ?_
          refine SO.v rfl (opv_move rfl) ?_
          exact SO.nilZ fun a w h1 h2 h3 h4 h5 => PZ.of h1 h3 h5 (.cons () (.cons () (.cons () (.nil ⟨EnvAll.of h2 ⟨rfl, rfl, rfl, trivial⟩, h4⟩))))
        · rintro Fr _ _
          refine SO.takeT rfl rfl rfl b105 ?_
          refine SO.v rfl (opv_move rfl) ?_
          exact SO.nilZ fun a w h1 h2 h3 h4 h5 => PZ.of h1 h3 h5 (.cons () (.cons () (.cons () (.nil ⟨EnvAll.of h2 ⟨rfl, rfl, rfl, trivial⟩, h4⟩))))
        · rintro Fr _ _ _ _
          refine SO.takeT rfl rfl rfl b105 ?_
          refine SO.v rfl (opv_idx (K := ekP) Try.underlying36 Try.sizeOf40 hRp80 rfl rfl hb78) ?_
          exact SO.nilZ fun a w h1 h2 h3 h4 h5 => PZ.of2 (Y := fun Q => ∃ (_ _ _ _ _ : Unit), Q [(131, .bool (t83 != t92)), (137, v14_e1), (138, .int .i64 j18_3), (139, idxp v14_e1 (j18_3.toNat * ekP.sz))] [OwnPH rep_ref07_Desc 40 v14_e1 bs76 qv14_e1_2 j18_3.toNat]) (fun Q => by kernel_rfl) h1 h3 h5 ⟨(), (), (), (), (), EnvAll.of h2 ⟨rfl, rfl, rfl, rfl, trivial⟩, h4⟩
        · rintro Fr _ _ _
          refine SO.takeT rfl rfl rfl b105 ?_
          refine SO.loadI1 (j := 0) (K := ekP) rfl Try.isAgg40 (Rd.head hRp80) hb78 rfl rfl rfl rfl ?_
          exact SO.nilZ fun a w h1 h2 h3 h4 h5 => PZ.of h1 h3 h5 (.cons () (.cons () (.cons () (.cons () (.nil ⟨EnvAll.of h2 ⟨rfl, rfl, rfl, trivial⟩, h4⟩)))))
        · rintro Fr _ _
          refine SO.takeT rfl rfl rfl b105 ?_
          refine SO.v rfl (opv_nilCheck rfl) ?_
          exact SO.nilZ fun a w h1 h2 h3 h4 h5 => PZ.of h1 h3 h5 (.cons () (.cons () (.cons () (.nil ⟨EnvAll.of h2 ⟨rfl, rfl, rfl, trivial⟩, h4⟩))))
        · rintro Fr _ _
          refine SO.takeT rfl rfl rfl b105 ?_
          refine SO.v rfl (opv_fieldAddr Try.underlying44 rfl Try.sizeOf3 rfl rfl) ?_
          exact SO.nilZ fun a w h1 h2 h3 h4 h5 => PZ.of h1 h3 h5 (.cons () (.cons () (.cons () (.nil ⟨EnvAll.of h2 ⟨rfl, rfl, rfl, trivial⟩, h4⟩))))
        · rintro Fr _ _ ⟨u98_L, u96_L⟩
          refine SO.rd fun hr114 => ?_
          refine SO.b1 ?_
          refine SO.rd fun hr115 => ?_
          refine SO.takeT rfl rfl rfl b105 ?_
          refine SO.b2 ?_
          refine SO.load1 rfl Try.isAgg3 rfl rfl ?_
          refine SO.b3 ?_
          refine SO.b1 ?_
          refine SO.b2 ?_
          refine SO.b3 ?_
          exact SO.nilZ fun a w h1 h2 h3 h4 h5 => PZ.of h1 h3 h5 (.cons () (.cons () (.cons (u98_L, u96_L) (.cons () (.nil ⟨EnvAll.of h2 ⟨rfl, rfl, rfl, rfl, trivial⟩, h4⟩)))))
        · rintro Fr _ _ _
          refine SO.takeT rfl rfl rfl b105 ?_
          refine SO.v rfl (opv_neq rfl rfl) ?_
          exact SO.nilZ fun a w h1 h2 h3 h4 h5 => PZ.of h1 h3 h5 (.cons () (.cons () (.cons () (.cons () (.nil ⟨EnvAll.of h2 ⟨rfl, rfl, rfl, rfl, trivial⟩, h4⟩)))))
        · rintro Fr _ _
          refine SO.v rfl (opv_pick_f' b105 rfl rfl) ?_
          exact SO.nilZ fun a w h1 h2 h3 h4 h5 => PZ.of h1 h3 h5 (.cons () (.cons () (.cons () (.nil ⟨EnvAll.of h2 ⟨rfl, rfl, rfl, trivial⟩, h4⟩))))
        · rintro Fr _
          refine SO.v rfl (opv_move rfl) ?_
          exact SO.nilZ fun a w h1 h2 h3 h4 h5 => PZ.of h1 h3 h5 (.cons () (.cons () (.nil ⟨EnvAll.of h2 ⟨rfl, rfl, trivial⟩, h4⟩)))
        · rintro Fr _ _
          refine SO.takeT rfl rfl rfl b116 ?_
          refine SO.v rfl (opv_move rfl) ?_
          exact SO.nilZ fun a w h1 h2 h3 h4 h5 => PZ.of h1 h3 h5 (.cons () (.cons () (.cons () (.nil ⟨EnvAll.of h2 ⟨rfl, rfl, rfl, trivial⟩, h4⟩))))
        · rintro Fr _ _
          refine SO.takeT rfl rfl rfl b116 ?_
          refine SO.v rfl (opv_move rfl) ?_
          exact SO.nilZ fun a w h1 h2 h3 h4 h5 => PZ.of h1 h3 h5 (.cons () (.cons () (.cons () (.nil ⟨EnvAll.of h2 ⟨rfl, rfl, rfl, trivial⟩, h4⟩))))
        · rintro Fr _ _ _ _
          refine SO.takeT rfl rfl rfl b116 ?_
          refine SO.v rfl (opv_idx (K := ekP) Try.underlying35 Try.sizeOf38 hRp71 rfl rfl hb69) ?_
          exact SO.nilZ fun a w h1 h2 h3 h4 h5 => PZ.of2 (Y := fun Q => ∃ (_ _ _ _ _ : Unit), Q [(146, .bool (t112 != p93.Status)), (147, v13_e1), (148, .int .i64 j18_3), (149, idxp v13_e1 (j18_3.toNat * ekP.sz))] [OwnPH rep_desc_Desc 38 v13_e1 bs67 qv13_e1_2 j18_3.toNat]) (fun Q => by kernel_rfl) h1 h3 h5 ⟨(), (), (), (), (), EnvAll.of h2 ⟨rfl, rfl, rfl, rfl, trivial⟩, h4⟩
        · rintro Fr _ _ _
          refine SO.takeT rfl rfl rfl b116 ?_
          refine SO.loadI1 (j := 0) (K := ekP) rfl Try.isAgg38 (Rd.head hRp71) hb69 rfl rfl rfl rfl ?_
          exact SO.nilZ fun a w h1 h2 h3 h4 h5 => PZ.of h1 h3 h5 (.cons () (.cons () (.cons () (.cons () (.nil ⟨EnvAll.of h2 ⟨rfl, rfl, rfl, trivial⟩, h4⟩)))))
        · rintro Fr _ _ ⟨u89_l, u87_l⟩
          refine SO.rd fun hr121 => ?_
          refine SO.b1 ?_
          refine SO.rd fun hr122 => ?_
          refine SO.takeT rfl rfl rfl b116 ?_
          refine SO.b2 ?_
          refine SO.call (pre := [Box _ _, Own _ _ _ _]) rfl Try.call12 rfl rfl rfl (desc_Desc_Over.ct b68 u87_l _ _ ht124) trivial ?_
          rintro _ _ ⟨rfl, rfl⟩
          refine SO.b3 ?_
          refine SO.b1 ?_
          refine SO.b2 ?_
          refine SO.b3 ?_
          exact SO.nilZ fun a w h1 h2 h3 h4 h5 => PZ.of h1 h3 h5 (.cons () (.cons () (.cons (u89_l, u87_l) (.cons () (.nil ⟨EnvAll.of h2 ⟨rfl, rfl, rfl, rfl, trivial⟩, h4⟩)))))
        · rintro Fr _ _
          refine SO.takeT rfl rfl rfl b116 ?_
          refine SO.v rfl (opv_move rfl) ?_
          exact SO.nilZ fun a w h1 h2 h3 h4 h5 => PZ.of h1 h3 h5 (.cons () (.cons () (.cons () (.nil ⟨EnvAll.of h2 ⟨rfl, rfl, rfl, trivial⟩, h4⟩))))
        · rintro Fr _ _
          refine SO.takeT rfl rfl rfl b116 ?_
          refine SO.v rfl (opv_move rfl) ?_
          exact SO.nilZ fun a w h1 h2 h3 h4 h5 => PZ.of h1 h3 h5 (.cons () (.cons () (.cons () (.nil ⟨EnvAll.of h2 ⟨rfl, rfl, rfl, trivial⟩, h4⟩))))
        · rintro Fr _ _ _ _
          refine SO.takeT rfl rfl rfl b116 ?_
          refine SO.v rfl (opv_idx (K := ekP) Try.underlying36 Try.sizeOf40 hRp80 rfl rfl hb78) ?_
          exact SO.nilZ fun a w h1 h2 h3 h4 h5 => PZ.of2 (Y := fun Q => ∃ (_ _ _ _ _ : Unit), Q [(146, .bool (t112 != p93.Status)), (152, v14_e1), (153, .int .i64 j18_3), (154, idxp v14_e1 (j18_3.toNat * ekP.sz))] [OwnPH rep_ref07_Desc 40 v14_e1 bs76 qv14_e1_2 j18_3.toNat]) (fun Q => by kernel_rfl) h1 h3 h5 ⟨(), (), (), (), (), EnvAll.of h2 ⟨rfl, rfl, rfl, rfl, trivial⟩, h4⟩
        · rintro Fr _ _ _
          refine SO.takeT rfl rfl rfl b116 ?_
          refine SO.loadI1 (j := 0) (K := ekP) rfl Try.isAgg40 (Rd.head hRp80) hb78 rfl rfl rfl rfl ?_
          exact SO.nilZ fun a w h1 h2 h3 h4 h5 => PZ.of h1 h3 h5 (.cons () (.cons () (.cons () (.cons () (.nil ⟨EnvAll.of h2 ⟨rfl, rfl, rfl, trivial⟩, h4⟩)))))
        · rintro Fr _ _ ⟨u98_L, u96_L⟩
          refine SO.rd fun hr125 => ?_
          refine SO.b1 ?_
          refine SO.rd fun hr126 => ?_
          refine SO.takeT rfl rfl rfl b116 ?_
          refine SO.b2 ?_
          refine SO.call (pre := [Box _ _, Own _ _ _ _]) rfl Try.call13 rfl rfl rfl (ref07_Desc_Over.ct b77 u96_L _ _ ht128) trivial ?_
          rintro _ _ ⟨rfl, rfl⟩
          refine SO.b3 ?_
          refine SO.b1 ?_
          refine SO.b2 ?_
          refine SO.b3 ?_
          exact SO.nilZ fun a w h1 h2 h3 h4 h5 => PZ.of h1 h3 h5 (.cons () (.cons () (.cons (u98_L, u96_L) (.cons () (.nil ⟨EnvAll.of h2 ⟨rfl, rfl, rfl, rfl, trivial⟩, h4⟩)))))
        · rintro Fr _ _ _
          refine SO.takeT rfl rfl rfl b116 ?_
          refine SO.v rfl (opv_neqB Try.underlying4 rfl rfl) ?_
          exact SO.nilZ fun a w h1 h2 h3 h4 h5 => PZ.of h1 h3 h5 (.cons () (.cons () (.cons () (.cons () (.nil ⟨EnvAll.of h2 ⟨rfl, rfl, rfl, rfl, trivial⟩, h4⟩)))))
        · rintro Fr _ _
          refine SO.v rfl (opv_pick_f' b116 rfl rfl) ?_
          exact SO.nilZ fun a w h1 h2 h3 h4 h5 => PZ.of h1 h3 h5 (.cons () (.cons () (.cons () (.nil ⟨EnvAll.of h2 ⟨rfl, rfl, rfl, trivial⟩, h4⟩))))
        · rintro Fr _
          refine SO.v rfl (opv_move rfl) ?_
          exact SO.nilZ fun a w h1 h2 h3 h4 h5 => PZ.of h1 h3 h5 (.cons () (.cons () (.nil ⟨EnvAll.of h2 ⟨rfl, rfl, trivial⟩, h4⟩)))
        · rintro Fr _ _
          refine SO.takeT rfl rfl rfl b129 ?_
          refine SO.v rfl (opv_move rfl) ?_
          exact SO.nilZ fun a w h1 h2 h3 h4 h5 => PZ.of h1 h3 h5 (.cons () (.cons () (.cons () (.nil ⟨EnvAll.of h2 ⟨rfl, rfl, rfl, trivial⟩, h4⟩))))
        · rintro Fr _ _
          refine SO.takeT rfl rfl rfl b129 ?_
          refine SO.v rfl (opv_move rfl) ?_
          exact SO.nilZ fun a w h1 h2 h3 h4 h5 => PZ.of h1 h3 h5 (.cons () (.cons () (.cons () (.nil ⟨EnvAll.of h2 ⟨rfl, rfl, rfl, trivial⟩, h4⟩))))
        · rintro Fr _ _ _ _
          refine SO.takeT rfl rfl rfl b129 ?_
          refine SO.v rfl (opv_idx (K := ekP) Try.underlying35 Try.sizeOf38 hRp71 rfl rfl hb69) ?_
          exact SO.nilZ fun a w h1 h2 h3 h4 h5 => PZ.of2 (Y := fun Q => ∃ (_ _ _ _ _ : Unit), Q [(159, .bool (t123 != t127)), (160, v13_e1), (161, .int .i64 j18_3), (162, idxp v13_e1 (j18_3.toNat * ekP.sz))] [OwnPH rep_desc_Desc 38 v13_e1 bs67 qv13_e1_2 j18_3.toNat]) (fun Q => by kernel_rfl) h1 h3 h5 ⟨(), (), (), (), (), EnvAll.of h2 ⟨rfl, rfl, rfl, rfl, trivial⟩, h4⟩
        · rintro Fr _ _ _
          refine SO.takeT rfl rfl rfl b129 ?_
          refine SO.loadI1 (j := 0) (K := ekP) rfl Try.isAgg38 (Rd.head hRp71) hb69 rfl rfl rfl rfl ?_
          exact SO.nilZ fun a w h1 h2 h3 h4 h5 => PZ.of h1 h3 h5 (.cons () (.cons () (.cons () (.cons () (.nil ⟨EnvAll.of h2 ⟨rfl, rfl, rfl, trivial⟩, h4⟩)))))
        · rintro Fr _ _ ⟨u89_l, u87_l⟩
          refine SO.rd fun hr134 => ?_
          refine SO.b1 ?_
          refine SO.rd fun hr135 => ?_
          refine SO.takeT rfl rfl rfl b129 ?_
          refine SO.b2 ?_
          refine SO.call (pre := [Box _ _, Own _ _ _ _]) rfl Try.call14 rfl rfl rfl (desc_Desc_Mark.ct b68 u87_l _ _ ht137) trivial ?_
          rintro _ _ ⟨rfl, rfl⟩
          refine SO.b3 ?_
          refine SO.b1 ?_
          refine SO.b2 ?_
          refine SO.b3 ?_
          exact SO.nilZ fun a w h1 h2 h3 h4 h5 => PZ.of h1 h3 h5 (.cons () (.cons () (.cons (u89_l, u87_l) (.cons () (.nil ⟨EnvAll.of h2 ⟨rfl, rfl, rfl, rfl, trivial⟩, h4⟩)))))
        · rintro Fr _ _
          refine SO.takeT rfl rfl rfl b129 ?_
          refine SO.v rfl (opv_move rfl) ?_
          exact SO.nilZ fun a w h1 h2 h3 h4 h5 => PZ.of h1 h3 h5 (.cons () (.cons () (.cons () (.nil ⟨EnvAll.of h2 ⟨rfl, rfl, rfl, trivial⟩, h4⟩))))
        · rintro Fr _ _
          refine SO.takeT rfl rfl rfl b129 ?_
          refine SO.v rfl (opv_add rfl rfl) ?_
          exact SO.nilZ fun a w h1 h2 h3 h4 h5 => PZ.of h1 h3 h5 (.cons () (.cons () (.cons () (.nil ⟨EnvAll.of h2 ⟨rfl, rfl, rfl, trivial⟩, h4⟩))))
        · rintro Fr _ _ _
          refine SO.takeT rfl rfl rfl b129 ?_
          refine SO.v rfl (opv_neq rfl rfl) ?_
          exact SO.nilZ fun a w h1 h2 h3 h4 h5 => PZ.of h1 h3 h5 (.cons () (.cons () (.cons () (.cons () (.nil ⟨EnvAll.of h2 ⟨rfl, rfl, rfl, rfl, trivial⟩, h4⟩)))))
        · rintro Fr _ _
          refine SO.v rfl (opv_pick_f' b129 rfl rfl) ?_
          exact SO.nilZ fun a w h1 h2 h3 h4 h5 => PZ.of h1 h3 h5 (.cons () (.cons () (.cons () (.nil ⟨EnvAll.of h2 ⟨rfl, rfl, rfl, trivial⟩, h4⟩))))
        · rintro Fr _
          refine SO.v rfl (opv_move rfl) ?_
          exact SO.nilZ fun a w h1 h2 h3 h4 h5 => PZ.of h1 h3 h5 (.cons () (.cons () (.nil ⟨EnvAll.of h2 ⟨rfl, rfl, trivial⟩, h4⟩)))
        · rintro Fr _ _
          refine SO.takeT rfl rfl rfl b138 ?_
          refine SO.v rfl (opv_move rfl) ?_
          exact SO.nilZ fun a w h1 h2 h3 h4 h5 => PZ.of h1 h3 h5 (.cons () (.cons () (.cons () (.nil ⟨EnvAll.of h2 ⟨rfl, rfl, rfl, trivial⟩, h4⟩))))
        · rintro Fr _ _
          refine SO.takeT rfl rfl rfl b138 ?_
          refine SO.v rfl (opv_move rfl) ?_
          exact SO.nilZ fun a w h1 h2 h3 h4 h5 => PZ.of h1 h3 h5 (.cons () (.cons () (.cons () (.nil ⟨EnvAll.of h2 ⟨rfl, rfl, rfl, trivial⟩, h4⟩))))
        · refine spec2 (X := fun Q => ∀ (_ _ _ : Unit) (gq_3 : (Value × Value)) (gq_4 : (Value × Value)), Q [(169, .bool (t136 != (w64 (j18_3 + 1)))), (170, bp b12 0), (171, bp b20 0), (123, .int .i64 t83), (129, .int .i64 t92)] [Own 55 ek_api_Cell gq_3.1 p85.l, Own 53 ek_tx_Entry gq_3.2 p84.l, Box b68 [.int .i64 p84.mark, gq_3.2, .int .i64 p84.status, .int .i64 p84.at_], Box b12 [gq_3.1, .int .u32 p85.limit], Own 55 ek_api_Cell gq_4.1 p94.L, Own 66 ek_ref07_Entry gq_4.2 p93.L, Box b77 [.int .i64 p93.Mark, gq_4.2, .int .i64 p93.Status, .int .i64 p93.At], Box b20 [gq_4.1, .int .u32 p94.Limit]]) (fun Q => by kernel_rfl) ?_
          rintro Fr _ _ _ ⟨u89_l, u87_l⟩ ⟨u98_L, u96_L⟩
          refine SO.rd fun hr143 => ?_
          refine SO.b1 ?_
          refine SO.rd fun hr144 => ?_
          refine SO.b4 ?_
          refine SO.rd fun hr145 => ?_
          refine SO.b5 ?_
          refine SO.rd fun hr146 => ?_
          refine SO.takeT rfl rfl rfl b138 ?_
          refine SO.b1 ?_
          refine SO.b7 ?_
          refine SO.b4 ?_
          refine SO.b6 ?_
          refine SO.call (pre := [Box _ _, Own _ _ _ _, Box _ _, Own _ _ _ _]) rfl Try.call15 rfl rfl rfl (law07_same.ct _ b12 u89_l b20 u98_L _ _ _ ht148) trivial ?_
          rintro _ _ ⟨rfl, rfl⟩
          refine SO.b2 ?_
          refine SO.b7 ?_
          refine SO.b5 ?_
          refine SO.b5 ?_
          refine SO.b4 ?_
          refine SO.b7 ?_
          refine SO.b7 ?_
          refine SO.b7 ?_
          exact SO.nilZ fun a w h1 h2 h3 h4 h5 => PZ.of2 (Y := fun Q => ∃ (_ _ _ : Unit) (gq_3 : (Value × Value)) (gq_4 : (Value × Value)) (_ : Unit), Q [(169, .bool (t136 != (w64 (j18_3 + 1)))), (170, bp b12 0), (171, bp b20 0), (123, .int .i64 t83), (129, .int .i64 t92), (172, .bool t147)] [Own 55 ek_api_Cell gq_3.1 p85.l, Own 53 ek_tx_Entry gq_3.2 p84.l, Box b68 [.int .i64 p84.mark, gq_3.2, .int .i64 p84.status, .int .i64 p84.at_], Box b12 [gq_3.1, .int .u32 p85.limit], Own 55 ek_api_Cell gq_4.1 p94.L, Own 66 ek_ref07_Entry gq_4.2 p93.L, Box b77 [.int .i64 p93.Mark, gq_4.2, .int .i64 p93.Status, .int .i64 p93.At], Box b20 [gq_4.1, .int .u32 p94.Limit]]) (fun Q => by kernel_rfl) h1 h3 h5 ⟨(), (), (), (u89_l, u87_l), (u98_L, u96_L), (), EnvAll.of h2 ⟨rfl, rfl, rfl, rfl, rfl, rfl, trivial⟩, h4⟩
        · rintro Fr _ _
          refine SO.takeT rfl rfl rfl b138 ?_
          refine SO.v rfl (opv_not rfl) ?_
          exact SO.nilZ fun a w h1 h2 h3 h4 h5 => PZ.of h1 h3 h5 (.cons () (.cons () (.cons () (.nil ⟨EnvAll.of h2 ⟨rfl, rfl, rfl, trivial⟩, h4⟩))))
        · rintro Fr _ _
          refine SO.v rfl (opv_pick_f' b138 rfl rfl) ?_
          exact SO.nilZ fun a w h1 h2 h3 h4 h5 => PZ.of h1 h3 h5 (.cons () (.cons () (.cons () (.nil ⟨EnvAll.of h2 ⟨rfl, rfl, rfl, trivial⟩, h4⟩))))
        rintro _ _ _ _ _ _ ⟨u98_L, u96_L⟩ ⟨u89_l, u87_l⟩ _ _ _
        refine S.to (ρ' := [(2, v2), (3, v3), (8, .bool false), (9, .bool t1), (17, .int .i64 x17_2), (10, bp b12 0), (12, bp b20 0), (13, v13_e1), (14, v14_e1), (174, .bool (!t147))]) ⟨rfl, rfl, rfl, rfl, rfl, rfl, rfl, rfl, rfl, rfl, trivial⟩ ?_
        refine S.rd fun hr149 => ?_
        refine S.b1 ?_
        refine S.rd fun hr150 => ?_
        refine S.b4 ?_
        refine S.rd fun hr151 => ?_
        refine S.b5 ?_
        refine S.rd fun hr152 => ?_
        cases h
        refine S.b10 ?_
        refine S.b8 ?_
        refine S.b7 ?_
        refine S.b10 ?_
        refine S.b9 ?_
        refine S.b10 ?_
        refine S.b10 ?_
        refine S.b9 ?_
        refine S.b8 ?_
        refine S.b10 ?_
        refine S.b10 ?_
        refine S.to ?_ (hk4 (u96_L, u87_l, u98_L, u89_l) trivial)
        exact ⟨rfl, rfl, rfl, rfl, rfl, rfl, rfl, rfl, rfl, rfl, trivial⟩
      rintro ⟨vy77_1_4, vy68_1_4, vy20_0_4, vy12_0_4⟩ -
      replace h := hJ4
      refine S.rd fun hr153 => ?_
      refine S.b1 ?_
      refine S.rd fun hr154 => ?_
      refine S.b2 ?_
      refine S.rd fun hr155 => ?_
      refine S.b3 ?_
      refine S.rd fun hr156 => ?_
      rcases bool_or j174_4 with b157 | b157
      · replace h := cond_t b157 h
        refine S.condT rfl b157 ?_
        refine S.seq ?_
        refine S.region ?_
        refine SO.v rfl (opv_assign rfl) ?_
        refine SO.nil ?_
        refine S.to (ρ' := [(8, .bool false)]) ⟨rfl, trivial⟩ ?_
        cases h
        replace h := hK2.1 _ rfl
        cases h
        refine S.b5 ?_
        refine S.b1 ?_
        refine S.b5 ?_
        refine s_close_ref07_Desc (t := (⟨y77_0_4, y77_1_4, y77_2_4, y77_3_4⟩ : ref07_Desc)) ?_
        refine S.unfocus hb78 hx75 ?_
        refine S.b5 ?_
        refine S.b2 ?_
        refine S.b5 ?_
        refine s_close_desc_Desc (t := (⟨y68_0_4, y68_1_4, y68_2_4, y68_3_4⟩ : desc_Desc)) ?_
        refine S.unfocus hb69 hx66 ?_
        refine S.drop ?_
        refine S.drop ?_
        refine S.drop ?_
        refine S.drop ?_
        refine S.drop ?_
        refine S.drop ?_
        exact S.ret1 Try.func3 rfl rfl (fun w hs hk => hR w _ _ ⟨rfl, rfl⟩ hs hk)
      replace h := cond_f b157 h
      refine S.condF rfl b157 ?_
      refine S.skip ?_
      refine S.inBlock ?_
      refine S.region ?_
      refine SO.v rfl (opv_move rfl) ?_
      refine SO.v rfl (opv_add rfl rfl) ?_
      refine SO.v rfl (opv_assign rfl) ?_
      refine SO.nil ?_
      refine S.b5 ?_
      refine S.b1 ?_
      refine S.b5 ?_
      refine s_close_ref07_Desc (t := (⟨y77_0_4, y77_1_4, y77_2_4, y77_3_4⟩ : ref07_Desc)) ?_
      refine S.unfocus hb78 hx75 ?_
      refine S.b5 ?_
      refine S.b2 ?_
      refine S.b5 ?_
      refine s_close_desc_Desc (t := (⟨y68_0_4, y68_1_4, y68_2_4, y68_3_4⟩ : desc_Desc)) ?_
      refine S.unfocus hb69 hx66 ?_
      refine S.b6 ?_
      refine S.b6 ?_
      refine S.b6 ?_
      refine S.b3 ?_
      refine S.b4 ?_
      refine S.b5 ?_
      refine S.b6 ?_
      refine S.to ?_ (ih2 ((w64 (x17_2 + 1), y20_0_4, y20_1_4, y12_0_4, y12_1_4, qv13_e1_2.set j18_3.toNat (⟨y68_0_4, y68_1_4, y68_2_4, y68_3_4⟩ : desc_Desc), qv14_e1_2.set j18_3.toNat (⟨y77_0_4, y77_1_4, y77_2_4, y77_3_4⟩ : ref07_Desc)), (vy20_0_4, vy12_0_4)) h)
      exact ⟨rfl, rfl, rfl, rfl, rfl, rfl, rfl, rfl, rfl, trivial⟩
    replace h := cond_f b60 h
    refine S.condF rfl b60 ?_
    refine S.exit rfl ?_
    cases h
    refine S.b6 ?_
    refine S.b6 ?_
    refine S.b6 ?_
    refine S.b6 ?_
    refine S.b6 ?_
    refine S.b5 ?_
    refine S.b6 ?_
    refine S.to ?_ (hK2.2 (y20_0_2, y20_1_2, y12_0_2, y12_1_2, qv14_e1_2, qv13_e1_2) (vy20_0_2, vy12_0_2) rfl)
    exact ⟨rfl, rfl, trivial⟩
  refine ⟨fun r' e' => ?_, ?_⟩
  · subst e'
    have h9 := Brk.of_ret h
    exact h9
  rintro ⟨y20_0_e2, y20_1_e2, y12_0_e2, y12_1_e2, qv14_e1_e2, qv13_e1_e2⟩ ⟨vy20_0_e2, vy12_0_e2⟩ e'
  subst e'
  replace h := Brk.of_nx h
  refine S.rd fun hr158 => ?_
  refine S.b1 ?_
  refine S.rd fun hr159 => ?_
  refine S.seq ?_
  refine S.region ?_
  refine SO.v rfl (opv_move rfl) ?_
  refine SO.v rfl (opv_assign rfl) ?_
  refine SO.nil ?_
  cases h
  refine S.drop ?_
  refine S.drop ?_
  refine S.drop ?_
  refine S.drop ?_
  refine S.drop ?_
  refine S.drop ?_
  exact S.ret1 Try.func3 rfl rfl (fun w hs hk => hR w _ _ ⟨rfl, rfl⟩ hs hk)
end Go.Proofs
