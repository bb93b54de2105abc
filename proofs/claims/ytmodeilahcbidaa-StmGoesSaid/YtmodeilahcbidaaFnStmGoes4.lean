/- What the functions that StmGoes reaches come to, and that they do. On no condition. -/
import Derived.Test.YtmodeilahcbidaaFnStmGoes0
import Derived.Test.YtmodeilahcbidaaFnStmGoes3
import Derived.Test.YtmodeilahcbidaaFnStmGoes2
set_option linter.all false
set_option linter.unusedVariables false
namespace Go.Proofs
open Go.Sl Go.RowKit
theorem inf60_law08_up : Try.prog.info? 60 = some Try.t60 := by kernel_rfl
/-! 5 padstone/padstonelaw08.up -/
def law08_up.l1 : Nat → (Int × (Mc Unit × word_Store)) → Option ((Mc Unit × word_Store))
  | 0, _ => none
  | k + 1, (x7_1, qbm_1) => bif decide (x7_1 < 40) then ((stepM (fun _ => law08_add.f) fdU k qbm_1.1 qbm_1.2 (x7_1.tmod 2)).bind fun (t25, m26, s27) => law08_up.l1  k (w64 (x7_1 + 1), (m26, s27))) else (some qbm_1)
def law08_up.f (k : Nat) : Option (Bool) :=
  (word_New.f 1 9).bind fun (t1, t2) => oE t1 (some false) (fun t1p => bif t2.isSome then (some false) else ((newNil k).bind fun _ => (newN k 2).bind fun ls22 => bif (none : Option Int).isSome then (some false) else ((law08_up.l1 k (0, (newM Unit ls22, t1p))).bind fun qbm_e1 => (word_Store_Values.f k qbm_e1.2).bind fun t29 => (bif (some 1 : Option Int) == some 1 then ((idlesM fdU k qbm_e1.1).bind fun t36 => some t36) else (some false)).bind fun c34 => (bif c34 then ((at_ t29 0).bind fun x41 => some (x41 == 2)) else (some false)).bind fun c39 => (bif c39 then ((stm_Machine_Log.f qbm_e1.1.log).bind fun t46 => some ((t46.length : Int) == 2)) else (some false)).bind fun c44 => (bif c44 then ((toldM qbm_e1.1 1).bind fun t53 => some ((t53.length : Int) == 1)) else (some false)).bind fun c51 => (bif c51 then ((busyM qbm_e1.1 0).bind fun t60 => some (!t60)) else (some false)).bind fun c58 => (bif c58 then ((stepM (fun _ => law08_add.f) fdU k qbm_e1.1 qbm_e1.2 0).bind fun (t67, m68, s69) => some (!t67, (m68, s69))) else (some (false, qbm_e1))).bind fun (c63, w65) => some c63)))
set_option maxHeartbeats 8000000 in
set_option maxRecDepth 100000 in
theorem law08_up.ct (k : Nat) (r0 : Bool) (h : law08_up.f k  = some r0) :
    Ct Try.prog 5 [] (fun _ => True) [] (fun u H' => u = .bool r0 ∧ H' = []) := by
  unfold law08_up.f at h
  refine Ct.intro (n := 86) Try.func5 rfl rfl rfl ?_
  intro R w0 F hF hR
  refine S.seq ?_
  refine S.region ?_
  refine SO.v rfl (opv_assign rfl) ?_
  refine SO.nil ?_
  refine S.seq ?_
  refine S.region ?_
  obtain ⟨⟨t1, t2⟩, ht3, h⟩ := opt_bind h
  rcases t1 with _ | t1p
  · replace h := oE_n h
    refine SO.call (pre := []) rfl Try.call7 rfl rfl rfl (word_New.ct _ _ _ _ ht3) trivial ?_
    rintro _ _ ⟨rfl, rfl⟩
    refine SO.v rfl (opv_move rfl) ?_
    refine SO.v rfl (opv_extract rfl rfl) ?_
    refine SO.v rfl (opv_extract rfl rfl) ?_
    refine SO.v rfl (opv_assign rfl) ?_
    refine SO.v rfl (opv_assign rfl) ?_
    refine SO.nil ?_
    refine S.seq ?_
    refine S.seq ?_
    refine S.region ?_
    refine SO.v rfl (opv_move rfl) ?_
    refine SO.v rfl (opv_eqlPN Try.underlying27 rfl) ?_
    refine SO.v rfl (opv_move rfl) ?_
    refine SO.passF rfl rfl rfl rfl rfl rfl ?_
    refine SO.passF rfl rfl rfl rfl rfl rfl ?_
    refine SO.v rfl (opv_pick_tt rfl rfl) ?_
    refine SO.nil ?_
    refine S.to (ρ' := [(0, .bool false), (1, .pointer none), (18, .bool true)]) ⟨rfl, rfl, rfl, trivial⟩ ?_
    refine S.cond_true rfl ?_
    refine S.seq ?_
    refine S.region ?_
    refine SO.v rfl (opv_assign rfl) ?_
    refine SO.nil ?_
    cases h
    exact S.ret1 Try.func5 rfl rfl (fun w hs hk => hR w _ _ ⟨rfl, rfl⟩ hs hk)
  replace h := oE_s h
  refine SO.call (pre := []) rfl Try.call7 rfl rfl rfl (word_New.ct _ _ _ _ ht3) trivial ?_
  rintro _ _ ⟨b4, u5_l, rfl, rfl⟩
  refine SO.b1 ?_
  refine SO.rd fun hr6 => ?_
  refine SO.v rfl (opv_move rfl) ?_
  refine SO.v rfl (opv_extract rfl rfl) ?_
  refine SO.v rfl (opv_extract rfl rfl) ?_
  refine SO.v rfl (opv_assign rfl) ?_
  refine SO.v rfl (opv_assign rfl) ?_
  refine SO.nil ?_
  refine S.seq ?_
  refine S.seq ?_
  refine S.region ?_
  refine SO.v rfl (opv_move rfl) ?_
  refine SO.v rfl (opv_eqlP Try.underlying27 rfl) ?_
  refine SO.v rfl (opv_move rfl) ?_
  refine SO.takeT rfl rfl rfl rfl ?_
  refine SO.v rfl (opv_move rfl) ?_
  refine SO.takeT rfl rfl rfl rfl ?_
  refine SO.v rfl (opv_neqN (e := t2) Try.underlying29 rfl) ?_
  refine SO.v rfl (opv_pick_ff rfl rfl) ?_
  refine SO.nil ?_
  refine S.to (ρ' := [(0, .bool false), (1, bp b4 0), (18, .bool t2.isSome)]) ⟨rfl, rfl, rfl, trivial⟩ ?_
  rcases bool_or t2.isSome with b7 | b7
  · replace h := cond_t b7 h
    refine S.condT rfl b7 ?_
    refine S.seq ?_
    refine S.region ?_
    refine SO.v rfl (opv_assign rfl) ?_
    refine SO.nil ?_
    cases h
    refine S.drop ?_
    refine S.drop ?_
    exact S.ret1 Try.func5 rfl rfl (fun w hs hk => hR w _ _ ⟨rfl, rfl⟩ hs hk)
  replace h := cond_f b7 h
  refine S.condF rfl b7 ?_
  refine S.skip ?_
  refine S.seq ?_
  refine S.region ?_
  refine SO.v rfl (opv_move rfl) ?_
  refine SO.buildSlice (K := (ekV nilU nilU_one)) (xs := [()]) (cs := [nilU ()]) rfl Try.underlying35 Try.sizeOf56 Try.zeroValue56 rfl rfl rfl (by kernel_rfl) rfl rfl rfl (fun v8 hr9 => ?_)
  obtain ⟨_, ht10, h⟩ := opt_bind h
  refine SO.call (pre := []) rfl Try.call8 rfl rfl rfl (stm_New.ct k nilU nilU_one (fun _ => true) nilU_nil b4 v8 [()] none (newNil_some ht10)) (Rd.head hr9) ?_
  rintro _ _ ⟨rfl, rfl⟩
  refine SO.v rfl (opv_move rfl) ?_
  refine SO.v rfl (opv_extract rfl rfl) ?_
  refine SO.v rfl (opv_extract rfl rfl) ?_
  refine SO.v rfl (opv_assign rfl) ?_
  refine SO.v rfl (opv_assign rfl) ?_
  refine SO.nil ?_
  refine S.to (ρ' := [(0, .bool false), (1, bp b4 0), (4, errV 60 (some 1 : Option Int))]) ⟨rfl, rfl, rfl, trivial⟩ ?_
  refine S.seq ?_
  refine S.region ?_
  refine SO.v rfl (opv_move rfl) ?_
  refine SO.buildSlice (K := (ekV jvU jvU_one)) (xs := [()]) (cs := [jvU ()]) rfl Try.underlying59 Try.sizeOf69 Try.zeroValue69 rfl rfl rfl (by kernel_rfl) rfl rfl rfl (fun v11 hr12 => ?_)
  refine SO.call (pre := []) rfl Try.call19 rfl rfl rfl (stm_List.ct jvU jvU_one v11 [()] [()] rfl) (Rd.head hr12) ?_
  rintro _ _ ⟨b13, v14, rfl, rfl⟩
  refine SO.buildSlice (K := (ekV jvU jvU_one)) (xs := [()]) (cs := [jvU ()]) rfl Try.underlying59 Try.sizeOf69 Try.zeroValue69 rfl rfl rfl (by kernel_rfl) rfl rfl rfl (fun v15 hr16 => ?_)
  refine SO.call (pre := []) rfl Try.call19 rfl rfl rfl (stm_List.ct jvU jvU_one v15 [()] [()] rfl) (Rd.head hr16) ?_
  rintro _ _ ⟨b17, v18, rfl, rfl⟩
  refine SO.buildSlice (K := (ekV fv39 fv39_one)) (xs := [b13, b17]) (cs := [fv39 b13, fv39 b17]) rfl Try.underlying35 Try.sizeOf56 Try.zeroValue56 rfl rfl rfl (by kernel_rfl) rfl rfl rfl (fun v19 hr20 => ?_)
  obtain ⟨ls22, ht21, h⟩ := opt_bind h
  obtain ⟨g, hg_⟩ : ∃ g : KU, g = ⟨[(b13, v14), (b17, v18)]⟩ := ⟨_, rfl⟩
  refine SO.b2 ?_
  refine SO.b2 ?_
  refine SO.b5 ?_
  refine SO.b5 ?_
  refine SO.packU hg_ ?_
  refine SO.b5 ?_
  refine SO.b6 ?_
  refine SO.call (pre := [Box _ _, Own _ _ _ _]) rfl Try.call8 rfl rfl rfl (newU2.ct k b4 u5_l v19 t1p ls22 b13 b17 v14 v18 g hg_ ht21) (Rd.tail (Rd.head hr20)) ?_
  rintro _ _ ⟨bm, rfl, rfl⟩
  refine SO.v rfl (opv_move rfl) ?_
  refine SO.v rfl (opv_extract rfl rfl) ?_
  refine SO.v rfl (opv_extract rfl rfl) ?_
  refine SO.v rfl (opv_assign rfl) ?_
  refine SO.v rfl (opv_assign rfl) ?_
  refine SO.nil ?_
  refine S.to (ρ' := [(0, .bool false), (1, bp b4 0), (4, errV 60 (some 1 : Option Int)), (5, bp bm 0), (6, errV 60 (none : Option Int))]) ⟨rfl, rfl, rfl, rfl, rfl, trivial⟩ ?_
  refine S.seq ?_
  refine S.seq ?_
  refine S.region ?_
  refine SO.v rfl (opv_move rfl) ?_
  refine SO.v rfl (opv_eqlP Try.underlying32 rfl) ?_
  refine SO.v rfl (opv_move rfl) ?_
  refine SO.takeT rfl rfl rfl rfl ?_
  refine SO.v rfl (opv_move rfl) ?_
  refine SO.takeT rfl rfl rfl rfl ?_
  refine SO.v rfl (opv_neqN (e := (none : Option Int)) Try.underlying29 rfl) ?_
  refine SO.v rfl (opv_pick_ff rfl rfl) ?_
  refine SO.nil ?_
  rcases bool_or ((none : Option Int).isSome) with b23 | b23
  · replace h := cond_t b23 h
    refine S.condT rfl b23 ?_
    refine S.seq ?_
    refine S.region ?_
    refine SO.v rfl (opv_assign rfl) ?_
    refine SO.nil ?_
    refine S.to (ρ' := [(0, .bool false)]) ⟨rfl, trivial⟩ ?_
    cases h
    refine S.drop ?_
    refine S.drop ?_
    refine S.drop ?_
    refine S.drop ?_
    refine S.drop ?_
    refine S.drop ?_
    exact S.ret1 Try.func5 rfl rfl (fun w hs hk => hR w _ _ ⟨rfl, rfl⟩ hs hk)
  replace h := cond_f b23 h
  refine S.condF rfl b23 ?_
  refine S.skip ?_
  refine S.seq ?_
  refine S.seq ?_
  refine S.region ?_
  refine SO.v rfl (opv_assign rfl) ?_
  refine SO.nil ?_
  refine S.to (ρ' := [(0, .bool false), (1, bp b4 0), (4, errV 60 (some 1 : Option Int)), (5, bp bm 0), (7, .int .i64 0)]) ⟨rfl, rfl, rfl, rfl, rfl, trivial⟩ ?_
  obtain ⟨qbm_e1, hlp1, h⟩ := opt_bind h
  refine S.b6 ?_
  refine S.b6 ?_
  refine S.b6 ?_
  refine S.b6 ?_
  refine S.b6 ?_
  refine S.b6 ?_
  refine S.b6 ?_
  refine S.to (ρ' := [(0, .bool false), (1, bp b4 0), (4, errV 60 (some 1 : Option Int)), (5, bp bm 0), (7, .int .i64 0)]) ⟨rfl, rfl, rfl, rfl, rfl, trivial⟩ ?_
  refine S.forloop (X := (Int × (Mc Unit × word_Store)) × Unit) (O := (Mc Unit × word_Store)) (fun m x => law08_up.l1  m x.1) (fun x => match x with | ((x7_1, qbm_1), _) => [(0, .bool false), (1, bp b4 0), (4, errV 60 (some 1 : Option Int)), (5, bp bm 0), (7, .int .i64 x7_1)]) (fun x => match x with | ((x7_1, qbm_1), _) => [MU g bm b4 qbm_1, RU g.G, Own 56 (ekV fv39 fv39_one) v19 [b13, b17], Own 69 (ekV jvU jvU_one) v15 [()], Own 69 (ekV jvU jvU_one) v11 [()], Own 56 (ekV nilU nilU_one) v8 [()], F]) (fun Sk => (fun qbm_e1 => ∀ _ : Unit, Sk [(0, .bool false), (1, bp b4 0), (4, errV 60 (some 1 : Option Int)), (5, bp bm 0)] [MU g bm b4 qbm_e1, RU g.G, Own 56 (ekV fv39 fv39_one) v19 [b13, b17], Own 69 (ekV jvU jvU_one) v15 [()], Own 69 (ekV jvU jvU_one) v11 [()], Own 56 (ekV nilU nilU_one) v8 [()], F])) (fun _ => rfl) ?_ (m := k) (x := ((0, (newM Unit ls22, t1p)), ())) hlp1 ?_
  · clear h hlp1
    intro k x o_1 h hK1 ih1
    obtain ⟨⟨x7_1, qbm_1⟩, _⟩ := x
    replace h : law08_up.l1  (k + 1) (x7_1, qbm_1) = some o_1 := h
    first | rw [law08_up.l1] at h | unfold law08_up.l1 at h
    refine S.seq ?_
    refine S.seq ?_
    refine S.region ?_
    refine SO.v rfl (opv_move rfl) ?_
    refine SO.v rfl (opv_lss rfl rfl) ?_
    refine SO.nil ?_
    rcases bool_or (decide (x7_1 < 40)) with b24 | b24
    · replace h := cond_t b24 h
      refine S.condT rfl b24 ?_
      refine S.skip ?_
      refine S.seq ?_
      refine S.block ?_
      refine S.region ?_
      refine SO.v rfl (opv_move rfl) ?_
      refine SO.v rfl (opv_move rfl) ?_
      refine SO.v rfl (opv_rem rfl rfl (by decide)) ?_
      obtain ⟨⟨t25, m26, s27⟩, ht28, h⟩ := opt_bind h
      refine SO.b1 ?_
      refine SO.b1 ?_
      refine SO.call (pre := [MU _ _ _ _, RU g.G]) rfl Try.call10 rfl rfl rfl (stepU.ct g k bm b4 qbm_1 t25 m26 s27 (x7_1.tmod 2) ht28) trivial ?_
      rintro _ _ ⟨rfl, rfl⟩
      refine SO.nil ?_
      refine S.inBlock ?_
      refine S.region ?_
      refine SO.v rfl (opv_move rfl) ?_
      refine SO.v rfl (opv_add rfl rfl) ?_
      refine SO.v rfl (opv_assign rfl) ?_
      refine SO.nil ?_
      refine S.to (ρ' := [(0, .bool false), (1, bp b4 0), (4, errV 60 (some 1 : Option Int)), (5, bp bm 0), (7, .int .i64 (w64 (x7_1 + 1)))]) ⟨rfl, rfl, rfl, rfl, rfl, trivial⟩ ?_
      refine S.b6 ?_
      refine S.b6 ?_
      refine S.b6 ?_
      refine S.b6 ?_
      refine S.b6 ?_
      refine S.b6 ?_
      refine S.b6 ?_
      refine S.to ?_ (ih1 ((w64 (x7_1 + 1), (m26, s27)), ()) h)
      exact ⟨rfl, rfl, rfl, rfl, rfl, trivial⟩
    replace h := cond_f b24 h
    refine S.condF rfl b24 ?_
    refine S.exit rfl ?_
    cases h
    refine S.b6 ?_
    refine S.b6 ?_
    refine S.b6 ?_
    refine S.b6 ?_
    refine S.b6 ?_
    refine S.b6 ?_
    refine S.b6 ?_
    refine S.to ?_ (hK1 ())
    exact ⟨rfl, rfl, rfl, rfl, trivial⟩
  rintro _
  refine S.seq ?_
  refine S.region ?_
  refine SO.v rfl (opv_move rfl) ?_
  obtain ⟨t29, ht30, h⟩ := opt_bind h
  refine SO.call (pre := [MU _ _ _ _]) rfl Try.call15 rfl rfl rfl (valuesU.ct g k bm b4 qbm_e1 t29 ht30) trivial ?_
  rintro v31 _ ⟨_, rfl, rfl⟩
  refine SO.rd fun hr32 => ?_
  refine SO.v rfl (opv_assign rfl) ?_
  refine SO.nil ?_
  refine S.seq ?_
  refine S.region ?_
  refine SO.v rfl (opv_move rfl) ?_
  refine SO.v rfl (opv_iface Try.underlying60 rfl rfl) ?_
  refine SO.v rfl (opv_eqlE (e := (some 1 : Option Int)) (c := 1) Try.underlying29 Try.underlying60 inf60_law08_up rfl rfl rfl) ?_
  refine SO.v rfl (opv_move rfl) ?_
  obtain ⟨c34, hc35, hgk⟩ := opt_bind h
  refine SO.cut 3 57 (.bool c34) [Own 46 (ekI .u64) v31 t29, MU g bm b4 qbm_e1, RU g.G, Own 56 (ekV fv39 fv39_one) v19 [b13, b17], Own 69 (ekV jvU jvU_one) v15 [()], Own 69 (ekV jvU jvU_one) v11 [()], Own 56 (ekV nilU nilU_one) v8 [()], F] (fun l2 hk2 => ?_) ?_
  · clear hgk
    replace h := hc35
    rcases bool_or ((some 1 : Option Int) == some 1) with b33 | b33
    · replace h := cond_t b33 h
      refine SO.takeT rfl rfl rfl b33 ?_
      refine SO.v rfl (opv_move rfl) ?_
      refine SO.takeT rfl rfl rfl b33 ?_
      obtain ⟨t36, ht37, h⟩ := opt_bind h
      refine SO.b2 ?_
      refine SO.b2 ?_
      refine SO.call (pre := [MU _ _ _ _, RU g.G]) rfl Try.call18 rfl rfl rfl (idleU.ct g k bm b4 qbm_e1 t36 ht37) trivial ?_
      rintro _ _ ⟨rfl, rfl⟩
      cases h
      refine SO.v rfl (opv_pick_t' b33 rfl rfl) ?_
      refine SO.b7 ?_
      refine SO.b7 ?_
      refine SO.b7 ?_
      refine SO.b7 ?_
      refine SO.b7 ?_
      refine SO.b6 ?_
      refine SO.b6 ?_
      refine SO.b7 ?_
      exact hk2.fitc (m := 3) rfl (rfl) rfl
    replace h := cond_f b33 h
    refine SO.passF rfl rfl rfl b33 rfl rfl ?_
    refine SO.passF rfl rfl rfl b33 rfl rfl ?_
    cases h
    refine SO.v rfl (opv_pick_f' b33 rfl rfl) ?_
    refine SO.b7 ?_
    refine SO.b7 ?_
    refine SO.b7 ?_
    refine SO.b7 ?_
    refine SO.b7 ?_
    refine SO.b7 ?_
    refine SO.b7 ?_
    refine SO.b7 ?_
    exact hk2.fitc (m := 3) rfl (rfl) rfl
  clear hc35
  replace h := hgk
  refine SO.v rfl (opv_move rfl) ?_
  obtain ⟨c39, hc40, hgk⟩ := opt_bind h
  refine SO.cut 5 63 (.bool c39) [Own 46 (ekI .u64) v31 t29, MU g bm b4 qbm_e1, RU g.G, Own 56 (ekV fv39 fv39_one) v19 [b13, b17], Own 69 (ekV jvU jvU_one) v15 [()], Own 69 (ekV jvU jvU_one) v11 [()], Own 56 (ekV nilU nilU_one) v8 [()], F] (fun l2 hk2 => ?_) ?_
  · clear hgk
    replace h := hc40
    rcases bool_or c34 with b38 | b38
    · replace h := cond_t b38 h
      refine SO.takeT rfl rfl rfl b38 ?_
      refine SO.v rfl (opv_move rfl) ?_
      refine SO.takeT rfl rfl rfl b38 ?_
      obtain ⟨x41, hx42, h⟩ := opt_bind h
      refine SO.v rfl (opv_idx Try.underlying39 Try.sizeOf46 hr32 rfl rfl hx42) ?_
      refine SO.takeT rfl rfl rfl b38 ?_
      refine SO.loadI1 (j := 0) rfl Try.isAgg46 (Rd.head hr32) hx42 rfl rfl rfl rfl ?_
      refine SO.takeT rfl rfl rfl b38 ?_
      refine SO.v rfl (opv_eql rfl rfl) ?_
      cases h
      refine SO.v rfl (opv_pick_t' b38 rfl rfl) ?_
      refine SO.b7 ?_
      refine SO.b7 ?_
      refine SO.b7 ?_
      refine SO.b7 ?_
      refine SO.b7 ?_
      refine SO.b7 ?_
      refine SO.b7 ?_
      refine SO.b7 ?_
      exact hk2.fitc (m := 5) rfl (rfl) rfl
    replace h := cond_f b38 h
    refine SO.passF rfl rfl rfl b38 rfl rfl ?_
    refine SO.passF rfl rfl rfl b38 rfl rfl ?_
    refine SO.passF rfl rfl rfl b38 rfl rfl ?_
    refine SO.passF rfl rfl rfl b38 rfl rfl ?_
    cases h
    refine SO.v rfl (opv_pick_f' b38 rfl rfl) ?_
    refine SO.b7 ?_
    refine SO.b7 ?_
    refine SO.b7 ?_
    refine SO.b7 ?_
    refine SO.b7 ?_
    refine SO.b7 ?_
    refine SO.b7 ?_
    refine SO.b7 ?_
    exact hk2.fitc (m := 5) rfl (rfl) rfl
  clear hc40
  replace h := hgk
  refine SO.v rfl (opv_move rfl) ?_
  obtain ⟨c44, hc45, hgk⟩ := opt_bind h
  refine SO.cut 5 69 (.bool c44) [Own 46 (ekI .u64) v31 t29, MU g bm b4 qbm_e1, RU g.G, Own 56 (ekV fv39 fv39_one) v19 [b13, b17], Own 69 (ekV jvU jvU_one) v15 [()], Own 69 (ekV jvU jvU_one) v11 [()], Own 56 (ekV nilU nilU_one) v8 [()], F] (fun l2 hk2 => ?_) ?_
  · clear hgk
    replace h := hc45
    rcases bool_or c39 with b43 | b43
    · replace h := cond_t b43 h
      refine SO.takeT rfl rfl rfl b43 ?_
      refine SO.v rfl (opv_move rfl) ?_
      refine SO.takeT rfl rfl rfl b43 ?_
      obtain ⟨t46, ht47, h⟩ := opt_bind h
      refine SO.b1 ?_
      refine SO.call (pre := [MU _ _ _ _]) rfl Try.call12 rfl rfl rfl (logU.ct g bm b4 qbm_e1 t46 ht47) trivial ?_
      rintro v48 _ ⟨_, rfl, rfl⟩
      refine SO.rd fun hr49 => ?_
      refine SO.takeT rfl rfl rfl b43 ?_
      refine SO.v rfl (opv_lenR rfl Try.underlying41 hr49 rfl) ?_
      refine SO.takeT rfl rfl rfl b43 ?_
      refine SO.v rfl (opv_eql rfl rfl) ?_
      cases h
      refine SO.v rfl (opv_pick_t' b43 rfl rfl) ?_
      refine SO.drop ?_
      refine SO.b7 ?_
      refine SO.b7 ?_
      refine SO.b7 ?_
      refine SO.b7 ?_
      refine SO.b7 ?_
      refine SO.b7 ?_
      refine SO.b6 ?_
      refine SO.b7 ?_
      exact hk2.fitc (m := 5) rfl (rfl) rfl
    replace h := cond_f b43 h
    refine SO.passF rfl rfl rfl b43 rfl rfl ?_
    refine SO.passF rfl rfl rfl b43 rfl rfl ?_
    refine SO.passF rfl rfl rfl b43 rfl rfl ?_
    refine SO.passF rfl rfl rfl b43 rfl rfl ?_
    cases h
    refine SO.v rfl (opv_pick_f' b43 rfl rfl) ?_
    refine SO.b7 ?_
    refine SO.b7 ?_
    refine SO.b7 ?_
    refine SO.b7 ?_
    refine SO.b7 ?_
    refine SO.b7 ?_
    refine SO.b7 ?_
    refine SO.b7 ?_
    exact hk2.fitc (m := 5) rfl (rfl) rfl
  clear hc45
  replace h := hgk
  refine SO.v rfl (opv_move rfl) ?_
  obtain ⟨c51, hc52, hgk⟩ := opt_bind h
  refine SO.cut 5 75 (.bool c51) [Own 46 (ekI .u64) v31 t29, MU g bm b4 qbm_e1, RU g.G, Own 56 (ekV fv39 fv39_one) v19 [b13, b17], Own 69 (ekV jvU jvU_one) v15 [()], Own 69 (ekV jvU jvU_one) v11 [()], Own 56 (ekV nilU nilU_one) v8 [()], F] (fun l2 hk2 => ?_) ?_
  · clear hgk
    replace h := hc52
    rcases bool_or c44 with b50 | b50
    · replace h := cond_t b50 h
      refine SO.takeT rfl rfl rfl b50 ?_
      refine SO.v rfl (opv_move rfl) ?_
      refine SO.takeT rfl rfl rfl b50 ?_
      obtain ⟨t53, ht54, h⟩ := opt_bind h
      refine SO.b1 ?_
      refine SO.call (pre := [MU _ _ _ _]) rfl Try.call14 rfl rfl rfl (toldU.ct g bm b4 qbm_e1 t53 1 ht54) trivial ?_
      rintro v55 _ ⟨_, rfl, rfl⟩
      refine SO.rd fun hr56 => ?_
      refine SO.takeT rfl rfl rfl b50 ?_
      refine SO.v rfl (opv_lenR rfl Try.underlying24 hr56 rfl) ?_
      refine SO.takeT rfl rfl rfl b50 ?_
      refine SO.v rfl (opv_eql rfl rfl) ?_
      cases h
      refine SO.v rfl (opv_pick_t' b50 rfl rfl) ?_
      refine SO.drop ?_
      refine SO.b7 ?_
      refine SO.b7 ?_
      refine SO.b7 ?_
      refine SO.b7 ?_
      refine SO.b7 ?_
      refine SO.b7 ?_
      refine SO.b6 ?_
      refine SO.b7 ?_
      exact hk2.fitc (m := 5) rfl (rfl) rfl
    replace h := cond_f b50 h
    refine SO.passF rfl rfl rfl b50 rfl rfl ?_
    refine SO.passF rfl rfl rfl b50 rfl rfl ?_
    refine SO.passF rfl rfl rfl b50 rfl rfl ?_
    refine SO.passF rfl rfl rfl b50 rfl rfl ?_
    cases h
    refine SO.v rfl (opv_pick_f' b50 rfl rfl) ?_
    refine SO.b7 ?_
    refine SO.b7 ?_
    refine SO.b7 ?_
    refine SO.b7 ?_
    refine SO.b7 ?_
    refine SO.b7 ?_
    refine SO.b7 ?_
    refine SO.b7 ?_
    exact hk2.fitc (m := 5) rfl (rfl) rfl
  clear hc52
  replace h := hgk
  refine SO.v rfl (opv_move rfl) ?_
  obtain ⟨c58, hc59, hgk⟩ := opt_bind h
  refine SO.cut 4 80 (.bool c58) [Own 46 (ekI .u64) v31 t29, MU g bm b4 qbm_e1, RU g.G, Own 56 (ekV fv39 fv39_one) v19 [b13, b17], Own 69 (ekV jvU jvU_one) v15 [()], Own 69 (ekV jvU jvU_one) v11 [()], Own 56 (ekV nilU nilU_one) v8 [()], F] (fun l2 hk2 => ?_) ?_
  · clear hgk
    replace h := hc59
    rcases bool_or c51 with b57 | b57
    · replace h := cond_t b57 h
      refine SO.takeT rfl rfl rfl b57 ?_
      refine SO.v rfl (opv_move rfl) ?_
      refine SO.takeT rfl rfl rfl b57 ?_
      obtain ⟨t60, ht61, h⟩ := opt_bind h
      refine SO.b1 ?_
      refine SO.call (pre := [MU _ _ _ _]) rfl Try.call21 rfl rfl rfl (busyU.ct g bm b4 qbm_e1 t60 0 ht61) trivial ?_
      rintro _ _ ⟨rfl, rfl⟩
      refine SO.takeT rfl rfl rfl b57 ?_
      refine SO.v rfl (opv_not rfl) ?_
      cases h
      refine SO.v rfl (opv_pick_t' b57 rfl rfl) ?_
      refine SO.b7 ?_
      refine SO.b7 ?_
      refine SO.b7 ?_
      refine SO.b7 ?_
      refine SO.b7 ?_
      refine SO.b7 ?_
      refine SO.b6 ?_
      refine SO.b7 ?_
      exact hk2.fitc (m := 4) rfl (rfl) rfl
    replace h := cond_f b57 h
    refine SO.passF rfl rfl rfl b57 rfl rfl ?_
    refine SO.passF rfl rfl rfl b57 rfl rfl ?_
    refine SO.passF rfl rfl rfl b57 rfl rfl ?_
    cases h
    refine SO.v rfl (opv_pick_f' b57 rfl rfl) ?_
    refine SO.b7 ?_
    refine SO.b7 ?_
    refine SO.b7 ?_
    refine SO.b7 ?_
    refine SO.b7 ?_
    refine SO.b7 ?_
    refine SO.b7 ?_
    refine SO.b7 ?_
    exact hk2.fitc (m := 4) rfl (rfl) rfl
  clear hc59
  replace h := hgk
  refine SO.v rfl (opv_move rfl) ?_
  obtain ⟨⟨c63, w65⟩, hc64, hgk⟩ := opt_bind h
  refine SO.cut 4 85 (.bool c63) [Own 46 (ekI .u64) v31 t29, MU g bm b4 w65, RU g.G, Own 56 (ekV fv39 fv39_one) v19 [b13, b17], Own 69 (ekV jvU jvU_one) v15 [()], Own 69 (ekV jvU jvU_one) v11 [()], Own 56 (ekV nilU nilU_one) v8 [()], F] (fun l2 hk2 => ?_) ?_
  · clear hgk
    replace h := hc64
    rcases bool_or c58 with b62 | b62
    · replace h := cond_t b62 h
      refine SO.takeT rfl rfl rfl b62 ?_
      refine SO.v rfl (opv_move rfl) ?_
      refine SO.takeT rfl rfl rfl b62 ?_
      obtain ⟨⟨t67, m68, s69⟩, ht70, h⟩ := opt_bind h
      refine SO.b2 ?_
      refine SO.b2 ?_
      refine SO.call (pre := [MU _ _ _ _, RU g.G]) rfl Try.call10 rfl rfl rfl (stepU.ct g k bm b4 qbm_e1 t67 m68 s69 0 ht70) trivial ?_
      rintro _ _ ⟨rfl, rfl⟩
      refine SO.takeT rfl rfl rfl b62 ?_
      refine SO.v rfl (opv_not rfl) ?_
      cases h
      refine SO.v rfl (opv_pick_t' b62 rfl rfl) ?_
      refine SO.b7 ?_
      refine SO.b7 ?_
      refine SO.b7 ?_
      refine SO.b7 ?_
      refine SO.b7 ?_
      refine SO.b6 ?_
      refine SO.b6 ?_
      refine SO.b7 ?_
      exact hk2.fitc (m := 4) rfl (rfl) rfl
    replace h := cond_f b62 h
    refine SO.passF rfl rfl rfl b62 rfl rfl ?_
    refine SO.passF rfl rfl rfl b62 rfl rfl ?_
    refine SO.passF rfl rfl rfl b62 rfl rfl ?_
    cases h
    refine SO.v rfl (opv_pick_f' b62 rfl rfl) ?_
    refine SO.b7 ?_
    refine SO.b7 ?_
    refine SO.b7 ?_
    refine SO.b7 ?_
    refine SO.b7 ?_
    refine SO.b7 ?_
    refine SO.b7 ?_
    refine SO.b7 ?_
    exact hk2.fitc (m := 4) rfl (rfl) rfl
  clear hc64
  replace h := hgk
  refine SO.v rfl (opv_assign rfl) ?_
  refine SO.nil ?_
  refine S.to (ρ' := [(0, .bool c63)]) ⟨rfl, trivial⟩ ?_
  cases h
  refine S.drop ?_
  refine S.drop ?_
  refine S.drop ?_
  refine S.drop ?_
  refine S.drop ?_
  refine S.drop ?_
  refine S.drop ?_
  exact S.ret1 Try.func5 rfl rfl (fun w hs hk => hR w _ _ ⟨rfl, rfl⟩ hs hk)
end Go.Proofs
set_option linter.unusedVariables false
namespace Go.Proofs
open Go.Sl Go.RowKit

/-! 4 padstone/padstonelaw08.StmGoes -/
def law08_StmGoes.l2 (a1 : List (List (List law06_Op))) (m33 : Mc (List law06_Op)) (s34 : word_Store) : Nat → (Int × Int) → Option (Int)
  | 0, _ => none
  | k + 1, (x17_2, x16_2) => bif decide (x17_2 < (a1.length : Int)) then ((toldM (m33, s34).1 x17_2).bind fun t42 => law08_StmGoes.l2 a1 m33 s34 k (w64 (x17_2 + 1), w64 (x16_2 + (t42.length : Int)))) else (some x16_2)
def law08_StmGoes.l1 (a0 : Int) (a1 : List (List (List law06_Op))) (a2 : List Int) (jm : List law06_Op → VM Int) : Nat → (Int × Int × Int × (Mc (List law06_Op) × word_Store)) → Option (Brk Bool (Mc (List law06_Op) × word_Store))
  | 0, _ => none
  | k + 1, (x15_1, x14_1, x13_1, qbm_1) => bif decide (x15_1 < (a2.length : Int)) then ((at_ a2 x15_1).bind fun x30 => (stepM jm (fd8 a1) k qbm_1.1 qbm_1.2 x30).bind fun (t32, m33, s34) => bif !t32 then (law08_StmGoes.l1 a0 a1 a2 jm k (w64 (x15_1 + 1), x14_1, x13_1, (m33, s34))) else ((stm_Machine_Log.f (m33, s34).1.log).bind fun t37 => (law08_StmGoes.l2 a1 m33 s34 k (0, (t37.length : Int))).bind fun j16_e2 => bif decide (x14_1 < j16_e2) then (bif decide ((w64 ((w64 ((a1.length : Int) * (w64 ((a1.length : Int) + 2)))) * (w64 ((w64 (3 * a0)) + 10)))) ≤ 0) then (some (Brk.ret false)) else (law08_StmGoes.l1 a0 a1 a2 jm k (w64 (x15_1 + 1), j16_e2, 0, (m33, s34)))) else (bif decide ((w64 ((w64 ((a1.length : Int) * (w64 ((a1.length : Int) + 2)))) * (w64 ((w64 (3 * a0)) + 10)))) ≤ (w64 (x13_1 + 1))) then (some (Brk.ret false)) else (law08_StmGoes.l1 a0 a1 a2 jm k (w64 (x15_1 + 1), x14_1, w64 (x13_1 + 1), (m33, s34)))))) else (some (Brk.nx qbm_1))
def law08_StmGoes.f (k : Nat) (a0 : Int) (a1 : List (List (List law06_Op))) (a2 : List Int) : Option (Bool) :=
  (law08_up.f k ).bind fun t1 => (bif (decide (a0 < 1)) || (decide (6 < a0)) then (some true) else ((law08_small.f k a1).bind fun t7 => some (!t7))).bind fun c5 => bif ((c5 || (decide (3000 < (a2.length : Int)))) || ((a1.length : Int) == 0)) || (decide (3 < (a1.length : Int))) then (some t1) else ((word_New.f a0 100000).bind fun (t13, t14) => oE t13 (some false) (fun t13p => bif t14.isSome then (some false) else ((chk (jobsOk k a1)).bind fun _ => (some (law08_jobs_1.f k)).bind fun jm => (newN k a1.length).bind fun ls26 => bif (none : Option Int).isSome then (some false) else ((law08_StmGoes.l1 a0 a1 a2 jm k (0, 0, 0, (newM (List law06_Op) ls26, t13p))).bind fun o1 => Brk.go o1 (fun r => some r) (fun qbm_e1 => some t1)))))
set_option maxHeartbeats 8000000 in
set_option maxRecDepth 100000 in
theorem law08_StmGoes.ct (k : Nat) (v1 : Value) (v2 : Value) (a0 : Int) (a1 : List (List (List law06_Op))) (a2 : List Int) (r0 : Bool) (h : law08_StmGoes.f k a0 a1 a2 = some r0) :
    Ct Try.prog 4 [.int .i64 a0, v1, v2] (fun F => Rd3 ek_law06_Op v1 a1 F ∧ Rd (ekI .i64) v2 a2 F) [] (fun u H' => u = .bool r0 ∧ H' = []) := by
  unfold law08_StmGoes.f at h
  refine Ct.intro (n := 118) Try.func4 rfl rfl rfl ?_
  intro R w0 F hF hR
  obtain ⟨hF1, hF2⟩ := hF
  obtain ⟨vs1, hF1, hl1, hR1⟩ := hF1
  refine S.seq ?_
  refine S.region ?_
  refine SO.v rfl (opv_assign rfl) ?_
  refine SO.nil ?_
  refine S.seq ?_
  refine S.region ?_
  obtain ⟨t1, ht2, h⟩ := opt_bind h
  refine SO.call (pre := []) rfl Try.call5 rfl rfl rfl (law08_up.ct _ _ ht2) trivial ?_
  rintro _ _ ⟨rfl, rfl⟩
  refine SO.v rfl (opv_assign rfl) ?_
  refine SO.nil ?_
  refine S.seq ?_
  refine S.seq ?_
  refine S.region ?_
  refine SO.v rfl (opv_move rfl) ?_
  refine SO.v rfl (opv_lss rfl rfl) ?_
  refine SO.v rfl (opv_move rfl) ?_
  refine SO.cut 3 24 (.bool ((decide (a0 < 1)) || (decide (6 < a0)))) [F] (fun l2 hk2 => ?_) ?_
  · rcases bool_or (decide (a0 < 1)) with b3 | b3
    · refine SO.passF rfl rfl rfl b3 rfl rfl ?_
      refine SO.passF rfl rfl rfl b3 rfl rfl ?_
      refine SO.v rfl (opv_pick_t' b3 rfl rfl) ?_
      exact hk2.fitc (m := 3) rfl (or_t b3) rfl
    refine SO.takeT rfl rfl rfl b3 ?_
    refine SO.v rfl (opv_move rfl) ?_
    refine SO.takeT rfl rfl rfl b3 ?_
    refine SO.v rfl (opv_gtr rfl rfl) ?_
    refine SO.v rfl (opv_pick_f' b3 rfl rfl) ?_
    exact hk2.fitc (m := 3) rfl (or_f b3) rfl
  refine SO.v rfl (opv_move rfl) ?_
  obtain ⟨c5, hc6, hgk⟩ := opt_bind h
  refine SO.cut 4 29 (.bool c5) [F] (fun l2 hk2 => ?_) ?_
  · clear hgk
    replace h := hc6
    rcases bool_or ((decide (a0 < 1)) || (decide (6 < a0))) with b4 | b4
    · replace h := cond_t b4 h
      refine SO.passF rfl rfl rfl b4 rfl rfl ?_
      refine SO.passF rfl rfl rfl b4 rfl rfl ?_
      refine SO.passF rfl rfl rfl b4 rfl rfl ?_
      cases h
      refine SO.v rfl (opv_pick_t' b4 rfl rfl) ?_
      exact hk2.fitc (m := 4) rfl (rfl) rfl
    replace h := cond_f b4 h
    refine SO.takeT rfl rfl rfl b4 ?_
    refine SO.v rfl (opv_move rfl) ?_
    refine SO.takeT rfl rfl rfl b4 ?_
    obtain ⟨t7, ht8, h⟩ := opt_bind h
    refine SO.call (pre := []) rfl Try.call6 rfl rfl rfl (law08_small.ct _ v1 _ _ ht8) (Rd3.head ⟨_, hF1, hl1, hR1⟩) ?_
    rintro _ _ ⟨rfl, rfl⟩
    refine SO.takeT rfl rfl rfl b4 ?_
    refine SO.v rfl (opv_not rfl) ?_
    cases h
    refine SO.v rfl (opv_pick_f' b4 rfl rfl) ?_
    exact hk2.fitc (m := 4) rfl (rfl) rfl
  clear hc6
  replace h := hgk
  refine SO.v rfl (opv_move rfl) ?_
  refine SO.cut 4 34 (.bool (c5 || (decide (3000 < (a2.length : Int))))) [F] (fun l2 hk2 => ?_) ?_
  · rcases bool_or c5 with b9 | b9
    · refine SO.passF rfl rfl rfl b9 rfl rfl ?_
      refine SO.passF rfl rfl rfl b9 rfl rfl ?_
      refine SO.passF rfl rfl rfl b9 rfl rfl ?_
      refine SO.v rfl (opv_pick_t' b9 rfl rfl) ?_
      exact hk2.fitc (m := 4) rfl (or_t b9) rfl
    refine SO.takeT rfl rfl rfl b9 ?_
    refine SO.v rfl (opv_move rfl) ?_
    refine SO.takeT rfl rfl rfl b9 ?_
    refine SO.v rfl (opv_lenR rfl Try.underlying24 hF2 rfl) ?_
    refine SO.takeT rfl rfl rfl b9 ?_
    refine SO.v rfl (opv_gtr rfl rfl) ?_
    refine SO.v rfl (opv_pick_f' b9 rfl rfl) ?_
    exact hk2.fitc (m := 4) rfl (or_f b9) rfl
  refine SO.v rfl (opv_move rfl) ?_
  refine SO.cut 4 39 (.bool ((c5 || (decide (3000 < (a2.length : Int)))) || ((a1.length : Int) == 0))) [F] (fun l2 hk2 => ?_) ?_
  · rcases bool_or (c5 || (decide (3000 < (a2.length : Int)))) with b10 | b10
    · refine SO.passF rfl rfl rfl b10 rfl rfl ?_
      refine SO.passF rfl rfl rfl b10 rfl rfl ?_
      refine SO.passF rfl rfl rfl b10 rfl rfl ?_
      refine SO.v rfl (opv_pick_t' b10 rfl rfl) ?_
      exact hk2.fitc (m := 4) rfl (or_t b10) rfl
    refine SO.takeT rfl rfl rfl b10 ?_
    refine SO.v rfl (opv_move rfl) ?_
    refine SO.takeT rfl rfl rfl b10 ?_
    refine SO.v rfl (opv_len2 rfl Try.underlying23 hF1 hl1 rfl) ?_
    refine SO.takeT rfl rfl rfl b10 ?_
    refine SO.v rfl (opv_eql rfl rfl) ?_
    refine SO.v rfl (opv_pick_f' b10 rfl rfl) ?_
    exact hk2.fitc (m := 4) rfl (or_f b10) rfl
  refine SO.v rfl (opv_move rfl) ?_
  refine SO.cut 4 44 (.bool (((c5 || (decide (3000 < (a2.length : Int)))) || ((a1.length : Int) == 0)) || (decide (3 < (a1.length : Int))))) [F] (fun l2 hk2 => ?_) ?_
  · rcases bool_or ((c5 || (decide (3000 < (a2.length : Int)))) || ((a1.length : Int) == 0)) with b11 | b11
    · refine SO.passF rfl rfl rfl b11 rfl rfl ?_
      refine SO.passF rfl rfl rfl b11 rfl rfl ?_
      refine SO.passF rfl rfl rfl b11 rfl rfl ?_
      refine SO.v rfl (opv_pick_t' b11 rfl rfl) ?_
      exact hk2.fitc (m := 4) rfl (or_t b11) rfl
    refine SO.takeT rfl rfl rfl b11 ?_
    refine SO.v rfl (opv_move rfl) ?_
    refine SO.takeT rfl rfl rfl b11 ?_
    refine SO.v rfl (opv_len2 rfl Try.underlying23 hF1 hl1 rfl) ?_
    refine SO.takeT rfl rfl rfl b11 ?_
    refine SO.v rfl (opv_gtr rfl rfl) ?_
    refine SO.v rfl (opv_pick_f' b11 rfl rfl) ?_
    exact hk2.fitc (m := 4) rfl (or_f b11) rfl
  refine SO.nil ?_
  refine S.to (ρ' := [(0, .int .i64 a0), (1, v1), (2, v2), (6, .bool false), (7, .bool t1), (44, .bool (((c5 || (decide (3000 < (a2.length : Int)))) || ((a1.length : Int) == 0)) || (decide (3 < (a1.length : Int)))))]) ⟨rfl, rfl, rfl, rfl, rfl, rfl, trivial⟩ ?_
  rcases bool_or (((c5 || (decide (3000 < (a2.length : Int)))) || ((a1.length : Int) == 0)) || (decide (3 < (a1.length : Int)))) with b12 | b12
  · replace h := cond_t b12 h
    refine S.condT rfl b12 ?_
    refine S.seq ?_
    refine S.region ?_
    refine SO.v rfl (opv_move rfl) ?_
    refine SO.v rfl (opv_assign rfl) ?_
    refine SO.nil ?_
    cases h
    exact S.ret1 Try.func4 rfl rfl (fun w hs hk => hR w _ _ ⟨rfl, rfl⟩ hs hk)
  replace h := cond_f b12 h
  refine S.condF rfl b12 ?_
  refine S.skip ?_
  refine S.seq ?_
  refine S.region ?_
  refine SO.v rfl (opv_move rfl) ?_
  obtain ⟨⟨t13, t14⟩, ht15, h⟩ := opt_bind h
  rcases t13 with _ | t13p
  · replace h := oE_n h
    refine SO.call (pre := []) rfl Try.call7 rfl rfl rfl (word_New.ct _ _ _ _ ht15) trivial ?_
    rintro _ _ ⟨rfl, rfl⟩
    refine SO.v rfl (opv_move rfl) ?_
    refine SO.v rfl (opv_extract rfl rfl) ?_
    refine SO.v rfl (opv_extract rfl rfl) ?_
    refine SO.v rfl (opv_assign rfl) ?_
    refine SO.v rfl (opv_assign rfl) ?_
    refine SO.nil ?_
    refine S.seq ?_
    refine S.seq ?_
    refine S.region ?_
    refine SO.v rfl (opv_move rfl) ?_
    refine SO.v rfl (opv_eqlPN Try.underlying27 rfl) ?_
    refine SO.v rfl (opv_move rfl) ?_
    refine SO.passF rfl rfl rfl rfl rfl rfl ?_
    refine SO.passF rfl rfl rfl rfl rfl rfl ?_
    refine SO.v rfl (opv_pick_tt rfl rfl) ?_
    refine SO.nil ?_
    refine S.to (ρ' := [(0, .int .i64 a0), (1, v1), (2, v2), (6, .bool false), (7, .bool t1), (8, .pointer none), (56, .bool true)]) ⟨rfl, rfl, rfl, rfl, rfl, rfl, rfl, trivial⟩ ?_
    refine S.cond_true rfl ?_
    refine S.seq ?_
    refine S.region ?_
    refine SO.v rfl (opv_assign rfl) ?_
    refine SO.nil ?_
    cases h
    exact S.ret1 Try.func4 rfl rfl (fun w hs hk => hR w _ _ ⟨rfl, rfl⟩ hs hk)
  replace h := oE_s h
  refine SO.call (pre := []) rfl Try.call7 rfl rfl rfl (word_New.ct _ _ _ _ ht15) trivial ?_
  rintro _ _ ⟨b16, u17_l, rfl, rfl⟩
  refine SO.b1 ?_
  refine SO.rd fun hr18 => ?_
  refine SO.v rfl (opv_move rfl) ?_
  refine SO.v rfl (opv_extract rfl rfl) ?_
  refine SO.v rfl (opv_extract rfl rfl) ?_
  refine SO.v rfl (opv_assign rfl) ?_
  refine SO.v rfl (opv_assign rfl) ?_
  refine SO.nil ?_
  refine S.seq ?_
  refine S.seq ?_
  refine S.region ?_
  refine SO.v rfl (opv_move rfl) ?_
  refine SO.v rfl (opv_eqlP Try.underlying27 rfl) ?_
  refine SO.v rfl (opv_move rfl) ?_
  refine SO.takeT rfl rfl rfl rfl ?_
  refine SO.v rfl (opv_move rfl) ?_
  refine SO.takeT rfl rfl rfl rfl ?_
  refine SO.v rfl (opv_neqN (e := t14) Try.underlying29 rfl) ?_
  refine SO.v rfl (opv_pick_ff rfl rfl) ?_
  refine SO.nil ?_
  refine S.to (ρ' := [(0, .int .i64 a0), (1, v1), (2, v2), (6, .bool false), (7, .bool t1), (8, bp b16 0), (56, .bool t14.isSome)]) ⟨rfl, rfl, rfl, rfl, rfl, rfl, rfl, trivial⟩ ?_
  rcases bool_or t14.isSome with b19 | b19
  · replace h := cond_t b19 h
    refine S.condT rfl b19 ?_
    refine S.seq ?_
    refine S.region ?_
    refine SO.v rfl (opv_assign rfl) ?_
    refine SO.nil ?_
    cases h
    refine S.drop ?_
    refine S.drop ?_
    exact S.ret1 Try.func4 rfl rfl (fun w hs hk => hR w _ _ ⟨rfl, rfl⟩ hs hk)
  replace h := cond_f b19 h
  refine S.condF rfl b19 ?_
  refine S.skip ?_
  refine S.seq ?_
  refine S.region ?_
  refine SO.v rfl (opv_move rfl) ?_
  refine SO.v rfl (opv_move rfl) ?_
  obtain ⟨_, hj20, h⟩ := opt_bind h
  obtain ⟨jm, hjm_, h⟩ := opt_bind h
  obtain ⟨vv_, hv1_, hv2_, hv3_⟩ := Rd3.vv (⟨vs1, hF1, hl1, hR1⟩ : Rd3 ek_law06_Op v1 a1 F)
  refine SO.call (pre := []) rfl Try.call9 rfl rfl rfl (jobs8.ct hv2_ (fun i row os e1 e2 => (hv3_ i row os e1 e2).1) k v1 (chk_some hj20)) (Rd2.tail (Rd2.tail (Rd2.head hv1_))) ?_
  rintro v24 _ ⟨_, rfl, rfl⟩
  refine SO.openFeeds fun G22 hG23 => ?_
  obtain ⟨g, hgG25, hrd8⟩ := mkK8 (k := k) hv2_ hv3_ hjm_ G22 hG23
  subst hgG25
  refine SO.rd fun hr21 => ?_
  obtain ⟨ls26, ht27, h⟩ := opt_bind h
  refine SO.b2 ?_
  refine SO.b3 ?_
  refine SO.call (pre := [Box _ _, Own _ _ _ _]) rfl Try.call8 rfl rfl rfl (new8.ct g k b16 u17_l v24 t13p ls26 ht27) (Rd.head hr21) ?_
  rintro _ _ ⟨bm, rfl, rfl⟩
  refine SO.b1 ?_
  refine SO.drop ?_
  refine SO.v rfl (opv_move rfl) ?_
  refine SO.v rfl (opv_extract rfl rfl) ?_
  refine SO.v rfl (opv_extract rfl rfl) ?_
  refine SO.v rfl (opv_assign rfl) ?_
  refine SO.v rfl (opv_assign rfl) ?_
  refine SO.nil ?_
  refine S.to (ρ' := [(0, .int .i64 a0), (1, v1), (2, v2), (6, .bool false), (7, .bool t1), (10, bp bm 0), (11, errV 60 (none : Option Int))]) ⟨rfl, rfl, rfl, rfl, rfl, rfl, rfl, trivial⟩ ?_
  refine S.seq ?_
  refine S.seq ?_
  refine S.region ?_
  refine SO.v rfl (opv_move rfl) ?_
  refine SO.v rfl (opv_eqlP Try.underlying32 rfl) ?_
  refine SO.v rfl (opv_move rfl) ?_
  refine SO.takeT rfl rfl rfl rfl ?_
  refine SO.v rfl (opv_move rfl) ?_
  refine SO.takeT rfl rfl rfl rfl ?_
  refine SO.v rfl (opv_neqN (e := (none : Option Int)) Try.underlying29 rfl) ?_
  refine SO.v rfl (opv_pick_ff rfl rfl) ?_
  refine SO.nil ?_
  rcases bool_or ((none : Option Int).isSome) with b28 | b28
  · replace h := cond_t b28 h
    refine S.condT rfl b28 ?_
    refine S.seq ?_
    refine S.region ?_
    refine SO.v rfl (opv_assign rfl) ?_
    refine SO.nil ?_
    refine S.to (ρ' := [(6, .bool false)]) ⟨rfl, trivial⟩ ?_
    cases h
    refine S.drop ?_
    refine S.drop ?_
    exact S.ret1 Try.func4 rfl rfl (fun w hs hk => hR w _ _ ⟨rfl, rfl⟩ hs hk)
  replace h := cond_f b28 h
  refine S.condF rfl b28 ?_
  refine S.skip ?_
  refine S.seq ?_
  refine S.region ?_
  refine SO.v rfl (opv_move rfl) ?_
  refine SO.v rfl (opv_len2 rfl Try.underlying23 hF1 hl1 rfl) ?_
  refine SO.v rfl (opv_move rfl) ?_
  refine SO.v rfl (opv_len2 rfl Try.underlying23 hF1 hl1 rfl) ?_
  refine SO.v rfl (opv_add rfl rfl) ?_
  refine SO.v rfl (opv_mul rfl rfl) ?_
  refine SO.v rfl (opv_move rfl) ?_
  refine SO.v rfl (opv_mul rfl rfl) ?_
  refine SO.v rfl (opv_add rfl rfl) ?_
  refine SO.v rfl (opv_mul rfl rfl) ?_
  refine SO.v rfl (opv_assign rfl) ?_
  refine SO.nil ?_
  refine S.to (ρ' := [(1, v1), (2, v2), (6, .bool false), (7, .bool t1), (10, bp bm 0), (12, .int .i64 (w64 ((w64 ((a1.length : Int) * (w64 ((a1.length : Int) + 2)))) * (w64 ((w64 (3 * a0)) + 10)))))]) ⟨rfl, rfl, rfl, rfl, rfl, rfl, trivial⟩ ?_
  refine S.seq ?_
  refine S.region ?_
  refine SO.v rfl (opv_assign rfl) ?_
  refine SO.nil ?_
  refine S.seq ?_
  refine S.region ?_
  refine SO.v rfl (opv_assign rfl) ?_
  refine SO.nil ?_
  refine S.seq ?_
  refine S.seq ?_
  refine S.region ?_
  refine SO.v rfl (opv_assign rfl) ?_
  refine SO.nil ?_
  obtain ⟨o1, hlp1, h⟩ := opt_bind h
  refine S.b2 ?_
  refine S.b2 ?_
  refine S.b2 ?_
  refine S.to (ρ' := [(15, .int .i64 0), (14, .int .i64 0), (13, .int .i64 0), (1, v1), (2, v2), (6, .bool false), (7, .bool t1), (10, bp bm 0), (12, .int .i64 (w64 ((w64 ((a1.length : Int) * (w64 ((a1.length : Int) + 2)))) * (w64 ((w64 (3 * a0)) + 10)))))]) ⟨rfl, rfl, rfl, rfl, rfl, rfl, rfl, rfl, rfl, trivial⟩ ?_
  refine S.forloop (X := (Int × Int × Int × (Mc (List law06_Op) × word_Store)) × Unit) (O := Brk Bool (Mc (List law06_Op) × word_Store)) (fun m x => law08_StmGoes.l1 a0 a1 a2 jm m x.1) (fun x => match x with | ((x15_1, x14_1, x13_1, qbm_1), _) => [(15, .int .i64 x15_1), (14, .int .i64 x14_1), (13, .int .i64 x13_1), (1, v1), (2, v2), (6, .bool false), (7, .bool t1), (10, bp bm 0), (12, .int .i64 (w64 ((w64 ((a1.length : Int) * (w64 ((a1.length : Int) + 2)))) * (w64 ((w64 (3 * a0)) + 10)))))]) (fun x => match x with | ((x15_1, x14_1, x13_1, qbm_1), _) => [M8 g bm b16 qbm_1, R8 g.G, F]) (fun Sk o' => (∀ r', o' = Brk.ret r' → some r' = some r0) ∧ ∀ qbm_e1 : (Mc (List law06_Op) × word_Store), ∀ _ : Unit, o' = Brk.nx qbm_e1 → Sk [(6, .bool false), (7, .bool t1)] [M8 g bm b16 qbm_e1, R8 g.G, F]) (fun _ => rfl) ?_ (m := k) (x := ((0, 0, 0, (newM (List law06_Op) ls26, t13p)), ())) hlp1 ?_
  · clear h hlp1
    intro k x o_1 h hK1 ih1
    obtain ⟨⟨x15_1, x14_1, x13_1, qbm_1⟩, _⟩ := x
    replace h : law08_StmGoes.l1 a0 a1 a2 jm (k + 1) (x15_1, x14_1, x13_1, qbm_1) = some o_1 := h
    first | rw [law08_StmGoes.l1] at h | unfold law08_StmGoes.l1 at h
    refine S.seq ?_
    refine S.seq ?_
    refine S.region ?_
    refine SO.v rfl (opv_move rfl) ?_
    refine SO.v rfl (opv_move rfl) ?_
    refine SO.v rfl (opv_lenR rfl Try.underlying24 hF2 rfl) ?_
    refine SO.v rfl (opv_lss rfl rfl) ?_
    refine SO.nil ?_
    rcases bool_or (decide (x15_1 < (a2.length : Int))) with b29 | b29
    · replace h := cond_t b29 h
      refine S.condT rfl b29 ?_
      refine S.skip ?_
      refine S.seq ?_
      refine S.block ?_
      refine S.seq ?_
      refine S.seq ?_
      refine S.region ?_
      refine SO.v rfl (opv_move rfl) ?_
      refine SO.v rfl (opv_move rfl) ?_
      refine SO.v rfl (opv_move rfl) ?_
      obtain ⟨x30, hx31, h⟩ := opt_bind h
      refine SO.v rfl (opv_idx Try.underlying24 Try.sizeOf3 hF2 rfl rfl hx31) ?_
      refine SO.loadI1 (j := 0) rfl Try.isAgg3 (Rd.tail (Rd.tail (Rd.head hF2))) hx31 rfl rfl rfl rfl ?_
      obtain ⟨⟨t32, m33, s34⟩, ht35, h⟩ := opt_bind h
      refine SO.b1 ?_
      refine SO.b1 ?_
      refine SO.call (pre := [M8 _ _ _ _, R8 g.G]) rfl Try.call10 rfl rfl rfl (step8.ct g k bm b16 qbm_1 t32 m33 s34 x30 ht35) (g.fw.mono [] F hrd8) ?_
      rintro _ _ ⟨rfl, rfl⟩
      refine SO.v rfl (opv_not rfl) ?_
      refine SO.nil ?_
      refine S.to (ρ' := [(15, .int .i64 x15_1), (14, .int .i64 x14_1), (13, .int .i64 x13_1), (1, v1), (2, v2), (6, .bool false), (7, .bool t1), (10, bp bm 0), (12, .int .i64 (w64 ((w64 ((a1.length : Int) * (w64 ((a1.length : Int) + 2)))) * (w64 ((w64 (3 * a0)) + 10))))), (92, .bool (!t32))]) ⟨rfl, rfl, rfl, rfl, rfl, rfl, rfl, rfl, rfl, rfl, trivial⟩ ?_
      rcases bool_or (!t32) with b36 | b36
      · replace h := cond_t b36 h
        refine S.condT rfl b36 ?_
        refine S.exit rfl ?_
        refine S.region ?_
        refine SO.v rfl (opv_move rfl) ?_
        refine SO.v rfl (opv_add rfl rfl) ?_
        refine SO.v rfl (opv_assign rfl) ?_
        refine SO.nil ?_
        refine S.b2 ?_
        refine S.b2 ?_
        refine S.b2 ?_
        refine S.to ?_ (ih1 ((w64 (x15_1 + 1), x14_1, x13_1, (m33, s34)), ()) h)
        exact ⟨rfl, rfl, rfl, rfl, rfl, rfl, rfl, rfl, rfl, trivial⟩
      replace h := cond_f b36 h
      refine S.condF rfl b36 ?_
      refine S.skip ?_
      refine S.seq ?_
      refine S.region ?_
      refine SO.v rfl (opv_move rfl) ?_
      obtain ⟨t37, ht38, h⟩ := opt_bind h
      refine SO.call (pre := [M8 _ _ _ _]) rfl Try.call12 rfl rfl rfl (log8.ct g bm b16 (m33, s34) t37 ht38) trivial ?_
      rintro v39 _ ⟨_, rfl, rfl⟩
      refine SO.rd fun hr40 => ?_
      refine SO.v rfl (opv_lenR rfl Try.underlying41 hr40 rfl) ?_
      refine SO.v rfl (opv_assign rfl) ?_
      refine SO.nil ?_
      refine S.seq ?_
      refine S.seq ?_
      refine S.region ?_
      refine SO.v rfl (opv_assign rfl) ?_
      refine SO.nil ?_
      obtain ⟨j16_e2, hlp2, h⟩ := opt_bind h
      refine S.b3 ?_
      refine S.b3 ?_
      refine S.b3 ?_
      refine S.b3 ?_
      refine S.to (ρ' := [(17, .int .i64 0), (16, .int .i64 (t37.length : Int)), (15, .int .i64 x15_1), (14, .int .i64 x14_1), (13, .int .i64 x13_1), (1, v1), (2, v2), (6, .bool false), (7, .bool t1), (10, bp bm 0), (12, .int .i64 (w64 ((w64 ((a1.length : Int) * (w64 ((a1.length : Int) + 2)))) * (w64 ((w64 (3 * a0)) + 10)))))]) ⟨rfl, rfl, rfl, rfl, rfl, rfl, rfl, rfl, rfl, rfl, rfl, trivial⟩ ?_
      refine S.forloop (X := (Int × Int) × Unit) (O := Int) (fun m x => law08_StmGoes.l2 a1 m33 s34 m x.1) (fun x => match x with | ((x17_2, x16_2), _) => [(17, .int .i64 x17_2), (16, .int .i64 x16_2), (15, .int .i64 x15_1), (14, .int .i64 x14_1), (13, .int .i64 x13_1), (1, v1), (2, v2), (6, .bool false), (7, .bool t1), (10, bp bm 0), (12, .int .i64 (w64 ((w64 ((a1.length : Int) * (w64 ((a1.length : Int) + 2)))) * (w64 ((w64 (3 * a0)) + 10)))))]) (fun x => match x with | ((x17_2, x16_2), _) => [Own 44 ek_stm_Entry v39 t37, M8 g bm b16 (m33, s34), R8 g.G, F]) (fun Sk => (fun j16_e2 => ∀ _ : Unit, Sk [(1, v1), (2, v2), (6, .bool false), (7, .bool t1), (10, bp bm 0), (12, .int .i64 (w64 ((w64 ((a1.length : Int) * (w64 ((a1.length : Int) + 2)))) * (w64 ((w64 (3 * a0)) + 10))))), (13, .int .i64 x13_1), (14, .int .i64 x14_1), (15, .int .i64 x15_1), (16, .int .i64 j16_e2)] [Own 44 ek_stm_Entry v39 t37, M8 g bm b16 (m33, s34), R8 g.G, F])) (fun _ => rfl) ?_ (m := k) (x := ((0, (t37.length : Int)), ())) hlp2 ?_
      · clear h hlp2
        intro k x o_2 h hK2 ih2
        obtain ⟨⟨x17_2, x16_2⟩, _⟩ := x
        replace h : law08_StmGoes.l2 a1 m33 s34 (k + 1) (x17_2, x16_2) = some o_2 := h
        first | rw [law08_StmGoes.l2] at h | unfold law08_StmGoes.l2 at h
        refine S.seq ?_
        refine S.seq ?_
        refine S.region ?_
        refine SO.v rfl (opv_move rfl) ?_
        refine SO.v rfl (opv_move rfl) ?_
        refine SO.v rfl (opv_len2 rfl Try.underlying23 hF1 hl1 rfl) ?_
        refine SO.v rfl (opv_lss rfl rfl) ?_
        refine SO.nil ?_
        rcases bool_or (decide (x17_2 < (a1.length : Int))) with b41 | b41
        · replace h := cond_t b41 h
          refine S.condT rfl b41 ?_
          refine S.skip ?_
          refine S.seq ?_
          refine S.block ?_
          refine S.region ?_
          refine SO.v rfl (opv_move rfl) ?_
          refine SO.v rfl (opv_move rfl) ?_
          refine SO.v rfl (opv_move rfl) ?_
          obtain ⟨t42, ht43, h⟩ := opt_bind h
          refine SO.b1 ?_
          refine SO.call (pre := [M8 _ _ _ _]) rfl Try.call14 rfl rfl rfl (told8.ct g bm b16 (m33, s34) t42 x17_2 ht43) trivial ?_
          rintro v44 _ ⟨_, rfl, rfl⟩
          refine SO.rd fun hr45 => ?_
          refine SO.v rfl (opv_lenR rfl Try.underlying24 hr45 rfl) ?_
          refine SO.v rfl (opv_add rfl rfl) ?_
          refine SO.v rfl (opv_assign rfl) ?_
          refine SO.nil ?_
          refine S.to (ρ' := [(17, .int .i64 x17_2), (16, .int .i64 (w64 (x16_2 + (t42.length : Int)))), (15, .int .i64 x15_1), (14, .int .i64 x14_1), (13, .int .i64 x13_1), (1, v1), (2, v2), (6, .bool false), (7, .bool t1), (10, bp bm 0), (12, .int .i64 (w64 ((w64 ((a1.length : Int) * (w64 ((a1.length : Int) + 2)))) * (w64 ((w64 (3 * a0)) + 10)))))]) ⟨rfl, rfl, rfl, rfl, rfl, rfl, rfl, rfl, rfl, rfl, rfl, trivial⟩ ?_
          refine S.inBlock ?_
          refine S.region ?_
          refine SO.v rfl (opv_move rfl) ?_
          refine SO.v rfl (opv_add rfl rfl) ?_
          refine SO.v rfl (opv_assign rfl) ?_
          refine SO.nil ?_
          refine S.drop ?_
          refine S.b3 ?_
          refine S.b3 ?_
          refine S.b2 ?_
          refine S.b3 ?_
          refine S.to ?_ (ih2 ((w64 (x17_2 + 1), w64 (x16_2 + (t42.length : Int))), ()) h)
          exact ⟨rfl, rfl, rfl, rfl, rfl, rfl, rfl, rfl, rfl, rfl, rfl, trivial⟩
        replace h := cond_f b41 h
        refine S.condF rfl b41 ?_
        refine S.exit rfl ?_
        cases h
        refine S.b3 ?_
        refine S.b3 ?_
        refine S.b3 ?_
        refine S.b3 ?_
        refine S.to ?_ (hK2 ())
        exact ⟨rfl, rfl, rfl, rfl, rfl, rfl, rfl, rfl, rfl, rfl, trivial⟩
      rintro _
      refine S.seq ?_
      refine S.region ?_
      refine SO.v rfl (opv_move rfl) ?_
      refine SO.v rfl (opv_add rfl rfl) ?_
      refine SO.v rfl (opv_assign rfl) ?_
      refine SO.nil ?_
      refine S.seq ?_
      refine S.seq ?_
      refine S.region ?_
      refine SO.v rfl (opv_move rfl) ?_
      refine SO.v rfl (opv_move rfl) ?_
      refine SO.v rfl (opv_gtr rfl rfl) ?_
      refine SO.nil ?_
      rcases bool_or (decide (x14_1 < j16_e2)) with b46 | b46
      · replace h := cond_t b46 h
        refine S.condT rfl b46 ?_
        refine S.seq ?_
        refine S.region ?_
        refine SO.v rfl (opv_assign rfl) ?_
        refine SO.nil ?_
        refine S.region ?_
        refine SO.v rfl (opv_move rfl) ?_
        refine SO.v rfl (opv_assign rfl) ?_
        refine SO.nil ?_
        refine S.to (ρ' := [(1, v1), (2, v2), (6, .bool false), (7, .bool t1), (10, bp bm 0), (12, .int .i64 (w64 ((w64 ((a1.length : Int) * (w64 ((a1.length : Int) + 2)))) * (w64 ((w64 (3 * a0)) + 10))))), (13, .int .i64 0), (14, .int .i64 j16_e2), (15, .int .i64 x15_1)]) ⟨rfl, rfl, rfl, rfl, rfl, rfl, rfl, rfl, rfl, trivial⟩ ?_
        refine S.seq ?_
        refine S.region ?_
        refine SO.v rfl (opv_move rfl) ?_
        refine SO.v rfl (opv_move rfl) ?_
        refine SO.v rfl (opv_geq rfl rfl) ?_
        refine SO.nil ?_
        rcases bool_or (decide ((w64 ((w64 ((a1.length : Int) * (w64 ((a1.length : Int) + 2)))) * (w64 ((w64 (3 * a0)) + 10)))) ≤ 0)) with b47 | b47
        · replace h := cond_t b47 h
          refine S.condT rfl b47 ?_
          refine S.seq ?_
          refine S.region ?_
          refine SO.v rfl (opv_assign rfl) ?_
          refine SO.nil ?_
          refine S.to (ρ' := [(6, .bool false)]) ⟨rfl, trivial⟩ ?_
          cases h
          replace h := hK1.1 _ rfl
          cases h
          refine S.drop ?_
          refine S.drop ?_
          refine S.drop ?_
          exact S.ret1 Try.func4 rfl rfl (fun w hs hk => hR w _ _ ⟨rfl, rfl⟩ hs hk)
        replace h := cond_f b47 h
        refine S.condF rfl b47 ?_
        refine S.skip ?_
        refine S.inBlock ?_
        refine S.region ?_
        refine SO.v rfl (opv_move rfl) ?_
        refine SO.v rfl (opv_add rfl rfl) ?_
        refine SO.v rfl (opv_assign rfl) ?_
        refine SO.nil ?_
        refine S.drop ?_
        refine S.b2 ?_
        refine S.b2 ?_
        refine S.b2 ?_
        refine S.to ?_ (ih1 ((w64 (x15_1 + 1), j16_e2, 0, (m33, s34)), ()) h)
        exact ⟨rfl, rfl, rfl, rfl, rfl, rfl, rfl, rfl, rfl, trivial⟩
      replace h := cond_f b46 h
      refine S.condF rfl b46 ?_
      refine S.skip ?_
      refine S.seq ?_
      refine S.region ?_
      refine SO.v rfl (opv_move rfl) ?_
      refine SO.v rfl (opv_move rfl) ?_
      refine SO.v rfl (opv_geq rfl rfl) ?_
      refine SO.nil ?_
      refine S.to (ρ' := [(1, v1), (2, v2), (6, .bool false), (7, .bool t1), (10, bp bm 0), (12, .int .i64 (w64 ((w64 ((a1.length : Int) * (w64 ((a1.length : Int) + 2)))) * (w64 ((w64 (3 * a0)) + 10))))), (13, .int .i64 (w64 (x13_1 + 1))), (14, .int .i64 x14_1), (15, .int .i64 x15_1), (116, .bool (decide ((w64 ((w64 ((a1.length : Int) * (w64 ((a1.length : Int) + 2)))) * (w64 ((w64 (3 * a0)) + 10)))) ≤ (w64 (x13_1 + 1)))))]) ⟨rfl, rfl, rfl, rfl, rfl, rfl, rfl, rfl, rfl, rfl, trivial⟩ ?_
      rcases bool_or (decide ((w64 ((w64 ((a1.length : Int) * (w64 ((a1.length : Int) + 2)))) * (w64 ((w64 (3 * a0)) + 10)))) ≤ (w64 (x13_1 + 1)))) with b48 | b48
      · replace h := cond_t b48 h
        refine S.condT rfl b48 ?_
        refine S.seq ?_
        refine S.region ?_
        refine SO.v rfl (opv_assign rfl) ?_
        refine SO.nil ?_
        refine S.to (ρ' := [(6, .bool false)]) ⟨rfl, trivial⟩ ?_
        cases h
        replace h := hK1.1 _ rfl
        cases h
        refine S.drop ?_
        refine S.drop ?_
        refine S.drop ?_
        exact S.ret1 Try.func4 rfl rfl (fun w hs hk => hR w _ _ ⟨rfl, rfl⟩ hs hk)
      replace h := cond_f b48 h
      refine S.condF rfl b48 ?_
      refine S.skip ?_
      refine S.inBlock ?_
      refine S.region ?_
      refine SO.v rfl (opv_move rfl) ?_
      refine SO.v rfl (opv_add rfl rfl) ?_
      refine SO.v rfl (opv_assign rfl) ?_
      refine SO.nil ?_
      refine S.drop ?_
      refine S.b2 ?_
      refine S.b2 ?_
      refine S.b2 ?_
      refine S.to ?_ (ih1 ((w64 (x15_1 + 1), x14_1, w64 (x13_1 + 1), (m33, s34)), ()) h)
      exact ⟨rfl, rfl, rfl, rfl, rfl, rfl, rfl, rfl, rfl, trivial⟩
    replace h := cond_f b29 h
    refine S.condF rfl b29 ?_
    refine S.exit rfl ?_
    cases h
    refine S.b2 ?_
    refine S.b2 ?_
    refine S.b2 ?_
    refine S.to ?_ (hK1.2 qbm_1 () rfl)
    exact ⟨rfl, rfl, trivial⟩
  refine ⟨fun r' e' => ?_, ?_⟩
  · subst e'
    have h9 := Brk.of_ret h
    exact h9
  rintro qbm_e1 _ e'
  subst e'
  replace h := Brk.of_nx h
  refine S.seq ?_
  refine S.region ?_
  refine SO.v rfl (opv_move rfl) ?_
  refine SO.v rfl (opv_assign rfl) ?_
  refine SO.nil ?_
  cases h
  refine S.drop ?_
  refine S.drop ?_
  exact S.ret1 Try.func4 rfl rfl (fun w hs hk => hR w _ _ ⟨rfl, rfl⟩ hs hk)
end Go.Proofs
