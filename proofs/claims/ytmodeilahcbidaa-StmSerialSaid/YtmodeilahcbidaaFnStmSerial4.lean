/- What the functions that StmSerial reaches come to, and that they do. On no condition. -/
import Derived.Test.YtmodeilahcbidaaFnStmSerial0
import Derived.Test.YtmodeilahcbidaaFnStmSerial2
import Derived.Test.YtmodeilahcbidaaFnStmSerial3
import Derived.Test.YtmodeilahcbidaaFnStmSerial1
set_option linter.all false
set_option linter.unusedVariables false
namespace Go.Proofs
open Go.Sl Go.RowKit
theorem inf60_law08_up : Try.prog.info? 60 = some Try.t60 := by kernel_rfl
/-! 5 padstone/padstonelaw08.up -/
def law08_up.l1 : Nat → (Int × (Mc Unit × word_Store)) → Option ((Mc Unit × word_Store))
  | 0, _ => none
  | k + 1, (x7_1, qbm_1) => bif decide (x7_1 < 40) then ((stepM (fun _ => law08_add.f) fdU k qbm_1.1 qbm_1.2 (x7_1.tmod 2)).bind fun (t25, m26, s27) => law08_up.l1  k (w64 (x7_1 + 1), (m26, s27))) else (some qbm_1)
def law08_up.f (k : Nat) : Option (Bool) :=
  (word_New.f 1 9).bind fun (t1, t2) => oE t1 (some false) (fun t1p => bif t2.isSome then (some false) else ((newNil k).bind fun _ => (newN k 2).bind fun ls22 => bif (none : Option Int).isSome then (some false) else ((law08_up.l1 k (0, (newM Unit ls22, t1p))).bind fun qbm_e1 => (word_Store_Values.f k qbm_e1.2).bind fun t29 => (bif (some 1 : Option Int) == some 1 then ((idlesM fdU k qbm_e1.1).bind fun t36 => some t36) else (some false)).bind fun c34 => (bif c34 then ((at_ t29 0).bind fun x41 => some (x41 == 2)) else (some false)).bind fun c39 => (bif c39 then ((stm_Machine_Log.f qbm_e1.1.log).bind fun t46 => some ((t46.length : Int) == 2)) else (some false)).bind fun c44 => (bif c44 then ((toldM qbm_e1.1 1).bind fun t53 => some ((t53.length : Int) == 1)) else (some false)).bind fun c51 => (bif c51 then ((busyM qbm_e1.1 0).bind fun t60 => some (!t60)) else (some false)).bind fun c58 => (bif c58 then ((stepM (fun _ => law08_add.f) fdU k qbm_e1.1 qbm_e1.2 0).bind fun (t67, m68, s69) => some (!t67, (m68, s69))) else (some (false, qbm_e1))).bind fun (c63, w65) => some c63)))
set_option maxHeartbeats 8000000 in
set_option maxRecDepth 100000 in
theorem law08_up.ct (k : Nat) (r0 : Bool) (h : law08_up.f k  = some r0) :
    Ct Try.prog 5 [] (fun _ => True) [] (fun u H' => u = .bool r0 ∧ H' = []) := by
  unfold law08_up.f at h
  refine Ct.intro (n := 86) Try.func5 rfl rfl rfl ?_
  intro R w0 F hF hR
  refine S.seq ?_
  refine S.region ?_
  refine SO.v rfl (opv_assign rfl) ?_
  refine SO.nil ?_
  refine S.seq ?_
  refine S.region ?_
  obtain ⟨⟨t1, t2⟩, ht3, h⟩ := opt_bind h
  rcases t1 with _ | t1p
  · replace h := oE_n h
    refine SO.call (pre := []) rfl Try.call7 rfl rfl rfl (word_New.ct _ _ _ _ ht3) trivial ?_
    rintro _ _ ⟨rfl, rfl⟩
    refine SO.v rfl (opv_move rfl) ?_
    refine SO.v rfl (opv_extract rfl rfl) ?_
    refine SO.v rfl (opv_extract rfl rfl) ?_
    refine SO.v rfl (opv_assign rfl) ?_
    refine SO.v rfl (opv_assign rfl) ?_
    refine SO.nil ?_
    refine S.seq ?_
    refine S.seq ?_
    refine S.region ?_
    refine SO.v rfl (opv_move rfl) ?_
    refine SO.v rfl (opv_eqlPN Try.underlying27 rfl) ?_
    refine SO.v rfl (opv_move rfl) ?_
    refine SO.passF rfl rfl rfl rfl rfl rfl ?_
    refine SO.passF rfl rfl rfl rfl rfl rfl ?_
    refine SO.v rfl (opv_pick_tt rfl rfl) ?_
    refine SO.nil ?_
    refine S.to (ρ' := [(0, .bool false), (1, .pointer none), (18, .bool true)]) ⟨rfl, rfl, rfl, trivial⟩ ?_
    refine S.cond_true rfl ?_
    refine S.seq ?_
    refine S.region ?_
    refine SO.v rfl (opv_assign rfl) ?_
    refine SO.nil ?_
    cases h
    exact S.ret1 Try.func5 rfl rfl (fun w hs hk => hR w _ _ ⟨rfl, rfl⟩ hs hk)
  replace h := oE_s h
  refine SO.call (pre := []) rfl Try.call7 rfl rfl rfl (word_New.ct _ _ _ _ ht3) trivial ?_
  rintro _ _ ⟨b4, u5_l, rfl, rfl⟩
  refine SO.b1 ?_
  refine SO.rd fun hr6 => ?_
  refine SO.v rfl (opv_move rfl) ?_
  refine SO.v rfl (opv_extract rfl rfl) ?_
  refine SO.v rfl (opv_extract rfl rfl) ?_
  refine SO.v rfl (opv_assign rfl) ?_
  refine SO.v rfl (opv_assign rfl) ?_
  refine SO.nil ?_
  refine S.seq ?_
  refine S.seq ?_
  refine S.region ?_
  refine SO.v rfl (opv_move rfl) ?_
  refine SO.v rfl (opv_eqlP Try.underlying27 rfl) ?_
  refine SO.v rfl (opv_move rfl) ?_
  refine SO.takeT rfl rfl rfl rfl ?_
  refine SO.v rfl (opv_move rfl) ?_
  refine SO.takeT rfl rfl rfl rfl ?_
  refine SO.v rfl (opv_neqN (e := t2) Try.underlying29 rfl) ?_
  refine SO.v rfl (opv_pick_ff rfl rfl) ?_
  refine SO.nil ?_
  refine S.to (ρ' := [(0, .bool false), (1, bp b4 0), (18, .bool t2.isSome)]) ⟨rfl, rfl, rfl, trivial⟩ ?_
  rcases bool_or t2.isSome with b7 | b7
  · replace h := cond_t b7 h
    refine S.condT rfl b7 ?_
    refine S.seq ?_
    refine S.region ?_
    refine SO.v rfl (opv_assign rfl) ?_
    refine SO.nil ?_
    cases h
    refine S.drop ?_
    refine S.drop ?_
    exact S.ret1 Try.func5 rfl rfl (fun w hs hk => hR w _ _ ⟨rfl, rfl⟩ hs hk)
  replace h := cond_f b7 h
  refine S.condF rfl b7 ?_
  refine S.skip ?_
  refine S.seq ?_
  refine S.region ?_
  refine SO.v rfl (opv_move rfl) ?_
  refine SO.buildSlice (K := (ekV nilU nilU_one)) (xs := [()]) (cs := [nilU ()]) rfl Try.underlying35 Try.sizeOf56 Try.zeroValue56 rfl rfl rfl (by kernel_rfl) rfl rfl rfl (fun v8 hr9 => ?_)
  obtain ⟨_, ht10, h⟩ := opt_bind h
  refine SO.call (pre := []) rfl Try.call8 rfl rfl rfl (stm_New.ct k nilU nilU_one (fun _ => true) nilU_nil b4 v8 [()] none (newNil_some ht10)) (Rd.head hr9) ?_
  rintro _ _ ⟨rfl, rfl⟩
  refine SO.v rfl (opv_move rfl) ?_
  refine SO.v rfl (opv_extract rfl rfl) ?_
  refine SO.v rfl (opv_extract rfl rfl) ?_
  refine SO.v rfl (opv_assign rfl) ?_
  refine SO.v rfl (opv_assign rfl) ?_
  refine SO.nil ?_
  refine S.to (ρ' := [(0, .bool false), (1, bp b4 0), (4, errV 60 (some 1 : Option Int))]) ⟨rfl, rfl, rfl, trivial⟩ ?_
  refine S.seq ?_
  refine S.region ?_
  refine SO.v rfl (opv_move rfl) ?_
  refine SO.buildSlice (K := (ekV jvU jvU_one)) (xs := [()]) (cs := [jvU ()]) rfl Try.underlying59 Try.sizeOf69 Try.zeroValue69 rfl rfl rfl (by kernel_rfl) rfl rfl rfl (fun v11 hr12 => ?_)
  refine SO.call (pre := []) rfl Try.call19 rfl rfl rfl (stm_List.ct jvU jvU_one v11 [()] [()] rfl) (Rd.head hr12) ?_
  rintro _ _ ⟨b13, v14, rfl, rfl⟩
  refine SO.buildSlice (K := (ekV jvU jvU_one)) (xs := [()]) (cs := [jvU ()]) rfl Try.underlying59 Try.sizeOf69 Try.zeroValue69 rfl rfl rfl (by kernel_rfl) rfl rfl rfl (fun v15 hr16 => ?_)
  refine SO.call (pre := []) rfl Try.call19 rfl rfl rfl (stm_List.ct jvU jvU_one v15 [()] [()] rfl) (Rd.head hr16) ?_
  rintro _ _ ⟨b17, v18, rfl, rfl⟩
  refine SO.buildSlice (K := (ekV fv39 fv39_one)) (xs := [b13, b17]) (cs := [fv39 b13, fv39 b17]) rfl Try.underlying35 Try.sizeOf56 Try.zeroValue56 rfl rfl rfl (by kernel_rfl) rfl rfl rfl (fun v19 hr20 => ?_)
  obtain ⟨ls22, ht21, h⟩ := opt_bind h
  obtain ⟨g, hg_⟩ : ∃ g : KU, g = ⟨[(b13, v14), (b17, v18)]⟩ := ⟨_, rfl⟩
  refine SO.b2 ?_
  refine SO.b2 ?_
  refine SO.b5 ?_
  refine SO.b5 ?_
  refine SO.packU hg_ ?_
  refine SO.b5 ?_
  refine SO.b6 ?_
  refine SO.call (pre := [Box _ _, Own _ _ _ _]) rfl Try.call8 rfl rfl rfl (newU2.ct k b4 u5_l v19 t1p ls22 b13 b17 v14 v18 g hg_ ht21) (Rd.tail (Rd.head hr20)) ?_
  rintro _ _ ⟨bm, rfl, rfl⟩
  refine SO.v rfl (opv_move rfl) ?_
  refine SO.v rfl (opv_extract rfl rfl) ?_
  refine SO.v rfl (opv_extract rfl rfl) ?_
  refine SO.v rfl (opv_assign rfl) ?_
  refine SO.v rfl (opv_assign rfl) ?_
  refine SO.nil ?_
  refine S.to (ρ' := [(0, .bool false), (1, bp b4 0), (4, errV 60 (some 1 : Option Int)), (5, bp bm 0), (6, errV 60 (none : Option Int))]) ⟨rfl, rfl, rfl, rfl, rfl, trivial⟩ ?_
  refine S.seq ?_
  refine S.seq ?_
  refine S.region ?_
  refine SO.v rfl (opv_move rfl) ?_
  refine SO.v rfl (opv_eqlP Try.underlying32 rfl) ?_
  refine SO.v rfl (opv_move rfl) ?_
  refine SO.takeT rfl rfl rfl rfl ?_
  refine SO.v rfl (opv_move rfl) ?_
  refine SO.takeT rfl rfl rfl rfl ?_
  refine SO.v rfl (opv_neqN (e := (none : Option Int)) Try.underlying29 rfl) ?_
  refine SO.v rfl (opv_pick_ff rfl rfl) ?_
  refine SO.nil ?_
  rcases bool_or ((none : Option Int).isSome) with b23 | b23
  · replace h := cond_t b23 h
    refine S.condT rfl b23 ?_
    refine S.seq ?_
    refine S.region ?_
    refine SO.v rfl (opv_assign rfl) ?_
    refine SO.nil ?_
    refine S.to (ρ' := [(0, .bool false)]) ⟨rfl, trivial⟩ ?_
    cases h
    refine S.drop ?_
    refine S.drop ?_
    refine S.drop ?_
    refine S.drop ?_
    refine S.drop ?_
    refine S.drop ?_
    exact S.ret1 Try.func5 rfl rfl (fun w hs hk => hR w _ _ ⟨rfl, rfl⟩ hs hk)
  replace h := cond_f b23 h
  refine S.condF rfl b23 ?_
  refine S.skip ?_
  refine S.seq ?_
  refine S.seq ?_
  refine S.region ?_
  refine SO.v rfl (opv_assign rfl) ?_
  refine SO.nil ?_
  refine S.to (ρ' := [(0, .bool false), (1, bp b4 0), (4, errV 60 (some 1 : Option Int)), (5, bp bm 0), (7, .int .i64 0)]) ⟨rfl, rfl, rfl, rfl, rfl, trivial⟩ ?_
  obtain ⟨qbm_e1, hlp1, h⟩ := opt_bind h
  refine S.b6 ?_
  refine S.b6 ?_
  refine S.b6 ?_
  refine S.b6 ?_
  refine S.b6 ?_
  refine S.b6 ?_
  refine S.b6 ?_
  refine S.to (ρ' := [(0, .bool false), (1, bp b4 0), (4, errV 60 (some 1 : Option Int)), (5, bp bm 0), (7, .int .i64 0)]) ⟨rfl, rfl, rfl, rfl, rfl, trivial⟩ ?_
  refine S.forloop (X := (Int × (Mc Unit × word_Store)) × Unit) (O := (Mc Unit × word_Store)) (fun m x => law08_up.l1  m x.1) (fun x => match x with | ((x7_1, qbm_1), _) => [(0, .bool false), (1, bp b4 0), (4, errV 60 (some 1 : Option Int)), (5, bp bm 0), (7, .int .i64 x7_1)]) (fun x => match x with | ((x7_1, qbm_1), _) => [MU g bm b4 qbm_1, RU g.G, Own 56 (ekV fv39 fv39_one) v19 [b13, b17], Own 69 (ekV jvU jvU_one) v15 [()], Own 69 (ekV jvU jvU_one) v11 [()], Own 56 (ekV nilU nilU_one) v8 [()], F]) (fun Sk => (fun qbm_e1 => ∀ _ : Unit, Sk [(0, .bool false), (1, bp b4 0), (4, errV 60 (some 1 : Option Int)), (5, bp bm 0)] [MU g bm b4 qbm_e1, RU g.G, Own 56 (ekV fv39 fv39_one) v19 [b13, b17], Own 69 (ekV jvU jvU_one) v15 [()], Own 69 (ekV jvU jvU_one) v11 [()], Own 56 (ekV nilU nilU_one) v8 [()], F])) (fun _ => rfl) ?_ (m := k) (x := ((0, (newM Unit ls22, t1p)), ())) hlp1 ?_
  · clear h hlp1
    intro k x o_1 h hK1 ih1
    obtain ⟨⟨x7_1, qbm_1⟩, _⟩ := x
    replace h : law08_up.l1  (k + 1) (x7_1, qbm_1) = some o_1 := h
    first | rw [law08_up.l1] at h | unfold law08_up.l1 at h
    refine S.seq ?_
    refine S.seq ?_
    refine S.region ?_
    refine SO.v rfl (opv_move rfl) ?_
    refine SO.v rfl (opv_lss rfl rfl) ?_
    refine SO.nil ?_
    rcases bool_or (decide (x7_1 < 40)) with b24 | b24
    · replace h := cond_t b24 h
      refine S.condT rfl b24 ?_
      refine S.skip ?_
      refine S.seq ?_
      refine S.block ?_
      refine S.region ?_
      refine SO.v rfl (opv_move rfl) ?_
      refine SO.v rfl (opv_move rfl) ?_
      refine SO.v rfl (opv_rem rfl rfl (by decide)) ?_
      obtain ⟨⟨t25, m26, s27⟩, ht28, h⟩ := opt_bind h
      refine SO.b1 ?_
      refine SO.b1 ?_
      refine SO.call (pre := [MU _ _ _ _, RU g.G]) rfl Try.call10 rfl rfl rfl (stepU.ct g k bm b4 qbm_1 t25 m26 s27 (x7_1.tmod 2) ht28) trivial ?_
      rintro _ _ ⟨rfl, rfl⟩
      refine SO.nil ?_
      refine S.inBlock ?_
      refine S.region ?_
      refine SO.v rfl (opv_move rfl) ?_
      refine SO.v rfl (opv_add rfl rfl) ?_
      refine SO.v rfl (opv_assign rfl) ?_
      refine SO.nil ?_
      refine S.to (ρ' := [(0, .bool false), (1, bp b4 0), (4, errV 60 (some 1 : Option Int)), (5, bp bm 0), (7, .int .i64 (w64 (x7_1 + 1)))]) ⟨rfl, rfl, rfl, rfl, rfl, trivial⟩ ?_
      refine S.b6 ?_
      refine S.b6 ?_
      refine S.b6 ?_
      refine S.b6 ?_
      refine S.b6 ?_
      refine S.b6 ?_
      refine S.b6 ?_
      refine S.to ?_ (ih1 ((w64 (x7_1 + 1), (m26, s27)), ()) h)
      exact ⟨rfl, rfl, rfl, rfl, rfl, trivial⟩
    replace h := cond_f b24 h
    refine S.condF rfl b24 ?_
    refine S.exit rfl ?_
    cases h
    refine S.b6 ?_
    refine S.b6 ?_
    refine S.b6 ?_
    refine S.b6 ?_
    refine S.b6 ?_
    refine S.b6 ?_
    refine S.b6 ?_
    refine S.to ?_ (hK1 ())
    exact ⟨rfl, rfl, rfl, rfl, trivial⟩
  rintro _
  refine S.seq ?_
  refine S.region ?_
  refine SO.v rfl (opv_move rfl) ?_
  obtain ⟨t29, ht30, h⟩ := opt_bind h
  refine SO.call (pre := [MU _ _ _ _]) rfl Try.call15 rfl rfl rfl (valuesU.ct g k bm b4 qbm_e1 t29 ht30) trivial ?_
  rintro v31 _ ⟨_, rfl, rfl⟩
  refine SO.rd fun hr32 => ?_
  refine SO.v rfl (opv_assign rfl) ?_
  refine SO.nil ?_
  refine S.seq ?_
  refine S.region ?_
  refine SO.v rfl (opv_move rfl) ?_
  refine SO.v rfl (opv_iface Try.underlying60 rfl rfl) ?_
  refine SO.v rfl (opv_eqlE (e := (some 1 : Option Int)) (c := 1) Try.underlying29 Try.underlying60 inf60_law08_up rfl rfl rfl) ?_
  refine SO.v rfl (opv_move rfl) ?_
  obtain ⟨c34, hc35, hgk⟩ := opt_bind h
  refine SO.cut 3 57 (.bool c34) [Own 46 (ekI .u64) v31 t29, MU g bm b4 qbm_e1, RU g.G, Own 56 (ekV fv39 fv39_one) v19 [b13, b17], Own 69 (ekV jvU jvU_one) v15 [()], Own 69 (ekV jvU jvU_one) v11 [()], Own 56 (ekV nilU nilU_one) v8 [()], F] (fun l2 hk2 => ?_) ?_
  · clear hgk
    replace h := hc35
    rcases bool_or ((some 1 : Option Int) == some 1) with b33 | b33
    · replace h := cond_t b33 h
      refine SO.takeT rfl rfl rfl b33 ?_
      refine SO.v rfl (opv_move rfl) ?_
      refine SO.takeT rfl rfl rfl b33 ?_
      obtain ⟨t36, ht37, h⟩ := opt_bind h
      refine SO.b2 ?_
      refine SO.b2 ?_
      refine SO.call (pre := [MU _ _ _ _, RU g.G]) rfl Try.call18 rfl rfl rfl (idleU.ct g k bm b4 qbm_e1 t36 ht37) trivial ?_
      rintro _ _ ⟨rfl, rfl⟩
      cases h
      refine SO.v rfl (opv_pick_t' b33 rfl rfl) ?_
      refine SO.b7 ?_
      refine SO.b7 ?_
      refine SO.b7 ?_
      refine SO.b7 ?_
      refine SO.b7 ?_
      refine SO.b6 ?_
      refine SO.b6 ?_
      refine SO.b7 ?_
      exact hk2.fitc (m := 3) rfl (rfl) rfl
    replace h := cond_f b33 h
    refine SO.passF rfl rfl rfl b33 rfl rfl ?_
    refine SO.passF rfl rfl rfl b33 rfl rfl ?_
    cases h
    refine SO.v rfl (opv_pick_f' b33 rfl rfl) ?_
    refine SO.b7 ?_
    refine SO.b7 ?_
    refine SO.b7 ?_
    refine SO.b7 ?_
    refine SO.b7 ?_
    refine SO.b7 ?_
    refine SO.b7 ?_
    refine SO.b7 ?_
    exact hk2.fitc (m := 3) rfl (rfl) rfl
  clear hc35
  replace h := hgk
  refine SO.v rfl (opv_move rfl) ?_
  obtain ⟨c39, hc40, hgk⟩ := opt_bind h
  refine SO.cut 5 63 (.bool c39) [Own 46 (ekI .u64) v31 t29, MU g bm b4 qbm_e1, RU g.G, Own 56 (ekV fv39 fv39_one) v19 [b13, b17], Own 69 (ekV jvU jvU_one) v15 [()], Own 69 (ekV jvU jvU_one) v11 [()], Own 56 (ekV nilU nilU_one) v8 [()], F] (fun l2 hk2 => ?_) ?_
  · clear hgk
    replace h := hc40
    rcases bool_or c34 with b38 | b38
    · replace h := cond_t b38 h
      refine SO.takeT rfl rfl rfl b38 ?_
      refine SO.v rfl (opv_move rfl) ?_
      refine SO.takeT rfl rfl rfl b38 ?_
      obtain ⟨x41, hx42, h⟩ := opt_bind h
      refine SO.v rfl (opv_idx Try.underlying39 Try.sizeOf46 hr32 rfl rfl hx42) ?_
      refine SO.takeT rfl rfl rfl b38 ?_
      refine SO.loadI1 (j := 0) rfl Try.isAgg46 (Rd.head hr32) hx42 rfl rfl rfl rfl ?_
      refine SO.takeT rfl rfl rfl b38 ?_
      refine SO.v rfl (opv_eql rfl rfl) ?_
      cases h
      refine SO.v rfl (opv_pick_t' b38 rfl rfl) ?_
      refine SO.b7 ?_
      refine SO.b7 ?_
      refine SO.b7 ?_
      refine SO.b7 ?_
      refine SO.b7 ?_
      refine SO.b7 ?_
      refine SO.b7 ?_
      refine SO.b7 ?_
      exact hk2.fitc (m := 5) rfl (rfl) rfl
    replace h := cond_f b38 h
    refine SO.passF rfl rfl rfl b38 rfl rfl ?_
    refine SO.passF rfl rfl rfl b38 rfl rfl ?_
    refine SO.passF rfl rfl rfl b38 rfl rfl ?_
    refine SO.passF rfl rfl rfl b38 rfl rfl ?_
    cases h
    refine SO.v rfl (opv_pick_f' b38 rfl rfl) ?_
    refine SO.b7 ?_
    refine SO.b7 ?_
    refine SO.b7 ?_
    refine SO.b7 ?_
    refine SO.b7 ?_
    refine SO.b7 ?_
    refine SO.b7 ?_
    refine SO.b7 ?_
    exact hk2.fitc (m := 5) rfl (rfl) rfl
  clear hc40
  replace h := hgk
  refine SO.v rfl (opv_move rfl) ?_
  obtain ⟨c44, hc45, hgk⟩ := opt_bind h
  refine SO.cut 5 69 (.bool c44) [Own 46 (ekI .u64) v31 t29, MU g bm b4 qbm_e1, RU g.G, Own 56 (ekV fv39 fv39_one) v19 [b13, b17], Own 69 (ekV jvU jvU_one) v15 [()], Own 69 (ekV jvU jvU_one) v11 [()], Own 56 (ekV nilU nilU_one) v8 [()], F] (fun l2 hk2 => ?_) ?_
  · clear hgk
    replace h := hc45
    rcases bool_or c39 with b43 | b43
    · replace h := cond_t b43 h
      refine SO.takeT rfl rfl rfl b43 ?_
      refine SO.v rfl (opv_move rfl) ?_
      refine SO.takeT rfl rfl rfl b43 ?_
      obtain ⟨t46, ht47, h⟩ := opt_bind h
      refine SO.b1 ?_
      refine SO.call (pre := [MU _ _ _ _]) rfl Try.call12 rfl rfl rfl (logU.ct g bm b4 qbm_e1 t46 ht47) trivial ?_
      rintro v48 _ ⟨_, rfl, rfl⟩
      refine SO.rd fun hr49 => ?_
      refine SO.takeT rfl rfl rfl b43 ?_
      refine SO.v rfl (opv_lenR rfl Try.underlying41 hr49 rfl) ?_
      refine SO.takeT rfl rfl rfl b43 ?_
      refine SO.v rfl (opv_eql rfl rfl) ?_
      cases h
      refine SO.v rfl (opv_pick_t' b43 rfl rfl) ?_
      refine SO.drop ?_
      refine SO.b7 ?_
      refine SO.b7 ?_
      refine SO.b7 ?_
      refine SO.b7 ?_
      refine SO.b7 ?_
      refine SO.b7 ?_
      refine SO.b6 ?_
      refine SO.b7 ?_
      exact hk2.fitc (m := 5) rfl (rfl) rfl
    replace h := cond_f b43 h
    refine SO.passF rfl rfl rfl b43 rfl rfl ?_
    refine SO.passF rfl rfl rfl b43 rfl rfl ?_
    refine SO.passF rfl rfl rfl b43 rfl rfl ?_
    refine SO.passF rfl rfl rfl b43 rfl rfl ?_
    cases h
    refine SO.v rfl (opv_pick_f' b43 rfl rfl) ?_
    refine SO.b7 ?_
    refine SO.b7 ?_
    refine SO.b7 ?_
    refine SO.b7 ?_
    refine SO.b7 ?_
    refine SO.b7 ?_
    refine SO.b7 ?_
    refine SO.b7 ?_
    exact hk2.fitc (m := 5) rfl (rfl) rfl
  clear hc45
  replace h := hgk
  refine SO.v rfl (opv_move rfl) ?_
  obtain ⟨c51, hc52, hgk⟩ := opt_bind h
  refine SO.cut 5 75 (.bool c51) [Own 46 (ekI .u64) v31 t29, MU g bm b4 qbm_e1, RU g.G, Own 56 (ekV fv39 fv39_one) v19 [b13, b17], Own 69 (ekV jvU jvU_one) v15 [()], Own 69 (ekV jvU jvU_one) v11 [()], Own 56 (ekV nilU nilU_one) v8 [()], F] (fun l2 hk2 => ?_) ?_
  · clear hgk
    replace h := hc52
    rcases bool_or c44 with b50 | b50
    · replace h := cond_t b50 h
      refine SO.takeT rfl rfl rfl b50 ?_
      refine SO.v rfl (opv_move rfl) ?_
      refine SO.takeT rfl rfl rfl b50 ?_
      obtain ⟨t53, ht54, h⟩ := opt_bind h
      refine SO.b1 ?_
      refine SO.call (pre := [MU _ _ _ _]) rfl Try.call14 rfl rfl rfl (toldU.ct g bm b4 qbm_e1 t53 1 ht54) trivial ?_
      rintro v55 _ ⟨_, rfl, rfl⟩
      refine SO.rd fun hr56 => ?_
      refine SO.takeT rfl rfl rfl b50 ?_
      refine SO.v rfl (opv_lenR rfl Try.underlying24 hr56 rfl) ?_
      refine SO.takeT rfl rfl rfl b50 ?_
      refine SO.v rfl (opv_eql rfl rfl) ?_
      cases h
      refine SO.v rfl (opv_pick_t' b50 rfl rfl) ?_
      refine SO.drop ?_
      refine SO.b7 ?_
      refine SO.b7 ?_
      refine SO.b7 ?_
      refine SO.b7 ?_
      refine SO.b7 ?_
      refine SO.b7 ?_
      refine SO.b6 ?_
      refine SO.b7 ?_
      exact hk2.fitc (m := 5) rfl (rfl) rfl
    replace h := cond_f b50 h
    refine SO.passF rfl rfl rfl b50 rfl rfl ?_
    refine SO.passF rfl rfl rfl b50 rfl rfl ?_
    refine SO.passF rfl rfl rfl b50 rfl rfl ?_
    refine SO.passF rfl rfl rfl b50 rfl rfl ?_
    cases h
    refine SO.v rfl (opv_pick_f' b50 rfl rfl) ?_
    refine SO.b7 ?_
    refine SO.b7 ?_
    refine SO.b7 ?_
    refine SO.b7 ?_
    refine SO.b7 ?_
    refine SO.b7 ?_
    refine SO.b7 ?_
    refine SO.b7 ?_
    exact hk2.fitc (m := 5) rfl (rfl) rfl
  clear hc52
  replace h := hgk
  refine SO.v rfl (opv_move rfl) ?_
  obtain ⟨c58, hc59, hgk⟩ := opt_bind h
  refine SO.cut 4 80 (.bool c58) [Own 46 (ekI .u64) v31 t29, MU g bm b4 qbm_e1, RU g.G, Own 56 (ekV fv39 fv39_one) v19 [b13, b17], Own 69 (ekV jvU jvU_one) v15 [()], Own 69 (ekV jvU jvU_one) v11 [()], Own 56 (ekV nilU nilU_one) v8 [()], F] (fun l2 hk2 => ?_) ?_
  · clear hgk
    replace h := hc59
    rcases bool_or c51 with b57 | b57
    · replace h := cond_t b57 h
      refine SO.takeT rfl rfl rfl b57 ?_
      refine SO.v rfl (opv_move rfl) ?_
      refine SO.takeT rfl rfl rfl b57 ?_
      obtain ⟨t60, ht61, h⟩ := opt_bind h
      refine SO.b1 ?_
      refine SO.call (pre := [MU _ _ _ _]) rfl Try.call21 rfl rfl rfl (busyU.ct g bm b4 qbm_e1 t60 0 ht61) trivial ?_
      rintro _ _ ⟨rfl, rfl⟩
      refine SO.takeT rfl rfl rfl b57 ?_
      refine SO.v rfl (opv_not rfl) ?_
      cases h
      refine SO.v rfl (opv_pick_t' b57 rfl rfl) ?_
      refine SO.b7 ?_
      refine SO.b7 ?_
      refine SO.b7 ?_
      refine SO.b7 ?_
      refine SO.b7 ?_
      refine SO.b7 ?_
      refine SO.b6 ?_
      refine SO.b7 ?_
      exact hk2.fitc (m := 4) rfl (rfl) rfl
    replace h := cond_f b57 h
    refine SO.passF rfl rfl rfl b57 rfl rfl ?_
    refine SO.passF rfl rfl rfl b57 rfl rfl ?_
    refine SO.passF rfl rfl rfl b57 rfl rfl ?_
    cases h
    refine SO.v rfl (opv_pick_f' b57 rfl rfl) ?_
    refine SO.b7 ?_
    refine SO.b7 ?_
    refine SO.b7 ?_
    refine SO.b7 ?_
    refine SO.b7 ?_
    refine SO.b7 ?_
    refine SO.b7 ?_
    refine SO.b7 ?_
    exact hk2.fitc (m := 4) rfl (rfl) rfl
  clear hc59
  replace h := hgk
  refine SO.v rfl (opv_move rfl) ?_
  obtain ⟨⟨c63, w65⟩, hc64, hgk⟩ := opt_bind h
  refine SO.cut 4 85 (.bool c63) [Own 46 (ekI .u64) v31 t29, MU g bm b4 w65, RU g.G, Own 56 (ekV fv39 fv39_one) v19 [b13, b17], Own 69 (ekV jvU jvU_one) v15 [()], Own 69 (ekV jvU jvU_one) v11 [()], Own 56 (ekV nilU nilU_one) v8 [()], F] (fun l2 hk2 => ?_) ?_
  · clear hgk
    replace h := hc64
    rcases bool_or c58 with b62 | b62
    · replace h := cond_t b62 h
      refine SO.takeT rfl rfl rfl b62 ?_
      refine SO.v rfl (opv_move rfl) ?_
      refine SO.takeT rfl rfl rfl b62 ?_
      obtain ⟨⟨t67, m68, s69⟩, ht70, h⟩ := opt_bind h
      refine SO.b2 ?_
      refine SO.b2 ?_
      refine SO.call (pre := [MU _ _ _ _, RU g.G]) rfl Try.call10 rfl rfl rfl (stepU.ct g k bm b4 qbm_e1 t67 m68 s69 0 ht70) trivial ?_
      rintro _ _ ⟨rfl, rfl⟩
      refine SO.takeT rfl rfl rfl b62 ?_
      refine SO.v rfl (opv_not rfl) ?_
      cases h
      refine SO.v rfl (opv_pick_t' b62 rfl rfl) ?_
      refine SO.b7 ?_
      refine SO.b7 ?_
      refine SO.b7 ?_
      refine SO.b7 ?_
      refine SO.b7 ?_
      refine SO.b6 ?_
      refine SO.b6 ?_
      refine SO.b7 ?_
      exact hk2.fitc (m := 4) rfl (rfl) rfl
    replace h := cond_f b62 h
    refine SO.passF rfl rfl rfl b62 rfl rfl ?_
    refine SO.passF rfl rfl rfl b62 rfl rfl ?_
    refine SO.passF rfl rfl rfl b62 rfl rfl ?_
    cases h
    refine SO.v rfl (opv_pick_f' b62 rfl rfl) ?_
    refine SO.b7 ?_
    refine SO.b7 ?_
    refine SO.b7 ?_
    refine SO.b7 ?_
    refine SO.b7 ?_
    refine SO.b7 ?_
    refine SO.b7 ?_
    refine SO.b7 ?_
    exact hk2.fitc (m := 4) rfl (rfl) rfl
  clear hc64
  replace h := hgk
  refine SO.v rfl (opv_assign rfl) ?_
  refine SO.nil ?_
  refine S.to (ρ' := [(0, .bool c63)]) ⟨rfl, trivial⟩ ?_
  cases h
  refine S.drop ?_
  refine S.drop ?_
  refine S.drop ?_
  refine S.drop ?_
  refine S.drop ?_
  refine S.drop ?_
  refine S.drop ?_
  exact S.ret1 Try.func5 rfl rfl (fun w hs hk => hR w _ _ ⟨rfl, rfl⟩ hs hk)
end Go.Proofs
set_option linter.unusedVariables false
namespace Go.Proofs
open Go.Sl Go.RowKit
theorem inf3_law08_StmSerial : Try.prog.info? 3 = some Try.t3 := by kernel_rfl
theorem inf46_law08_StmSerial : Try.prog.info? 46 = some Try.t46 := by kernel_rfl
/-! 3 padstone/padstonelaw08.StmSerial -/
def law08_StmSerial.l1 (a2 : List (List (List law06_Op))) (a3 : List Int) (jm : List law06_Op → VM Int) : Nat → (Int × (Mc (List law06_Op) × word_Store)) → Option ((Mc (List law06_Op) × word_Store))
  | 0, _ => none
  | k + 1, (x14_1, qbm_1) => bif decide (x14_1 < (a3.length : Int)) then ((at_ a3 x14_1).bind fun x29 => (stepM jm (fd8 a2) k qbm_1.1 qbm_1.2 x29).bind fun (t31, m32, s33) => law08_StmSerial.l1 a2 a3 jm k (w64 (x14_1 + 1), (m32, s33))) else (some qbm_1)
def law08_StmSerial.l2 (a2 : List (List (List law06_Op))) (mx36 : Mc (List law06_Op) × word_Store) (t47 : List stm_Entry) : Nat → (Int × (List Int) × (List Int)) → Option (Brk Bool ((List Int) × (List Int)))
  | 0, _ => none
  | k + 1, (x18_2, qv39_2, qv43_2) => bif decide (x18_2 < (t47.length : Int)) then ((at_ t47 x18_2).bind fun x54 => bif (decide (x54.Worker < 0)) || (decide ((a2.length : Int) ≤ x54.Worker)) then (some (Brk.ret false)) else (((at_ qv43_2 x54.Worker).bind fun x59 => bif x54.Job != x59 then (some true) else ((at_ a2 x54.Worker).bind fun x62 => some (decide ((x62.length : Int) ≤ x54.Job)))).bind fun j135_3 => bif j135_3 then (some (Brk.ret false)) else ((bif !x54.Spent then ((at_ a2 x54.Worker).bind fun x69 => (at_ x69 x54.Job).bind fun x74 => (VM.run plainI (law06_Do.f k x74) qv39_2).bind fun (t79, s81) => some (w64 (t79.tmod 1000000), s81)) else (some ((-1, qv39_2) : (Int × (List Int))))).bind fun (j20_4, qv39_4) => (toldM mx36.1 x54.Worker).bind fun t85 => bif decide ((t85.length : Int) ≤ x54.Job) then (some (Brk.ret false)) else ((bif x54.Told != j20_4 then (some true) else ((at_ t85 x54.Job).bind fun x93 => some (x93 != j20_4))).bind fun c91 => bif c91 then (some (Brk.ret false)) else ((at_ qv43_2 x54.Worker).bind fun x96 => (at_ qv43_2 x54.Worker).bind fun x98 => law08_StmSerial.l2 a2 mx36 t47 k (w64 (x18_2 + 1), qv39_4, qv43_2.set x54.Worker.toNat (w64 (x96 + 1)))))))) else (some (Brk.nx (qv43_2, qv39_2)))
def law08_StmSerial.l5 (a0 : Int) (qv39_e2 : List Int) (t103 : List Int) : Nat → Int → Option (Brk Bool Unit)
  | 0, _ => none
  | k + 1, x23_5 => bif decide (x23_5 < a0) then ((at_ t103 x23_5).bind fun x108 => (view_Plain_Read.f qv39_e2 x23_5).bind fun t110 => bif x108 != t110 then (some (Brk.ret false)) else (law08_StmSerial.l5 a0 qv39_e2 t103 k (w64 (x23_5 + 1)))) else (some (Brk.nx ()))
def law08_StmSerial.l6 (a2 : List (List (List law06_Op))) (mx36 : Mc (List law06_Op) × word_Store) (qv43_e2 : List Int) : Nat → (Int × Bool) → Option (Brk Bool Bool)
  | 0, _ => none
  | k + 1, (x25_6, x24_6) => bif decide (x25_6 < (a2.length : Int)) then ((toldM mx36.1 x25_6).bind fun t114 => (at_ qv43_e2 x25_6).bind fun x119 => bif (t114.length : Int) != x119 then (some (Brk.ret false)) else ((bif x24_6 then (some true) else ((at_ qv43_e2 x25_6).bind fun x124 => (at_ a2 x25_6).bind fun x126 => some (decide (x124 < (x126.length : Int))))).bind fun j24_7 => law08_StmSerial.l6 a2 mx36 qv43_e2 k (w64 (x25_6 + 1), j24_7))) else (some (Brk.nx x24_6))
def law08_StmSerial.f (k : Nat) (a0 : Int) (a1 : Int) (a2 : List (List (List law06_Op))) (a3 : List Int) : Option (Bool) :=
  (law08_up.f k ).bind fun t1 => (bif ((decide (a0 < 1)) || (decide (20 < a0))) || (decide (a1 < 1)) then (some true) else ((law08_small.f k a2).bind fun t8 => some (!t8))).bind fun c6 => bif c6 || (decide (600 < (a3.length : Int))) then (some t1) else ((word_New.f a0 a1).bind fun (t12, t13) => oE t12 (some false) (fun t12p => bif t13.isSome then (some false) else ((chk (jobsOk k a2)).bind fun _ => (some (law08_jobs_1.f k)).bind fun jm => (newN k a2.length).bind fun ls25 => bif (none : Option Int).isSome then (some false) else ((law08_StmSerial.l1 a2 a3 jm k (0, (newM (List law06_Op) ls25, t12p))).bind fun qbm_e1 => (law08_end.f k jm (fd8 a2) (a2.length : Int) 5000 qbm_e1).bind fun (t35, mx36) => bif !t35 then (some false) else ((mk_ 0 a0).bind fun xs41 => (mk_ 0 (a2.length : Int)).bind fun xs45 => (stm_Machine_Log.f mx36.1.log).bind fun t47 => (law08_StmSerial.l2 a2 mx36 t47 k (0, xs41, xs45)).bind fun o2 => Brk.go o2 (fun r => some r) (fun (qv43_e2, qv39_e2) => (word_Store_Values.f k mx36.2).bind fun t103 => (law08_StmSerial.l5 a0 qv39_e2 t103 k 0).bind fun o5 => Brk.go o5 (fun r => some r) (fun _ => (law08_StmSerial.l6 a2 mx36 qv43_e2 k (0, false)).bind fun o6 => Brk.go o6 (fun r => some r) (fun j24_e6 => (bif t1 then ((law08_marks.f k mx36.2).bind fun t134 => some (t134 == 0)) else (some false)).bind fun c132 => (bif c132 then ((idlesM (fd8 a2) k mx36.1).bind fun t139 => some (t139 == (!j24_e6))) else (some false)).bind fun c137 => some c137))))))))
set_option maxHeartbeats 8000000 in
set_option maxRecDepth 100000 in
theorem law08_StmSerial.ct (k : Nat) (v2 : Value) (v3 : Value) (a0 : Int) (a1 : Int) (a2 : List (List (List law06_Op))) (a3 : List Int) (r0 : Bool) (h : law08_StmSerial.f k a0 a1 a2 a3 = some r0) :
    Ct Try.prog 3 [.int .i64 a0, .int .u32 a1, v2, v3] (fun F => Rd3 ek_law06_Op v2 a2 F ∧ Rd (ekI .i64) v3 a3 F) [] (fun u H' => u = .bool r0 ∧ H' = []) := by
  unfold law08_StmSerial.f at h
  refine Ct.intro (n := 238) Try.func3 rfl rfl rfl ?_
  intro R w0 F hF hR
  obtain ⟨hF2, hF3⟩ := hF
  obtain ⟨vs2, hF2, hl2, hR2⟩ := hF2
  refine S.seq ?_
  refine S.region ?_
  refine SO.v rfl (opv_assign rfl) ?_
  refine SO.nil ?_
  refine S.seq ?_
  refine S.region ?_
  obtain ⟨t1, ht2, h⟩ := opt_bind h
  refine SO.call (pre := []) rfl Try.call5 rfl rfl rfl (law08_up.ct _ _ ht2) trivial ?_
  rintro _ _ ⟨rfl, rfl⟩
  refine SO.v rfl (opv_assign rfl) ?_
  refine SO.nil ?_
  refine S.seq ?_
  refine S.seq ?_
  refine S.region ?_
  refine SO.v rfl (opv_move rfl) ?_
  refine SO.v rfl (opv_lss rfl rfl) ?_
  refine SO.v rfl (opv_move rfl) ?_
  refine SO.cut 3 32 (.bool ((decide (a0 < 1)) || (decide (20 < a0)))) [F] (fun l2 hk2 => ?_) ?_
  · rcases bool_or (decide (a0 < 1)) with b3 | b3
    · refine SO.passF rfl rfl rfl b3 rfl rfl ?_
      refine SO.passF rfl rfl rfl b3 rfl rfl ?_
      refine SO.v rfl (opv_pick_t' b3 rfl rfl) ?_
      exact hk2.fitc (m := 3) rfl (or_t b3) rfl
    refine SO.takeT rfl rfl rfl b3 ?_
    refine SO.v rfl (opv_move rfl) ?_
    refine SO.takeT rfl rfl rfl b3 ?_
    refine SO.v rfl (opv_gtr rfl rfl) ?_
    refine SO.v rfl (opv_pick_f' b3 rfl rfl) ?_
    exact hk2.fitc (m := 3) rfl (or_f b3) rfl
  refine SO.v rfl (opv_move rfl) ?_
  refine SO.cut 3 36 (.bool (((decide (a0 < 1)) || (decide (20 < a0))) || (decide (a1 < 1)))) [F] (fun l2 hk2 => ?_) ?_
  · rcases bool_or ((decide (a0 < 1)) || (decide (20 < a0))) with b4 | b4
    · refine SO.passF rfl rfl rfl b4 rfl rfl ?_
      refine SO.passF rfl rfl rfl b4 rfl rfl ?_
      refine SO.v rfl (opv_pick_t' b4 rfl rfl) ?_
      exact hk2.fitc (m := 3) rfl (or_t b4) rfl
    refine SO.takeT rfl rfl rfl b4 ?_
    refine SO.v rfl (opv_move rfl) ?_
    refine SO.takeT rfl rfl rfl b4 ?_
    refine SO.v rfl (opv_lss rfl rfl) ?_
    refine SO.v rfl (opv_pick_f' b4 rfl rfl) ?_
    exact hk2.fitc (m := 3) rfl (or_f b4) rfl
  refine SO.v rfl (opv_move rfl) ?_
  obtain ⟨c6, hc7, hgk⟩ := opt_bind h
  refine SO.cut 4 41 (.bool c6) [F] (fun l2 hk2 => ?_) ?_
  · clear hgk
    replace h := hc7
    rcases bool_or (((decide (a0 < 1)) || (decide (20 < a0))) || (decide (a1 < 1))) with b5 | b5
    · replace h := cond_t b5 h
      refine SO.passF rfl rfl rfl b5 rfl rfl ?_
      refine SO.passF rfl rfl rfl b5 rfl rfl ?_
      refine SO.passF rfl rfl rfl b5 rfl rfl ?_
      cases h
      refine SO.v rfl (opv_pick_t' b5 rfl rfl) ?_
      exact hk2.fitc (m := 4) rfl (rfl) rfl
    replace h := cond_f b5 h
    refine SO.takeT rfl rfl rfl b5 ?_
    refine SO.v rfl (opv_move rfl) ?_
    refine SO.takeT rfl rfl rfl b5 ?_
    obtain ⟨t8, ht9, h⟩ := opt_bind h
    refine SO.call (pre := []) rfl Try.call6 rfl rfl rfl (law08_small.ct _ v2 _ _ ht9) (Rd3.head ⟨_, hF2, hl2, hR2⟩) ?_
    rintro _ _ ⟨rfl, rfl⟩
    refine SO.takeT rfl rfl rfl b5 ?_
    refine SO.v rfl (opv_not rfl) ?_
    cases h
    refine SO.v rfl (opv_pick_f' b5 rfl rfl) ?_
    exact hk2.fitc (m := 4) rfl (rfl) rfl
  clear hc7
  replace h := hgk
  refine SO.v rfl (opv_move rfl) ?_
  refine SO.cut 4 46 (.bool (c6 || (decide (600 < (a3.length : Int))))) [F] (fun l2 hk2 => ?_) ?_
  · rcases bool_or c6 with b10 | b10
    · refine SO.passF rfl rfl rfl b10 rfl rfl ?_
      refine SO.passF rfl rfl rfl b10 rfl rfl ?_
      refine SO.passF rfl rfl rfl b10 rfl rfl ?_
      refine SO.v rfl (opv_pick_t' b10 rfl rfl) ?_
      exact hk2.fitc (m := 4) rfl (or_t b10) rfl
    refine SO.takeT rfl rfl rfl b10 ?_
    refine SO.v rfl (opv_move rfl) ?_
    refine SO.takeT rfl rfl rfl b10 ?_
    refine SO.v rfl (opv_lenR rfl Try.underlying24 hF3 rfl) ?_
    refine SO.takeT rfl rfl rfl b10 ?_
    refine SO.v rfl (opv_gtr rfl rfl) ?_
    refine SO.v rfl (opv_pick_f' b10 rfl rfl) ?_
    exact hk2.fitc (m := 4) rfl (or_f b10) rfl
  refine SO.nil ?_
  refine S.to (ρ' := [(0, .int .i64 a0), (1, .int .u32 a1), (2, v2), (3, v3), (8, .bool false), (9, .bool t1), (46, .bool (c6 || (decide (600 < (a3.length : Int)))))]) ⟨rfl, rfl, rfl, rfl, rfl, rfl, rfl, trivial⟩ ?_
  rcases bool_or (c6 || (decide (600 < (a3.length : Int)))) with b11 | b11
  · replace h := cond_t b11 h
    refine S.condT rfl b11 ?_
    refine S.seq ?_
    refine S.region ?_
    refine SO.v rfl (opv_move rfl) ?_
    refine SO.v rfl (opv_assign rfl) ?_
    refine SO.nil ?_
    refine S.to (ρ' := [(8, .bool t1)]) ⟨rfl, trivial⟩ ?_
    cases h
    exact S.ret1 Try.func3 rfl rfl (fun w hs hk => hR w _ _ ⟨rfl, rfl⟩ hs hk)
  replace h := cond_f b11 h
  refine S.condF rfl b11 ?_
  refine S.skip ?_
  refine S.seq ?_
  refine S.region ?_
  refine SO.v rfl (opv_move rfl) ?_
  refine SO.v rfl (opv_move rfl) ?_
  obtain ⟨⟨t12, t13⟩, ht14, h⟩ := opt_bind h
  rcases t12 with _ | t12p
  · replace h := oE_n h
    refine SO.call (pre := []) rfl Try.call7 rfl rfl rfl (word_New.ct _ _ _ _ ht14) trivial ?_
    rintro _ _ ⟨rfl, rfl⟩
    refine SO.v rfl (opv_move rfl) ?_
    refine SO.v rfl (opv_extract rfl rfl) ?_
    refine SO.v rfl (opv_extract rfl rfl) ?_
    refine SO.v rfl (opv_assign rfl) ?_
    refine SO.v rfl (opv_assign rfl) ?_
    refine SO.nil ?_
    refine S.to (ρ' := [(0, .int .i64 a0), (2, v2), (3, v3), (8, .bool false), (9, .bool t1), (10, .pointer none), (11, errV 60 t13)]) ⟨rfl, rfl, rfl, rfl, rfl, rfl, rfl, trivial⟩ ?_
    refine S.seq ?_
    refine S.seq ?_
    refine S.region ?_
    refine SO.v rfl (opv_move rfl) ?_
    refine SO.v rfl (opv_eqlPN Try.underlying27 rfl) ?_
    refine SO.v rfl (opv_move rfl) ?_
    refine SO.passF rfl rfl rfl rfl rfl rfl ?_
    refine SO.passF rfl rfl rfl rfl rfl rfl ?_
    refine SO.v rfl (opv_pick_tt rfl rfl) ?_
    refine SO.nil ?_
    refine S.cond_true rfl ?_
    refine S.seq ?_
    refine S.region ?_
    refine SO.v rfl (opv_assign rfl) ?_
    refine SO.nil ?_
    refine S.to (ρ' := [(8, .bool false)]) ⟨rfl, trivial⟩ ?_
    cases h
    exact S.ret1 Try.func3 rfl rfl (fun w hs hk => hR w _ _ ⟨rfl, rfl⟩ hs hk)
  replace h := oE_s h
  refine SO.call (pre := []) rfl Try.call7 rfl rfl rfl (word_New.ct _ _ _ _ ht14) trivial ?_
  rintro _ _ ⟨b15, u16_l, rfl, rfl⟩
  refine SO.b1 ?_
  refine SO.rd fun hr17 => ?_
  refine SO.v rfl (opv_move rfl) ?_
  refine SO.v rfl (opv_extract rfl rfl) ?_
  refine SO.v rfl (opv_extract rfl rfl) ?_
  refine SO.v rfl (opv_assign rfl) ?_
  refine SO.v rfl (opv_assign rfl) ?_
  refine SO.nil ?_
  refine S.to (ρ' := [(0, .int .i64 a0), (2, v2), (3, v3), (8, .bool false), (9, .bool t1), (10, bp b15 0), (11, errV 60 t13)]) ⟨rfl, rfl, rfl, rfl, rfl, rfl, rfl, trivial⟩ ?_
  refine S.seq ?_
  refine S.seq ?_
  refine S.region ?_
  refine SO.v rfl (opv_move rfl) ?_
  refine SO.v rfl (opv_eqlP Try.underlying27 rfl) ?_
  refine SO.v rfl (opv_move rfl) ?_
  refine SO.takeT rfl rfl rfl rfl ?_
  refine SO.v rfl (opv_move rfl) ?_
  refine SO.takeT rfl rfl rfl rfl ?_
  refine SO.v rfl (opv_neqN (e := t13) Try.underlying29 rfl) ?_
  refine SO.v rfl (opv_pick_ff rfl rfl) ?_
  refine SO.nil ?_
  rcases bool_or t13.isSome with b18 | b18
  · replace h := cond_t b18 h
    refine S.condT rfl b18 ?_
    refine S.seq ?_
    refine S.region ?_
    refine SO.v rfl (opv_assign rfl) ?_
    refine SO.nil ?_
    refine S.to (ρ' := [(8, .bool false)]) ⟨rfl, trivial⟩ ?_
    cases h
    refine S.drop ?_
    refine S.drop ?_
    exact S.ret1 Try.func3 rfl rfl (fun w hs hk => hR w _ _ ⟨rfl, rfl⟩ hs hk)
  replace h := cond_f b18 h
  refine S.condF rfl b18 ?_
  refine S.skip ?_
  refine S.seq ?_
  refine S.region ?_
  refine SO.v rfl (opv_move rfl) ?_
  refine SO.v rfl (opv_move rfl) ?_
  obtain ⟨_, hj19, h⟩ := opt_bind h
  obtain ⟨jm, hjm_, h⟩ := opt_bind h
  obtain ⟨vv_, hv1_, hv2_, hv3_⟩ := Rd3.vv (⟨vs2, hF2, hl2, hR2⟩ : Rd3 ek_law06_Op v2 a2 F)
  refine SO.call (pre := []) rfl Try.call9 rfl rfl rfl (jobs8.ct hv2_ (fun i row os e1 e2 => (hv3_ i row os e1 e2).1) k v2 (chk_some hj19)) (Rd2.tail (Rd2.tail (Rd2.head hv1_))) ?_
  rintro v23 _ ⟨_, rfl, rfl⟩
  refine SO.openFeeds fun G21 hG22 => ?_
  obtain ⟨g, hgG24, hrd8⟩ := mkK8 (k := k) hv2_ hv3_ hjm_ G21 hG22
  subst hgG24
  refine SO.rd fun hr20 => ?_
  obtain ⟨ls25, ht26, h⟩ := opt_bind h
  refine SO.b2 ?_
  refine SO.b3 ?_
  refine SO.call (pre := [Box _ _, Own _ _ _ _]) rfl Try.call8 rfl rfl rfl (new8.ct g k b15 u16_l v23 t12p ls25 ht26) (Rd.head hr20) ?_
  rintro _ _ ⟨bm, rfl, rfl⟩
  refine SO.b1 ?_
  refine SO.drop ?_
  refine SO.v rfl (opv_move rfl) ?_
  refine SO.v rfl (opv_extract rfl rfl) ?_
  refine SO.v rfl (opv_extract rfl rfl) ?_
  refine SO.v rfl (opv_assign rfl) ?_
  refine SO.v rfl (opv_assign rfl) ?_
  refine SO.nil ?_
  refine S.to (ρ' := [(0, .int .i64 a0), (2, v2), (3, v3), (8, .bool false), (9, .bool t1), (10, bp b15 0), (12, bp bm 0), (13, errV 60 (none : Option Int))]) ⟨rfl, rfl, rfl, rfl, rfl, rfl, rfl, rfl, trivial⟩ ?_
  refine S.seq ?_
  refine S.seq ?_
  refine S.region ?_
  refine SO.v rfl (opv_move rfl) ?_
  refine SO.v rfl (opv_eqlP Try.underlying32 rfl) ?_
  refine SO.v rfl (opv_move rfl) ?_
  refine SO.takeT rfl rfl rfl rfl ?_
  refine SO.v rfl (opv_move rfl) ?_
  refine SO.takeT rfl rfl rfl rfl ?_
  refine SO.v rfl (opv_neqN (e := (none : Option Int)) Try.underlying29 rfl) ?_
  refine SO.v rfl (opv_pick_ff rfl rfl) ?_
  refine SO.nil ?_
  rcases bool_or ((none : Option Int).isSome) with b27 | b27
  · replace h := cond_t b27 h
    refine S.condT rfl b27 ?_
    refine S.seq ?_
    refine S.region ?_
    refine SO.v rfl (opv_assign rfl) ?_
    refine SO.nil ?_
    refine S.to (ρ' := [(8, .bool false)]) ⟨rfl, trivial⟩ ?_
    cases h
    refine S.drop ?_
    refine S.drop ?_
    exact S.ret1 Try.func3 rfl rfl (fun w hs hk => hR w _ _ ⟨rfl, rfl⟩ hs hk)
  replace h := cond_f b27 h
  refine S.condF rfl b27 ?_
  refine S.skip ?_
  refine S.seq ?_
  refine S.seq ?_
  refine S.region ?_
  refine SO.v rfl (opv_assign rfl) ?_
  refine SO.nil ?_
  refine S.to (ρ' := [(0, .int .i64 a0), (2, v2), (3, v3), (8, .bool false), (9, .bool t1), (10, bp b15 0), (12, bp bm 0), (14, .int .i64 0)]) ⟨rfl, rfl, rfl, rfl, rfl, rfl, rfl, rfl, trivial⟩ ?_
  obtain ⟨qbm_e1, hlp1, h⟩ := opt_bind h
  refine S.b2 ?_
  refine S.b2 ?_
  refine S.b2 ?_
  refine S.to (ρ' := [(0, .int .i64 a0), (2, v2), (3, v3), (8, .bool false), (9, .bool t1), (10, bp b15 0), (12, bp bm 0), (14, .int .i64 0)]) ⟨rfl, rfl, rfl, rfl, rfl, rfl, rfl, rfl, trivial⟩ ?_
  refine S.forloop (X := (Int × (Mc (List law06_Op) × word_Store)) × Unit) (O := (Mc (List law06_Op) × word_Store)) (fun m x => law08_StmSerial.l1 a2 a3 jm m x.1) (fun x => match x with | ((x14_1, qbm_1), _) => [(0, .int .i64 a0), (2, v2), (3, v3), (8, .bool false), (9, .bool t1), (10, bp b15 0), (12, bp bm 0), (14, .int .i64 x14_1)]) (fun x => match x with | ((x14_1, qbm_1), _) => [M8 g bm b15 qbm_1, R8 g.G, F]) (fun Sk => (fun qbm_e1 => ∀ _ : Unit, Sk [(0, .int .i64 a0), (2, v2), (8, .bool false), (9, .bool t1), (10, bp b15 0), (12, bp bm 0)] [M8 g bm b15 qbm_e1, R8 g.G, F])) (fun _ => rfl) ?_ (m := k) (x := ((0, (newM (List law06_Op) ls25, t12p)), ())) hlp1 ?_
  · clear h hlp1
    intro k x o_1 h hK1 ih1
    obtain ⟨⟨x14_1, qbm_1⟩, _⟩ := x
    replace h : law08_StmSerial.l1 a2 a3 jm (k + 1) (x14_1, qbm_1) = some o_1 := h
    first | rw [law08_StmSerial.l1] at h | unfold law08_StmSerial.l1 at h
    refine S.seq ?_
    refine S.seq ?_
    refine S.region ?_
    refine SO.v rfl (opv_move rfl) ?_
    refine SO.v rfl (opv_move rfl) ?_
    refine SO.v rfl (opv_lenR rfl Try.underlying24 hF3 rfl) ?_
    refine SO.v rfl (opv_lss rfl rfl) ?_
    refine SO.nil ?_
    rcases bool_or (decide (x14_1 < (a3.length : Int))) with b28 | b28
    · replace h := cond_t b28 h
      refine S.condT rfl b28 ?_
      refine S.skip ?_
      refine S.seq ?_
      refine S.block ?_
      refine S.region ?_
      refine SO.v rfl (opv_move rfl) ?_
      refine SO.v rfl (opv_move rfl) ?_
      refine SO.v rfl (opv_move rfl) ?_
      obtain ⟨x29, hx30, h⟩ := opt_bind h
      refine SO.v rfl (opv_idx Try.underlying24 Try.sizeOf3 hF3 rfl rfl hx30) ?_
      refine SO.loadI1 (j := 0) rfl Try.isAgg3 (Rd.tail (Rd.tail (Rd.head hF3))) hx30 rfl rfl rfl rfl ?_
      obtain ⟨⟨t31, m32, s33⟩, ht34, h⟩ := opt_bind h
      refine SO.b1 ?_
      refine SO.b1 ?_
      refine SO.call (pre := [M8 _ _ _ _, R8 g.G]) rfl Try.call10 rfl rfl rfl (step8.ct g k bm b15 qbm_1 t31 m32 s33 x29 ht34) (g.fw.mono [] F hrd8) ?_
      rintro _ _ ⟨rfl, rfl⟩
      refine SO.nil ?_
      refine S.to (ρ' := [(0, .int .i64 a0), (2, v2), (3, v3), (8, .bool false), (9, .bool t1), (10, bp b15 0), (12, bp bm 0), (14, .int .i64 x14_1)]) ⟨rfl, rfl, rfl, rfl, rfl, rfl, rfl, rfl, trivial⟩ ?_
      refine S.inBlock ?_
      refine S.region ?_
      refine SO.v rfl (opv_move rfl) ?_
      refine SO.v rfl (opv_add rfl rfl) ?_
      refine SO.v rfl (opv_assign rfl) ?_
      refine SO.nil ?_
      refine S.b2 ?_
      refine S.b2 ?_
      refine S.b2 ?_
      refine S.to ?_ (ih1 ((w64 (x14_1 + 1), (m32, s33)), ()) h)
      exact ⟨rfl, rfl, rfl, rfl, rfl, rfl, rfl, rfl, trivial⟩
    replace h := cond_f b28 h
    refine S.condF rfl b28 ?_
    refine S.exit rfl ?_
    cases h
    refine S.b2 ?_
    refine S.b2 ?_
    refine S.b2 ?_
    refine S.to ?_ (hK1 ())
    exact ⟨rfl, rfl, rfl, rfl, rfl, rfl, trivial⟩
  rintro _
  refine S.seq ?_
  refine S.seq ?_
  refine S.region ?_
  refine SO.v rfl (opv_move rfl) ?_
  refine SO.v rfl (opv_move rfl) ?_
  refine SO.v rfl (opv_len2 rfl Try.underlying23 hF2 hl2 rfl) ?_
  obtain ⟨⟨t35, mx36⟩, ht37, h⟩ := opt_bind h
  refine SO.b1 ?_
  refine SO.b1 ?_
  refine SO.call (pre := [M8 _ _ _ _, R8 g.G]) rfl Try.call11 rfl rfl rfl (end8.ct g k bm b15 qbm_e1 mx36 (a2.length : Int) 5000 t35 ht37) (g.fw.mono [] F hrd8) ?_
  rintro _ _ ⟨rfl, rfl⟩
  refine SO.v rfl (opv_not rfl) ?_
  refine SO.nil ?_
  rcases bool_or (!t35) with b38 | b38
  · replace h := cond_t b38 h
    refine S.condT rfl b38 ?_
    refine S.seq ?_
    refine S.region ?_
    refine SO.v rfl (opv_assign rfl) ?_
    refine SO.nil ?_
    refine S.to (ρ' := [(8, .bool false)]) ⟨rfl, trivial⟩ ?_
    cases h
    refine S.drop ?_
    refine S.drop ?_
    exact S.ret1 Try.func3 rfl rfl (fun w hs hk => hR w _ _ ⟨rfl, rfl⟩ hs hk)
  replace h := cond_f b38 h
  refine S.condF rfl b38 ?_
  refine S.skip ?_
  refine S.seq ?_
  refine S.region ?_
  refine SO.v rfl (opv_move rfl) ?_
  obtain ⟨xs41, hx42, h⟩ := opt_bind h
  refine SO.makeSlice (K := ekI .u64) rfl Try.underlying39 inf46_law08_StmSerial rfl rfl rfl (by decide) rfl rfl rfl hx42 (fun v39 hr40 => ?_)
  refine SO.v rfl (opv_assign rfl) ?_
  refine SO.nil ?_
  refine S.to (ρ' := [(0, .int .i64 a0), (2, v2), (8, .bool false), (9, .bool t1), (10, bp b15 0), (12, bp bm 0), (15, v39)]) ⟨rfl, rfl, rfl, rfl, rfl, rfl, rfl, trivial⟩ ?_
  refine S.seq ?_
  refine S.region ?_
  refine SO.v rfl (opv_move rfl) ?_
  refine SO.v rfl (opv_len2 rfl Try.underlying23 hF2 hl2 rfl) ?_
  obtain ⟨xs45, hx46, h⟩ := opt_bind h
  refine SO.makeSlice (K := ekI .i64) rfl Try.underlying24 inf3_law08_StmSerial rfl rfl rfl (by decide) rfl rfl rfl hx46 (fun v43 hr44 => ?_)
  refine SO.v rfl (opv_assign rfl) ?_
  refine SO.nil ?_
  refine S.seq ?_
  refine S.region ?_
  refine SO.v rfl (opv_move rfl) ?_
  obtain ⟨t47, ht48, h⟩ := opt_bind h
  refine SO.b2 ?_
  refine SO.call (pre := [M8 _ _ _ _]) rfl Try.call12 rfl rfl rfl (log8.ct g bm b15 mx36 t47 ht48) trivial ?_
  rintro v49 _ ⟨_, rfl, rfl⟩
  refine SO.rd fun hr50 => ?_
  refine SO.v rfl (opv_assign rfl) ?_
  refine SO.nil ?_
  refine S.seq ?_
  refine S.seq ?_
  refine S.region ?_
  refine SO.v rfl (opv_assign rfl) ?_
  refine SO.nil ?_
  obtain ⟨o2, hlp2, h⟩ := opt_bind h
  refine S.b5 ?_
  refine S.b5 ?_
  refine S.b5 ?_
  refine S.b5 ?_
  refine S.b5 ?_
  refine S.b5 ?_
  refine S.to (ρ' := [(18, .int .i64 0), (17, v49), (16, v43), (0, .int .i64 a0), (2, v2), (8, .bool false), (9, .bool t1), (10, bp b15 0), (12, bp bm 0), (15, v39)]) ⟨rfl, rfl, rfl, rfl, rfl, rfl, rfl, rfl, rfl, rfl, trivial⟩ ?_
  refine S.forloop (X := (Int × (List Int) × (List Int)) × Unit) (O := Brk Bool ((List Int) × (List Int))) (fun m x => law08_StmSerial.l2 a2 mx36 t47 m x.1) (fun x => match x with | ((x18_2, qv39_2, qv43_2), _) => [(18, .int .i64 x18_2), (17, v49), (16, v43), (0, .int .i64 a0), (2, v2), (8, .bool false), (9, .bool t1), (10, bp b15 0), (12, bp bm 0), (15, v39)]) (fun x => match x with | ((x18_2, qv39_2, qv43_2), _) => [Own 44 ek_stm_Entry v49 t47, M8 g bm b15 mx36, Own 3 (ekI .i64) v43 qv43_2, Own 46 (ekI .u64) v39 qv39_2, R8 g.G, F]) (fun Sk o' => (∀ r', o' = Brk.ret r' → some r' = some r0) ∧ ∀ j : ((List Int) × (List Int)), match j with | (qv43_e2, qv39_e2) => ∀ _ : Unit, o' = Brk.nx (qv43_e2, qv39_e2) → Sk [(0, .int .i64 a0), (2, v2), (8, .bool false), (9, .bool t1), (10, bp b15 0), (12, bp bm 0), (15, v39), (16, v43)] [Own 44 ek_stm_Entry v49 t47, M8 g bm b15 mx36, Own 3 (ekI .i64) v43 qv43_e2, Own 46 (ekI .u64) v39 qv39_e2, R8 g.G, F]) (fun _ => rfl) ?_ (m := k) (x := ((0, xs41, xs45), ())) hlp2 ?_
  · clear h hlp2
    intro k x o_2 h hK2 ih2
    obtain ⟨⟨x18_2, qv39_2, qv43_2⟩, _⟩ := x
    replace h : law08_StmSerial.l2 a2 mx36 t47 (k + 1) (x18_2, qv39_2, qv43_2) = some o_2 := h
    first | rw [law08_StmSerial.l2] at h | unfold law08_StmSerial.l2 at h
    refine S.b2 ?_
    refine S.rd fun hr51 => ?_
    refine S.b3 ?_
    refine S.rd fun hr52 => ?_
    refine S.seq ?_
    refine S.seq ?_
    refine S.region ?_
    refine SO.v rfl (opv_move rfl) ?_
    refine SO.v rfl (opv_move rfl) ?_
    refine SO.v rfl (opv_lenR rfl Try.underlying41 hr50 rfl) ?_
    refine SO.v rfl (opv_lss rfl rfl) ?_
    refine SO.nil ?_
    rcases bool_or (decide (x18_2 < (t47.length : Int))) with b53 | b53
    · replace h := cond_t b53 h
      refine S.condT rfl b53 ?_
      refine S.skip ?_
      refine S.seq ?_
      refine S.block ?_
      refine S.seq ?_
      refine S.region ?_
      refine SO.v rfl (opv_move rfl) ?_
      refine SO.v rfl (opv_move rfl) ?_
      obtain ⟨x54, hx55, h⟩ := opt_bind h
      refine SO.v rfl (opv_idx Try.underlying41 Try.sizeOf44 hr50 rfl rfl hx55) ?_
      refine SO.loadIN rfl Try.isAgg44 Try.sizeOf44 (Rd.tail (Rd.tail (Rd.head hr50))) hx55 rfl rfl rfl ?_
      refine SO.alloc rfl Try.zeroValue44 rfl (fun b56 => ?_)
      refine SO.storeN Try.sizeOf44 rfl rfl rfl rfl rfl rfl ?_
      refine SO.nil ?_
      refine S.to (ρ' := [(18, .int .i64 x18_2), (17, v49), (16, v43), (0, .int .i64 a0), (2, v2), (8, .bool false), (9, .bool t1), (10, bp b15 0), (12, bp bm 0), (15, v39), (19, bp b56 0)]) ⟨rfl, rfl, rfl, rfl, rfl, rfl, rfl, rfl, rfl, rfl, rfl, trivial⟩ ?_
      refine S.seq ?_
      refine S.seq ?_
      refine S.region ?_
      refine SO.v rfl (opv_fieldAddr Try.underlying44 rfl Try.sizeOf3 rfl rfl) ?_
      refine SO.load1 rfl Try.isAgg3 rfl rfl ?_
      refine SO.v rfl (opv_lss rfl rfl) ?_
      refine SO.v rfl (opv_move rfl) ?_
      refine SO.cut 6 116 (.bool ((decide (x54.Worker < 0)) || (decide ((a2.length : Int) ≤ x54.Worker)))) [Box b56 [.int .i64 x54.Worker, .int .i64 x54.Job, .int .i64 x54.Told, .bool x54.Spent], Own 46 (ekI .u64) v39 qv39_2, Own 3 (ekI .i64) v43 qv43_2, Own 44 ek_stm_Entry v49 t47, M8 g bm b15 mx36, R8 g.G, F] (fun l2 hk2 => ?_) ?_
      · rcases bool_or (decide (x54.Worker < 0)) with b57 | b57
        · refine SO.passF rfl rfl rfl b57 rfl rfl ?_
          refine SO.passF rfl rfl rfl b57 rfl rfl ?_
          refine SO.passF rfl rfl rfl b57 rfl rfl ?_
          refine SO.passF rfl rfl rfl b57 rfl rfl ?_
          refine SO.passF rfl rfl rfl b57 rfl rfl ?_
          refine SO.v rfl (opv_pick_t' b57 rfl rfl) ?_
          refine SO.b6 ?_
          refine SO.b6 ?_
          refine SO.b6 ?_
          refine SO.b6 ?_
          refine SO.b6 ?_
          refine SO.b6 ?_
          refine SO.b6 ?_
          exact hk2.fitc (m := 6) rfl (or_t b57) rfl
        refine SO.takeT rfl rfl rfl b57 ?_
        refine SO.v rfl (opv_fieldAddr Try.underlying44 rfl Try.sizeOf3 rfl rfl) ?_
        refine SO.takeT rfl rfl rfl b57 ?_
        refine SO.load1 rfl Try.isAgg3 rfl rfl ?_
        refine SO.takeT rfl rfl rfl b57 ?_
        refine SO.v rfl (opv_move rfl) ?_
        refine SO.takeT rfl rfl rfl b57 ?_
        refine SO.v rfl (opv_len2 rfl Try.underlying23 hF2 hl2 rfl) ?_
        refine SO.takeT rfl rfl rfl b57 ?_
        refine SO.v rfl (opv_geq rfl rfl) ?_
        refine SO.v rfl (opv_pick_f' b57 rfl rfl) ?_
        refine SO.b6 ?_
        refine SO.b6 ?_
        refine SO.b6 ?_
        refine SO.b6 ?_
        refine SO.b6 ?_
        refine SO.b6 ?_
        refine SO.b6 ?_
        exact hk2.fitc (m := 6) rfl (or_f b57) rfl
      refine SO.nil ?_
      rcases bool_or ((decide (x54.Worker < 0)) || (decide ((a2.length : Int) ≤ x54.Worker))) with b58 | b58
      · replace h := cond_t b58 h
        refine S.condT rfl b58 ?_
        refine S.seq ?_
        refine S.region ?_
        refine SO.v rfl (opv_assign rfl) ?_
        refine SO.nil ?_
        refine S.to (ρ' := [(8, .bool false)]) ⟨rfl, trivial⟩ ?_
        cases h
        replace h := hK2.1 _ rfl
        cases h
        refine S.drop ?_
        refine S.drop ?_
        refine S.drop ?_
        refine S.drop ?_
        refine S.drop ?_
        refine S.drop ?_
        exact S.ret1 Try.func3 rfl rfl (fun w hs hk => hR w _ _ ⟨rfl, rfl⟩ hs hk)
      replace h := cond_f b58 h
      refine S.condF rfl b58 ?_
      refine S.skip ?_
      refine S.seq ?_
      refine S.seq ?_
      obtain ⟨j135_3, hC3, hJ3⟩ := opt_bind h
      clear h
      refine S.cutP (G := Unit) (fun _ => True) (fun _ => [(0, .int .i64 a0), (2, v2), (8, .bool false), (9, .bool t1), (10, bp b15 0), (12, bp bm 0), (15, v39), (16, v43), (17, v49), (18, .int .i64 x18_2), (19, bp b56 0), (135, .bool j135_3)]) (fun _ => [Box b56 [.int .i64 x54.Worker, .int .i64 x54.Job, .int .i64 x54.Told, .bool x54.Spent], Own 46 (ekI .u64) v39 qv39_2, Own 3 (ekI .i64) v43 qv43_2, Own 44 ek_stm_Entry v49 t47, M8 g bm b15 mx36, R8 g.G, F]) (fun hk3 => ?_) ?_
      · replace h := hC3
        obtain ⟨x59, hx60, h⟩ := opt_bind h
        rcases bool_or (x54.Job != x59) with b61 | b61
        · replace h := cond_t b61 h
          refine S.draw2 (Y := fun Q => ∃ (_ _ _ _ _ _ _ _ _ _ _ : Unit), Q [(19, bp b56 0), (16, v43), (2, v2), (18, .int .i64 x18_2), (17, v49), (0, .int .i64 a0), (8, .bool false), (9, .bool t1), (10, bp b15 0), (12, bp bm 0), (15, v39)] [Box b56 [.int .i64 x54.Worker, .int .i64 x54.Job, .int .i64 x54.Told, .bool x54.Spent], Own 46 (ekI .u64) v39 qv39_2, Own 3 (ekI .i64) v43 qv43_2, Own 44 ek_stm_Entry v49 t47, M8 g bm b15 mx36, R8 g.G, F]) (Z := fun Q => ∀ (_ _ _ _ _ _ _ _ _ _ _ _ : Unit), Q [(18, .int .i64 x18_2), (17, v49), (0, .int .i64 a0), (8, .bool false), (9, .bool t1), (10, bp b15 0), (12, bp bm 0), (15, v39), (16, v43), (2, v2), (19, bp b56 0), (135, .bool true)] [Box b56 [.int .i64 x54.Worker, .int .i64 x54.Job, .int .i64 x54.Told, .bool x54.Spent], Own 46 (ekI .u64) v39 qv39_2, Own 3 (ekI .i64) v43 qv43_2, Own 44 ek_stm_Entry v49 t47, M8 g bm b15 mx36, R8 g.G, F]) (T := [tS 19 (bp b56 0), tS 16 (v43), tS 2 (v2), tE [(18, .int .i64 x18_2), (17, v49), (0, .int .i64 a0), (8, .bool false), (9, .bool t1), (10, bp b15 0), (12, bp bm 0), (15, v39)], tR (Box b56 [.int .i64 x54.Worker, .int .i64 x54.Job, .int .i64 x54.Told, .bool x54.Spent]), tR (Own 46 (ekI .u64) v39 qv39_2), tR (Own 3 (ekI .i64) v43 qv43_2), tR (Own 44 ek_stm_Entry v49 t47), tR (M8 g bm b15 mx36), tR (R8 g.G), tR (F), tS 117 (bp b56 1), tS 118 (.int .i64 x54.Job), tS 119 (v43), tS 120 (bp b56 0), tS 121 (.int .i64 x54.Worker), tS 122 (idxp v43 (x54.Worker.toNat * (ekI .i64).sz)), tS 123 (.int .i64 x59), tS 124 (.bool (x54.Job != x59)), tS 125 (.bool (x54.Job != x59)), tS 126 (undef), tS 127 (undef), tS 128 (undef), tS 129 (undef), tS 130 (undef), tS 131 (undef), tS 132 (undef), tS 133 (undef), tS 134 (undef), tS 135 (.bool true)]) (D := [⟨[0], [], [11]⟩, ⟨[11, 4], [], [12]⟩, ⟨[1], [], [13]⟩, ⟨[0], [], [14]⟩, ⟨[14, 4], [], [15]⟩, ⟨[13, 15, 6], [], [16]⟩, ⟨[16, 6], [], [17]⟩, ⟨[12, 17], [], [18]⟩, ⟨[18], [], [19]⟩, ⟨[19], [], [20]⟩, ⟨[19], [], [21]⟩, ⟨[19], [], [22]⟩, ⟨[19], [], [23]⟩, ⟨[19], [], [24]⟩, ⟨[19], [], [25]⟩, ⟨[19], [], [26]⟩, ⟨[19], [], [27]⟩, ⟨[19], [], [28]⟩, ⟨[19, 28], [], [29]⟩]) (ini := [0, 1, 2, 3, 4, 5, 6, 7, 8, 9, 10]) (fin := [3, 1, 2, 0, 29, 4, 5, 6, 7, 8, 9, 10]) (bf := [[], [0], [], [], [3], [2, 3, 4], [2, 3, 4, 5], [0, 1, 2, 3, 4, 5, 6], [0, 1, 2, 3, 4, 5, 6, 7], [0, 1, 2, 3, 4, 5, 6, 7, 8], [0, 1, 2, 3, 4, 5, 6, 7, 8, 9], [0, 1, 2, 3, 4, 5, 6, 7, 8], [0, 1, 2, 3, 4, 5, 6, 7, 8], [0, 1, 2, 3, 4, 5, 6, 7, 8, 12], [0, 1, 2, 3, 4, 5, 6, 7, 8, 11, 12, 13], [0, 1, 2, 3, 4, 5, 6, 7, 8, 11, 12, 13, 14], [0, 1, 2, 3, 4, 5, 6, 7, 8, 11, 12, 13, 14, 15], [0, 1, 2, 3, 4, 5, 6, 7, 8, 9, 10, 11, 12, 13, 14, 15, 16], [0, 1, 2, 3, 4, 5, 6, 7, 8, 9, 10, 11, 12, 13, 14, 15, 16, 17]]) (by kernel_rfl) (by kernel_rfl) (fun Q => by kernel_rfl) (fun x w h1 h2 => ⟨(), (), (), (), (), (), (), (), (), (), (), EnvAll.of h1 ⟨rfl, rfl, rfl, rfl, rfl, rfl, rfl, rfl, rfl, rfl, rfl, trivial⟩, h2⟩) (fun Q => by kernel_rfl) ⟨?_, ?_, ?_, ?_, ?_, ?_, ?_, ?_, ?_, ?_, ?_, ?_, ?_, ?_, ?_, ?_, ?_, ?_, ?_, trivial⟩ ?_
          · rintro Fr _
            refine SO.v rfl (opv_fieldAddr Try.underlying44 rfl Try.sizeOf3 rfl rfl) ?_
            exact SO.nilZ fun a w h1 h2 h3 h4 h5 => PZ.of h1 h3 h5 (.cons () (.cons () (.nil ⟨EnvAll.of h2 ⟨rfl, rfl, trivial⟩, h4⟩)))
          · rintro Fr _ _
            refine SO.load1 rfl Try.isAgg3 rfl rfl ?_
            exact SO.nilZ fun a w h1 h2 h3 h4 h5 => PZ.of h1 h3 h5 (.cons () (.cons () (.cons () (.nil ⟨EnvAll.of h2 ⟨rfl, rfl, trivial⟩, h4⟩))))
          · rintro Fr _
            refine SO.v rfl (opv_move rfl) ?_
            exact SO.nilZ fun a w h1 h2 h3 h4 h5 => PZ.of h1 h3 h5 (.cons () (.cons () (.nil ⟨EnvAll.of h2 ⟨rfl, rfl, trivial⟩, h4⟩)))
          · rintro Fr _
            refine SO.v rfl (opv_fieldAddr Try.underlying44 rfl Try.sizeOf3 rfl rfl) ?_
            exact SO.nilZ fun a w h1 h2 h3 h4 h5 => PZ.of h1 h3 h5 (.cons () (.cons () (.nil ⟨EnvAll.of h2 ⟨rfl, rfl, trivial⟩, h4⟩)))
          · rintro Fr _ _
            refine SO.load1 rfl Try.isAgg3 rfl rfl ?_
            exact SO.nilZ fun a w h1 h2 h3 h4 h5 => PZ.of h1 h3 h5 (.cons () (.cons () (.cons () (.nil ⟨EnvAll.of h2 ⟨rfl, rfl, trivial⟩, h4⟩))))
          · rintro Fr _ _ _
            refine SO.v rfl (opv_idx Try.underlying24 Try.sizeOf3 hr51 rfl rfl hx60) ?_
            exact SO.nilZ fun a w h1 h2 h3 h4 h5 => PZ.of h1 h3 h5 (.cons () (.cons () (.cons () (.cons () (.nil ⟨EnvAll.of h2 ⟨rfl, rfl, rfl, trivial⟩, h4⟩)))))
          · rintro Fr _ _
            refine SO.loadI1 (j := 0) rfl Try.isAgg3 (Rd.head hr51) hx60 rfl rfl rfl rfl ?_
            exact SO.nilZ fun a w h1 h2 h3 h4 h5 => PZ.of h1 h3 h5 (.cons () (.cons () (.cons () (.nil ⟨EnvAll.of h2 ⟨rfl, rfl, trivial⟩, h4⟩))))
          · rintro Fr _ _
            refine SO.v rfl (opv_neq rfl rfl) ?_
            exact SO.nilZ fun a w h1 h2 h3 h4 h5 => PZ.of h1 h3 h5 (.cons () (.cons () (.cons () (.nil ⟨EnvAll.of h2 ⟨rfl, rfl, rfl, trivial⟩, h4⟩))))
          · rintro Fr _
            refine SO.v rfl (opv_move rfl) ?_
            exact SO.nilZ fun a w h1 h2 h3 h4 h5 => PZ.of h1 h3 h5 (.cons () (.cons () (.nil ⟨EnvAll.of h2 ⟨rfl, rfl, trivial⟩, h4⟩)))
          · rintro Fr _
            refine SO.passF rfl rfl rfl b61 rfl rfl ?_
            exact SO.nilZ fun a w h1 h2 h3 h4 h5 => PZ.of h1 h3 h5 (.cons () (.cons () (.nil ⟨EnvAll.of h2 ⟨rfl, rfl, trivial⟩, h4⟩)))
          · rintro Fr _
            refine SO.passF rfl rfl rfl b61 rfl rfl ?_
            exact SO.nilZ fun a w h1 h2 h3 h4 h5 => PZ.of h1 h3 h5 (.cons () (.cons () (.nil ⟨EnvAll.of h2 ⟨rfl, rfl, trivial⟩, h4⟩)))
          · rintro Fr _
            refine SO.passF rfl rfl rfl b61 rfl rfl ?_
            exact SO.nilZ fun a w h1 h2 h3 h4 h5 => PZ.of h1 h3 h5 (.cons () (.cons () (.nil ⟨EnvAll.of h2 ⟨rfl, rfl, trivial⟩, h4⟩)))
          · rintro Fr _
            refine SO.passF rfl rfl rfl b61 rfl rfl ?_
            exact SO.nilZ fun a w h1 h2 h3 h4 h5 => PZ.of h1 h3 h5 (.cons () (.cons () (.nil ⟨EnvAll.of h2 ⟨rfl, rfl, trivial⟩, h4⟩)))
          · rintro Fr _
            refine SO.passF rfl rfl rfl b61 rfl rfl ?_
            exact SO.nilZ fun a w h1 h2 h3 h4 h5 => PZ.of h1 h3 h5 (.cons () (.cons () (.nil ⟨EnvAll.of h2 ⟨rfl, rfl, trivial⟩, h4⟩)))
          · rintro Fr _
            refine SO.passF rfl rfl rfl b61 rfl rfl ?_
            exact SO.nilZ fun a w h1 h2 h3 h4 h5 => PZ.of h1 h3 h5 (.cons () (.cons () (.nil ⟨EnvAll.of h2 ⟨rfl, rfl, trivial⟩, h4⟩)))
          · rintro Fr _
            refine SO.passF rfl rfl rfl b61 rfl rfl ?_
            exact SO.nilZ fun a w h1 h2 h3 h4 h5 => PZ.of h1 h3 h5 (.cons () (.cons () (.nil ⟨EnvAll.of h2 ⟨rfl, rfl, trivial⟩, h4⟩)))
          · rintro Fr _
            refine SO.passF rfl rfl rfl b61 rfl rfl ?_
            exact SO.nilZ fun a w h1 h2 h3 h4 h5 => PZ.of h1 h3 h5 (.cons () (.cons () (.nil ⟨EnvAll.of h2 ⟨rfl, rfl, trivial⟩, h4⟩)))
          · rintro Fr _
            refine SO.passF rfl rfl rfl b61 rfl rfl ?_
            exact SO.nilZ fun a w h1 h2 h3 h4 h5 => PZ.of h1 h3 h5 (.cons () (.cons () (.nil ⟨EnvAll.of h2 ⟨rfl, rfl, trivial⟩, h4⟩)))
          · rintro Fr _ _
            refine SO.v rfl (opv_pick_t' b61 rfl rfl) ?_
            exact SO.nilZ fun a w h1 h2 h3 h4 h5 => PZ.of h1 h3 h5 (.cons () (.cons () (.cons () (.nil ⟨EnvAll.of h2 ⟨rfl, rfl, rfl, trivial⟩, h4⟩))))
          rintro _ _ _ _ _ _ _ _ _ _ _ _
          refine S.to (ρ' := [(18, .int .i64 x18_2), (17, v49), (0, .int .i64 a0), (8, .bool false), (9, .bool t1), (10, bp b15 0), (12, bp bm 0), (15, v39), (16, v43), (2, v2), (19, bp b56 0), (135, .bool true)]) ⟨rfl, rfl, rfl, rfl, rfl, rfl, rfl, rfl, rfl, rfl, rfl, rfl, trivial⟩ ?_
          cases h
          refine S.b6 ?_
          refine S.b6 ?_
          refine S.b6 ?_
          refine S.b6 ?_
          refine S.b6 ?_
          refine S.b6 ?_
          refine S.b6 ?_
          refine S.to ?_ (hk3 () trivial)
          exact ⟨rfl, rfl, rfl, rfl, rfl, rfl, rfl, rfl, rfl, rfl, rfl, rfl, trivial⟩
        replace h := cond_f b61 h
        obtain ⟨x62, hx63, h⟩ := opt_bind h
        obtain ⟨y64, hy65, hr66⟩ := Rd3.at_ hl2 hR2 hx63
        obtain ⟨vs166, hF166, hl166, hR166⟩ := hr66
        refine S.draw2 (Y := fun Q => ∃ (_ _ _ _ _ _ _ _ _ _ _ : Unit), Q [(19, bp b56 0), (16, v43), (2, v2), (18, .int .i64 x18_2), (17, v49), (0, .int .i64 a0), (8, .bool false), (9, .bool t1), (10, bp b15 0), (12, bp bm 0), (15, v39)] [Box b56 [.int .i64 x54.Worker, .int .i64 x54.Job, .int .i64 x54.Told, .bool x54.Spent], Own 46 (ekI .u64) v39 qv39_2, Own 3 (ekI .i64) v43 qv43_2, Own 44 ek_stm_Entry v49 t47, M8 g bm b15 mx36, R8 g.G, F]) (Z := fun Q => ∀ (_ _ _ _ _ _ _ _ _ _ _ _ : Unit), Q [(18, .int .i64 x18_2), (17, v49), (0, .int .i64 a0), (8, .bool false), (9, .bool t1), (10, bp b15 0), (12, bp bm 0), (15, v39), (16, v43), (2, v2), (19, bp b56 0), (135, .bool (decide ((x62.length : Int) ≤ x54.Job)))] [Box b56 [.int .i64 x54.Worker, .int .i64 x54.Job, .int .i64 x54.Told, .bool x54.Spent], Own 46 (ekI .u64) v39 qv39_2, Own 3 (ekI .i64) v43 qv43_2, Own 44 ek_stm_Entry v49 t47, M8 g bm b15 mx36, R8 g.G, F]) (T := [tS 19 (bp b56 0), tS 16 (v43), tS 2 (v2), tE [(18, .int .i64 x18_2), (17, v49), (0, .int .i64 a0), (8, .bool false), (9, .bool t1), (10, bp b15 0), (12, bp bm 0), (15, v39)], tR (Box b56 [.int .i64 x54.Worker, .int .i64 x54.Job, .int .i64 x54.Told, .bool x54.Spent]), tR (Own 46 (ekI .u64) v39 qv39_2), tR (Own 3 (ekI .i64) v43 qv43_2), tR (Own 44 ek_stm_Entry v49 t47), tR (M8 g bm b15 mx36), tR (R8 g.G), tR (F), tS 117 (bp b56 1), tS 118 (.int .i64 x54.Job), tS 119 (v43), tS 120 (bp b56 0), tS 121 (.int .i64 x54.Worker), tS 122 (idxp v43 (x54.Worker.toNat * (ekI .i64).sz)), tS 123 (.int .i64 x59), tS 124 (.bool (x54.Job != x59)), tS 125 (.bool (x54.Job != x59)), tS 126 (bp b56 1), tS 127 (.int .i64 x54.Job), tS 128 (v2), tS 129 (bp b56 0), tS 130 (.int .i64 x54.Worker), tS 131 (idxp v2 (x54.Worker.toNat * ekS.sz)), tS 132 (y64.1), tS 133 (.int .i64 (x62.length : Int)), tS 134 (.bool (decide ((x62.length : Int) ≤ x54.Job))), tS 135 (.bool (decide ((x62.length : Int) ≤ x54.Job)))]) (D := [⟨[0], [], [11]⟩, ⟨[11, 4], [], [12]⟩, ⟨[1], [], [13]⟩, ⟨[0], [], [14]⟩, ⟨[14, 4], [], [15]⟩, ⟨[13, 15, 6], [], [16]⟩, ⟨[16, 6], [], [17]⟩, ⟨[12, 17], [], [18]⟩, ⟨[18], [], [19]⟩, ⟨[0, 19], [], [20]⟩, ⟨[19, 20, 4], [], [21]⟩, ⟨[2, 19], [], [22]⟩, ⟨[0, 19], [], [23]⟩, ⟨[19, 23, 4], [], [24]⟩, ⟨[19, 22, 24, 10], [], [25]⟩, ⟨[19, 25, 10], [], [26]⟩, ⟨[19, 26, 10], [], [27]⟩, ⟨[19, 21, 27], [], [28]⟩, ⟨[19, 28], [], [29]⟩]) (ini := [0, 1, 2, 3, 4, 5, 6, 7, 8, 9, 10]) (fin := [3, 1, 2, 0, 29, 4, 5, 6, 7, 8, 9, 10]) (bf := [[], [0], [], [], [3], [2, 3, 4], [2, 3, 4, 5], [0, 1, 2, 3, 4, 5, 6], [0, 1, 2, 3, 4, 5, 6, 7], [0, 1, 2, 3, 4, 5, 6, 7, 8], [0, 1, 2, 3, 4, 5, 6, 7, 8, 9], [0, 1, 2, 3, 4, 5, 6, 7, 8], [0, 1, 2, 3, 4, 5, 6, 7, 8], [0, 1, 2, 3, 4, 5, 6, 7, 8, 12], [0, 1, 2, 3, 4, 5, 6, 7, 8, 11, 12, 13], [0, 1, 2, 3, 4, 5, 6, 7, 8, 11, 12, 13, 14], [0, 1, 2, 3, 4, 5, 6, 7, 8, 11, 12, 13, 14, 15], [0, 1, 2, 3, 4, 5, 6, 7, 8, 9, 10, 11, 12, 13, 14, 15, 16], [0, 1, 2, 3, 4, 5, 6, 7, 8, 9, 10, 11, 12, 13, 14, 15, 16, 17]]) (by kernel_rfl) (by kernel_rfl) (fun Q => by kernel_rfl) (fun x w h1 h2 => ⟨(), (), (), (), (), (), (), (), (), (), (), EnvAll.of h1 ⟨rfl, rfl, rfl, rfl, rfl, rfl, rfl, rfl, rfl, rfl, rfl, trivial⟩, h2⟩) (fun Q => by kernel_rfl) ⟨?_, ?_, ?_, ?_, ?_, ?_, ?_, ?_, ?_, ?_, ?_, ?_, ?_, ?_, ?_, ?_, ?_, ?_, ?_, trivial⟩ ?_
        · rintro Fr _
          refine SO.v rfl (opv_fieldAddr Try.underlying44 rfl Try.sizeOf3 rfl rfl) ?_
          exact SO.nilZ fun a w h1 h2 h3 h4 h5 => PZ.of h1 h3 h5 (.cons () (.cons () (.nil ⟨EnvAll.of h2 ⟨rfl, rfl, trivial⟩, h4⟩)))
        · rintro Fr _ _
          refine SO.load1 rfl Try.isAgg3 rfl rfl ?_
          exact SO.nilZ fun a w h1 h2 h3 h4 h5 => PZ.of h1 h3 h5 (.cons () (.cons () (.cons () (.nil ⟨EnvAll.of h2 ⟨rfl, rfl, trivial⟩, h4⟩))))
        · rintro Fr _
          refine SO.v rfl (opv_move rfl) ?_
          exact SO.nilZ fun a w h1 h2 h3 h4 h5 => PZ.of h1 h3 h5 (.cons () (.cons () (.nil ⟨EnvAll.of h2 ⟨rfl, rfl, trivial⟩, h4⟩)))
        · rintro Fr _
          refine SO.v rfl (opv_fieldAddr Try.underlying44 rfl Try.sizeOf3 rfl rfl) ?_
          exact SO.nilZ fun a w h1 h2 h3 h4 h5 => PZ.of h1 h3 h5 (.cons () (.cons () (.nil ⟨EnvAll.of h2 ⟨rfl, rfl, trivial⟩, h4⟩)))
        · rintro Fr _ _
          refine SO.load1 rfl Try.isAgg3 rfl rfl ?_
          exact SO.nilZ fun a w h1 h2 h3 h4 h5 => PZ.of h1 h3 h5 (.cons () (.cons () (.cons () (.nil ⟨EnvAll.of h2 ⟨rfl, rfl, trivial⟩, h4⟩))))
        · rintro Fr _ _ _
          refine SO.v rfl (opv_idx Try.underlying24 Try.sizeOf3 hr51 rfl rfl hx60) ?_
          exact SO.nilZ fun a w h1 h2 h3 h4 h5 => PZ.of h1 h3 h5 (.cons () (.cons () (.cons () (.cons () (.nil ⟨EnvAll.of h2 ⟨rfl, rfl, rfl, trivial⟩, h4⟩)))))
        · rintro Fr _ _
          refine SO.loadI1 (j := 0) rfl Try.isAgg3 (Rd.head hr51) hx60 rfl rfl rfl rfl ?_
          exact SO.nilZ fun a w h1 h2 h3 h4 h5 => PZ.of h1 h3 h5 (.cons () (.cons () (.cons () (.nil ⟨EnvAll.of h2 ⟨rfl, rfl, trivial⟩, h4⟩))))
        · rintro Fr _ _
          refine SO.v rfl (opv_neq rfl rfl) ?_
          exact SO.nilZ fun a w h1 h2 h3 h4 h5 => PZ.of h1 h3 h5 (.cons () (.cons () (.cons () (.nil ⟨EnvAll.of h2 ⟨rfl, rfl, rfl, trivial⟩, h4⟩))))
        · rintro Fr _
          refine SO.v rfl (opv_move rfl) ?_
          exact SO.nilZ fun a w h1 h2 h3 h4 h5 => PZ.of h1 h3 h5 (.cons () (.cons () (.nil ⟨EnvAll.of h2 ⟨rfl, rfl, trivial⟩, h4⟩)))
        · rintro Fr _ _
          refine SO.takeT rfl rfl rfl b61 ?_
          refine SO.v rfl (opv_fieldAddr Try.underlying44 rfl Try.sizeOf3 rfl rfl) ?_
          exact SO.nilZ fun a w h1 h2 h3 h4 h5 => PZ.of h1 h3 h5 (.cons () (.cons () (.cons () (.nil ⟨EnvAll.of h2 ⟨rfl, rfl, rfl, trivial⟩, h4⟩))))
        · rintro Fr _ _ _
          refine SO.takeT rfl rfl rfl b61 ?_
          refine SO.load1 rfl Try.isAgg3 rfl rfl ?_
          exact SO.nilZ fun a w h1 h2 h3 h4 h5 => PZ.of h1 h3 h5 (.cons () (.cons () (.cons () (.cons () (.nil ⟨EnvAll.of h2 ⟨rfl, rfl, rfl, trivial⟩, h4⟩)))))
        · rintro Fr _ _
          refine SO.takeT rfl rfl rfl b61 ?_
          refine SO.v rfl (opv_move rfl) ?_
          exact SO.nilZ fun a w h1 h2 h3 h4 h5 => PZ.of h1 h3 h5 (.cons () (.cons () (.cons () (.nil ⟨EnvAll.of h2 ⟨rfl, rfl, rfl, trivial⟩, h4⟩))))
        · rintro Fr _ _
          refine SO.takeT rfl rfl rfl b61 ?_
          refine SO.v rfl (opv_fieldAddr Try.underlying44 rfl Try.sizeOf3 rfl rfl) ?_
          exact SO.nilZ fun a w h1 h2 h3 h4 h5 => PZ.of h1 h3 h5 (.cons () (.cons () (.cons () (.nil ⟨EnvAll.of h2 ⟨rfl, rfl, rfl, trivial⟩, h4⟩))))
        · rintro Fr _ _ _
          refine SO.takeT rfl rfl rfl b61 ?_
          refine SO.load1 rfl Try.isAgg3 rfl rfl ?_
          exact SO.nilZ fun a w h1 h2 h3 h4 h5 => PZ.of h1 h3 h5 (.cons () (.cons () (.cons () (.cons () (.nil ⟨EnvAll.of h2 ⟨rfl, rfl, rfl, trivial⟩, h4⟩)))))
        · rintro Fr _ _ _ _
          refine SO.takeT rfl rfl rfl b61 ?_
          refine SO.v rfl (opv_idx Try.underlying23 Try.sizeOf45 hF2 rfl rfl hy65) ?_
          exact SO.nilZ fun a w h1 h2 h3 h4 h5 => PZ.of2 (Y := fun Q => ∃ (_ _ _ _ _ : Unit), Q [(125, .bool (x54.Job != x59)), (128, v2), (130, .int .i64 x54.Worker), (131, idxp v2 (x54.Worker.toNat * ekS.sz))] [F]) (fun Q => by kernel_rfl) h1 h3 h5 ⟨(), (), (), (), (), EnvAll.of h2 ⟨rfl, rfl, rfl, rfl, trivial⟩, h4⟩
        · rintro Fr _ _ _
          refine SO.takeT rfl rfl rfl b61 ?_
          refine SO.loadI1 (j := 0) rfl Try.isAgg45 (Rd.head hF2) hy65 rfl rfl rfl rfl ?_
          exact SO.nilZ fun a w h1 h2 h3 h4 h5 => PZ.of h1 h3 h5 (.cons () (.cons () (.cons () (.cons () (.nil ⟨EnvAll.of h2 ⟨rfl, rfl, rfl, trivial⟩, h4⟩)))))
        · rintro Fr _ _ _
          refine SO.takeT rfl rfl rfl b61 ?_
          refine SO.v rfl (opv_len2 rfl Try.underlying45 hF166 hl166 rfl) ?_
          exact SO.nilZ fun a w h1 h2 h3 h4 h5 => PZ.of h1 h3 h5 (.cons () (.cons () (.cons () (.cons () (.nil ⟨EnvAll.of h2 ⟨rfl, rfl, rfl, trivial⟩, h4⟩)))))
        · rintro Fr _ _ _
          refine SO.takeT rfl rfl rfl b61 ?_
          refine SO.v rfl (opv_geq rfl rfl) ?_
          exact SO.nilZ fun a w h1 h2 h3 h4 h5 => PZ.of h1 h3 h5 (.cons () (.cons () (.cons () (.cons () (.nil ⟨EnvAll.of h2 ⟨rfl, rfl, rfl, rfl, trivial⟩, h4⟩)))))
        · rintro Fr _ _
          refine SO.v rfl (opv_pick_f' b61 rfl rfl) ?_
          exact SO.nilZ fun a w h1 h2 h3 h4 h5 => PZ.of h1 h3 h5 (.cons () (.cons () (.cons () (.nil ⟨EnvAll.of h2 ⟨rfl, rfl, rfl, trivial⟩, h4⟩))))
        rintro _ _ _ _ _ _ _ _ _ _ _ _
        refine S.to (ρ' := [(18, .int .i64 x18_2), (17, v49), (0, .int .i64 a0), (8, .bool false), (9, .bool t1), (10, bp b15 0), (12, bp bm 0), (15, v39), (16, v43), (2, v2), (19, bp b56 0), (135, .bool (decide ((x62.length : Int) ≤ x54.Job)))]) ⟨rfl, rfl, rfl, rfl, rfl, rfl, rfl, rfl, rfl, rfl, rfl, rfl, trivial⟩ ?_
        cases h
        refine S.b6 ?_
        refine S.b6 ?_
        refine S.b6 ?_
        refine S.b6 ?_
        refine S.b6 ?_
        refine S.b6 ?_
        refine S.b6 ?_
        refine S.to ?_ (hk3 () trivial)
        exact ⟨rfl, rfl, rfl, rfl, rfl, rfl, rfl, rfl, rfl, rfl, rfl, rfl, trivial⟩
      rintro _ -
      replace h := hJ3
      rcases bool_or j135_3 with b67 | b67
      · replace h := cond_t b67 h
        refine S.condT rfl b67 ?_
        refine S.seq ?_
        refine S.region ?_
        refine SO.v rfl (opv_assign rfl) ?_
        refine SO.nil ?_
        refine S.to (ρ' := [(8, .bool false)]) ⟨rfl, trivial⟩ ?_
        cases h
        replace h := hK2.1 _ rfl
        cases h
        refine S.drop ?_
        refine S.drop ?_
        refine S.drop ?_
        refine S.drop ?_
        refine S.drop ?_
        refine S.drop ?_
        exact S.ret1 Try.func3 rfl rfl (fun w hs hk => hR w _ _ ⟨rfl, rfl⟩ hs hk)
      replace h := cond_f b67 h
      refine S.condF rfl b67 ?_
      refine S.skip ?_
      refine S.seq ?_
      refine S.region ?_
      refine SO.v rfl (opv_assign rfl) ?_
      refine SO.nil ?_
      refine S.seq ?_
      refine S.seq ?_
      refine S.region ?_
      refine SO.v rfl (opv_fieldAddr Try.underlying44 rfl Try.sizeOf4 rfl rfl) ?_
      refine SO.load1 rfl Try.isAgg4 rfl rfl ?_
      refine SO.v rfl (opv_not rfl) ?_
      refine SO.nil ?_
      obtain ⟨⟨j20_4, qv39_4⟩, hC4, hJ4⟩ := opt_bind h
      clear h
      refine S.cutP (G := Unit) (fun _ => True) (fun _ => [(0, .int .i64 a0), (2, v2), (8, .bool false), (9, .bool t1), (10, bp b15 0), (12, bp bm 0), (15, v39), (16, v43), (17, v49), (18, .int .i64 x18_2), (19, bp b56 0), (20, .int .i64 j20_4)]) (fun _ => [Box b56 [.int .i64 x54.Worker, .int .i64 x54.Job, .int .i64 x54.Told, .bool x54.Spent], Own 46 (ekI .u64) v39 qv39_4, Own 3 (ekI .i64) v43 qv43_2, Own 44 ek_stm_Entry v49 t47, M8 g bm b15 mx36, R8 g.G, F]) (fun hk4 => ?_) ?_
      · replace h := hC4
        rcases bool_or (!x54.Spent) with b68 | b68
        · replace h := cond_t b68 h
          refine S.condT rfl b68 ?_
          obtain ⟨x69, hx70, h⟩ := opt_bind h
          obtain ⟨y71, hy72, hr73⟩ := Rd3.at_ hl2 hR2 hx70
          obtain ⟨vs173, hF173, hl173, hR173⟩ := hr73
          obtain ⟨x74, hx75, h⟩ := opt_bind h
          obtain ⟨y76, hy77, hr78⟩ := Rd2.at_ hl173 hR173 hx75
          obtain ⟨⟨t79, s81⟩, ht80, h⟩ := opt_bind h
          refine S.draw2 (Y := fun Q => ∃ (_ _ _ _ _ _ _ _ _ _ _ : Unit), Q [(15, v39), (2, v2), (19, bp b56 0), (0, .int .i64 a0), (8, .bool false), (9, .bool t1), (10, bp b15 0), (12, bp bm 0), (16, v43), (17, v49), (18, .int .i64 x18_2)] [Box b56 [.int .i64 x54.Worker, .int .i64 x54.Job, .int .i64 x54.Told, .bool x54.Spent], Own 46 (ekI .u64) v39 qv39_2, Own 3 (ekI .i64) v43 qv43_2, Own 44 ek_stm_Entry v49 t47, M8 g bm b15 mx36, R8 g.G, F]) (Z := fun Q => ∀ (_ _ _ _ _ _ _ _ _ _ _ _ : Unit), Q [(0, .int .i64 a0), (8, .bool false), (9, .bool t1), (10, bp b15 0), (12, bp bm 0), (16, v43), (17, v49), (18, .int .i64 x18_2), (2, v2), (15, v39), (19, bp b56 0), (20, .int .i64 (w64 (t79.tmod 1000000)))] [Box b56 [.int .i64 x54.Worker, .int .i64 x54.Job, .int .i64 x54.Told, .bool x54.Spent], Own 46 (ekI .u64) v39 s81, Own 3 (ekI .i64) v43 qv43_2, Own 44 ek_stm_Entry v49 t47, M8 g bm b15 mx36, R8 g.G, F]) (T := [tS 15 (v39), tS 2 (v2), tS 19 (bp b56 0), tE [(0, .int .i64 a0), (8, .bool false), (9, .bool t1), (10, bp b15 0), (12, bp bm 0), (16, v43), (17, v49), (18, .int .i64 x18_2)], tR (Box b56 [.int .i64 x54.Worker, .int .i64 x54.Job, .int .i64 x54.Told, .bool x54.Spent]), tR (Own 46 (ekI .u64) v39 qv39_2), tR (Own 3 (ekI .i64) v43 qv43_2), tR (Own 44 ek_stm_Entry v49 t47), tR (M8 g bm b15 mx36), tR (R8 g.G), tR (F), tS 139 (v39), tS 140 ((plainV v39).val), tS 141 (v2), tS 142 (bp b56 0), tS 143 (.int .i64 x54.Worker), tS 144 (idxp v2 (x54.Worker.toNat * ekS.sz)), tS 145 (y71.1), tS 146 (bp b56 1), tS 147 (.int .i64 x54.Job), tS 148 (idxp y71.1 (x54.Job.toNat * (krS ek_law06_Op).sz)), tS 149 (y76.1), tR (Own 46 (ekI .u64) v39 s81), tS 150 (.int .u64 t79), tS 151 (.int .u64 (t79.tmod 1000000)), tS 152 (.int .i64 (w64 (t79.tmod 1000000))), tS 20 (.int .i64 (w64 (t79.tmod 1000000)))]) (D := [⟨[0], [], [11]⟩, ⟨[11], [], [12]⟩, ⟨[1], [], [13]⟩, ⟨[2], [], [14]⟩, ⟨[14, 4], [], [15]⟩, ⟨[13, 15, 10], [], [16]⟩, ⟨[16, 10], [], [17]⟩, ⟨[2], [], [18]⟩, ⟨[18, 4], [], [19]⟩, ⟨[17, 19, 10], [], [20]⟩, ⟨[20, 10], [], [21]⟩, ⟨[12, 21, 10], [5], [22, 23]⟩, ⟨[23], [], [24]⟩, ⟨[24], [], [25]⟩, ⟨[25], [], [26]⟩]) (ini := [0, 1, 2, 3, 4, 5, 6, 7, 8, 9, 10]) (fin := [3, 1, 0, 2, 26, 4, 22, 6, 7, 8, 9, 10]) (bf := [[], [0], [], [], [3], [2, 3, 4], [2, 3, 4, 5], [], [7], [2, 3, 4, 5, 6, 7, 8], [2, 3, 4, 5, 6, 7, 8, 9], [0, 1, 2, 3, 4, 5, 6, 7, 8, 9, 10], [0, 1, 2, 3, 4, 5, 6, 7, 8, 9, 10, 11], [0, 1, 2, 3, 4, 5, 6, 7, 8, 9, 10, 11, 12], [0, 1, 2, 3, 4, 5, 6, 7, 8, 9, 10, 11, 12, 13]]) (by kernel_rfl) (by kernel_rfl) (fun Q => by kernel_rfl) (fun x w h1 h2 => ⟨(), (), (), (), (), (), (), (), (), (), (), EnvAll.of h1 ⟨rfl, rfl, rfl, rfl, rfl, rfl, rfl, rfl, rfl, rfl, rfl, trivial⟩, h2⟩) (fun Q => by kernel_rfl) ⟨?_, ?_, ?_, ?_, ?_, ?_, ?_, ?_, ?_, ?_, ?_, ?_, ?_, ?_, ?_, trivial⟩ ?_
          · rintro Fr _
            refine SO.v rfl (opv_move rfl) ?_
            exact SO.nilZ fun a w h1 h2 h3 h4 h5 => PZ.of h1 h3 h5 (.cons () (.cons () (.nil ⟨EnvAll.of h2 ⟨rfl, rfl, trivial⟩, h4⟩)))
          · rintro Fr _
            refine SO.v rfl (opv_iface Try.underlying40 rfl rfl) ?_
            exact SO.nilZ fun a w h1 h2 h3 h4 h5 => PZ.of h1 h3 h5 (.cons () (.cons () (.nil ⟨EnvAll.of h2 ⟨rfl, rfl, trivial⟩, h4⟩)))
          · rintro Fr _
            refine SO.v rfl (opv_move rfl) ?_
            exact SO.nilZ fun a w h1 h2 h3 h4 h5 => PZ.of h1 h3 h5 (.cons () (.cons () (.nil ⟨EnvAll.of h2 ⟨rfl, rfl, trivial⟩, h4⟩)))
          · rintro Fr _
            refine SO.v rfl (opv_fieldAddr Try.underlying44 rfl Try.sizeOf3 rfl rfl) ?_
            exact SO.nilZ fun a w h1 h2 h3 h4 h5 => PZ.of h1 h3 h5 (.cons () (.cons () (.nil ⟨EnvAll.of h2 ⟨rfl, rfl, trivial⟩, h4⟩)))
          · rintro Fr _ _
            refine SO.load1 rfl Try.isAgg3 rfl rfl ?_
            exact SO.nilZ fun a w h1 h2 h3 h4 h5 => PZ.of h1 h3 h5 (.cons () (.cons () (.cons () (.nil ⟨EnvAll.of h2 ⟨rfl, rfl, trivial⟩, h4⟩))))
          · rintro Fr _ _ _
            refine SO.v rfl (opv_idx Try.underlying23 Try.sizeOf45 hF2 rfl rfl hy72) ?_
            exact SO.nilZ fun a w h1 h2 h3 h4 h5 => PZ.of h1 h3 h5 (.cons () (.cons () (.cons () (.cons () (.nil ⟨EnvAll.of h2 ⟨rfl, rfl, rfl, trivial⟩, h4⟩)))))
          · rintro Fr _ _
            refine SO.loadI1 (j := 0) rfl Try.isAgg45 (Rd.head hF2) hy72 rfl rfl rfl rfl ?_
            exact SO.nilZ fun a w h1 h2 h3 h4 h5 => PZ.of h1 h3 h5 (.cons () (.cons () (.cons () (.nil ⟨EnvAll.of h2 ⟨rfl, rfl, trivial⟩, h4⟩))))
          · rintro Fr _
            refine SO.v rfl (opv_fieldAddr Try.underlying44 rfl Try.sizeOf3 rfl rfl) ?_
            exact SO.nilZ fun a w h1 h2 h3 h4 h5 => PZ.of h1 h3 h5 (.cons () (.cons () (.nil ⟨EnvAll.of h2 ⟨rfl, rfl, trivial⟩, h4⟩)))
          · rintro Fr _ _
            refine SO.load1 rfl Try.isAgg3 rfl rfl ?_
            exact SO.nilZ fun a w h1 h2 h3 h4 h5 => PZ.of h1 h3 h5 (.cons () (.cons () (.cons () (.nil ⟨EnvAll.of h2 ⟨rfl, rfl, trivial⟩, h4⟩))))
          · rintro Fr _ _ _
            refine SO.v rfl (opv_idx Try.underlying45 Try.sizeOf48 hF173 rfl rfl hy77) ?_
            exact SO.nilZ fun a w h1 h2 h3 h4 h5 => PZ.of h1 h3 h5 (.cons () (.cons () (.cons () (.cons () (.nil ⟨EnvAll.of h2 ⟨rfl, rfl, rfl, trivial⟩, h4⟩)))))
          · rintro Fr _ _
            refine SO.loadI1 (j := 0) rfl Try.isAgg48 (Rd.head hF173) hy77 rfl rfl rfl rfl ?_
            exact SO.nilZ fun a w h1 h2 h3 h4 h5 => PZ.of h1 h3 h5 (.cons () (.cons () (.cons () (.nil ⟨EnvAll.of h2 ⟨rfl, rfl, trivial⟩, h4⟩))))
          · rintro Fr _ _ _ _
            refine SO.b1 ?_
            refine SO.call (pre := [(plainV v39).rep _]) rfl Try.call13 rfl rfl rfl (law06_Do.ct (plainV v39) _ y76.1 _ _ _ _ ht80) (Rd.head hr78) ?_
            rintro _ _ ⟨rfl, rfl⟩
            refine headEq (plainV_rep _ _) ?_
            refine SO.rd fun hr82 => ?_
            refine SO.b1 ?_
            exact SO.nilZ fun a w h1 h2 h3 h4 h5 => PZ.of2 (Y := fun Q => ∃ (_ _ _ _ _ : Unit), Q [(140, (plainV v39).val), (149, y76.1), (150, .int .u64 t79)] [F, Own 46 (ekI .u64) v39 s81]) (fun Q => by kernel_rfl) h1 h3 h5 ⟨(), (), (), (), (), EnvAll.of h2 ⟨rfl, rfl, rfl, trivial⟩, h4⟩
          · rintro Fr _
            refine SO.v rfl (opv_rem rfl rfl (by decide)) ?_
            exact SO.nilZ fun a w h1 h2 h3 h4 h5 => PZ.of h1 h3 h5 (.cons () (.cons () (.nil ⟨EnvAll.of h2 ⟨rfl, rfl, trivial⟩, h4⟩)))
          · rintro Fr _
            refine SO.v rfl (opv_conv Try.underlying46 Try.underlying3 rfl) ?_
            exact SO.nilZ fun a w h1 h2 h3 h4 h5 => PZ.of h1 h3 h5 (.cons () (.cons () (.nil ⟨EnvAll.of h2 ⟨rfl, rfl, trivial⟩, h4⟩)))
          · rintro Fr _
            refine SO.v rfl (opv_assign rfl) ?_
            exact SO.nilZ fun a w h1 h2 h3 h4 h5 => PZ.of h1 h3 h5 (.cons () (.cons () (.nil ⟨EnvAll.of h2 ⟨rfl, rfl, trivial⟩, h4⟩)))
          rintro _ _ _ _ _ _ _ _ _ _ _ _
          refine S.to (ρ' := [(0, .int .i64 a0), (8, .bool false), (9, .bool t1), (10, bp b15 0), (12, bp bm 0), (16, v43), (17, v49), (18, .int .i64 x18_2), (2, v2), (15, v39), (19, bp b56 0), (20, .int .i64 (w64 (t79.tmod 1000000)))]) ⟨rfl, rfl, rfl, rfl, rfl, rfl, rfl, rfl, rfl, rfl, rfl, rfl, trivial⟩ ?_
          refine S.b1 ?_
          refine S.rd fun hr83 => ?_
          cases h
          refine S.b6 ?_
          refine S.b6 ?_
          refine S.b6 ?_
          refine S.b6 ?_
          refine S.b6 ?_
          refine S.b5 ?_
          refine S.b6 ?_
          refine S.to ?_ (hk4 () trivial)
          exact ⟨rfl, rfl, rfl, rfl, rfl, rfl, rfl, rfl, rfl, rfl, rfl, rfl, trivial⟩
        replace h := cond_f b68 h
        refine S.condF rfl b68 ?_
        refine S.skip ?_
        cases h
        refine S.b6 ?_
        refine S.b6 ?_
        refine S.b6 ?_
        refine S.b6 ?_
        refine S.b6 ?_
        refine S.b6 ?_
        refine S.b6 ?_
        refine S.to ?_ (hk4 () trivial)
        exact ⟨rfl, rfl, rfl, rfl, rfl, rfl, rfl, rfl, rfl, rfl, rfl, rfl, trivial⟩
      rintro _ -
      replace h := hJ4
      refine S.b1 ?_
      refine S.rd fun hr84 => ?_
      refine S.seq ?_
      refine S.region ?_
      refine SO.v rfl (opv_move rfl) ?_
      refine SO.v rfl (opv_fieldAddr Try.underlying44 rfl Try.sizeOf3 rfl rfl) ?_
      refine SO.b1 ?_
      refine SO.load1 rfl Try.isAgg3 rfl rfl ?_
      obtain ⟨t85, ht86, h⟩ := opt_bind h
      refine SO.b4 ?_
      refine SO.call (pre := [M8 _ _ _ _]) rfl Try.call14 rfl rfl rfl (told8.ct g bm b15 mx36 t85 x54.Worker ht86) trivial ?_
      rintro v87 _ ⟨_, rfl, rfl⟩
      refine SO.rd fun hr88 => ?_
      refine SO.v rfl (opv_assign rfl) ?_
      refine SO.nil ?_
      refine S.seq ?_
      refine S.seq ?_
      refine S.region ?_
      refine SO.v rfl (opv_move rfl) ?_
      refine SO.v rfl (opv_lenR rfl Try.underlying24 hr88 rfl) ?_
      refine SO.v rfl (opv_fieldAddr Try.underlying44 rfl Try.sizeOf3 rfl rfl) ?_
      refine SO.b2 ?_
      refine SO.load1 rfl Try.isAgg3 rfl rfl ?_
      refine SO.v rfl (opv_leq rfl rfl) ?_
      refine SO.nil ?_
      refine S.to (ρ' := [(0, .int .i64 a0), (2, v2), (8, .bool false), (9, .bool t1), (10, bp b15 0), (12, bp bm 0), (15, v39), (16, v43), (17, v49), (18, .int .i64 x18_2), (19, bp b56 0), (20, .int .i64 j20_4), (21, v87), (161, .bool (decide ((t85.length : Int) ≤ x54.Job)))]) ⟨rfl, rfl, rfl, rfl, rfl, rfl, rfl, rfl, rfl, rfl, rfl, rfl, rfl, rfl, trivial⟩ ?_
      rcases bool_or (decide ((t85.length : Int) ≤ x54.Job)) with b89 | b89
      · replace h := cond_t b89 h
        refine S.condT rfl b89 ?_
        refine S.seq ?_
        refine S.region ?_
        refine SO.v rfl (opv_assign rfl) ?_
        refine SO.nil ?_
        refine S.to (ρ' := [(8, .bool false)]) ⟨rfl, trivial⟩ ?_
        cases h
        replace h := hK2.1 _ rfl
        cases h
        refine S.drop ?_
        refine S.drop ?_
        refine S.drop ?_
        refine S.drop ?_
        refine S.drop ?_
        refine S.drop ?_
        refine S.drop ?_
        exact S.ret1 Try.func3 rfl rfl (fun w hs hk => hR w _ _ ⟨rfl, rfl⟩ hs hk)
      replace h := cond_f b89 h
      refine S.condF rfl b89 ?_
      refine S.skip ?_
      refine S.seq ?_
      refine S.seq ?_
      refine S.region ?_
      refine SO.v rfl (opv_fieldAddr Try.underlying44 rfl Try.sizeOf3 rfl rfl) ?_
      refine SO.load1 rfl Try.isAgg3 rfl rfl ?_
      refine SO.v rfl (opv_move rfl) ?_
      refine SO.v rfl (opv_neq rfl rfl) ?_
      refine SO.v rfl (opv_move rfl) ?_
      obtain ⟨c91, hc92, hgk⟩ := opt_bind h
      refine SO.cut 8 174 (.bool c91) [Box b56 [.int .i64 x54.Worker, .int .i64 x54.Job, .int .i64 x54.Told, .bool x54.Spent], Own 3 (ekI .i64) v87 t85, M8 g bm b15 mx36, Own 46 (ekI .u64) v39 qv39_4, Own 3 (ekI .i64) v43 qv43_2, Own 44 ek_stm_Entry v49 t47, R8 g.G, F] (fun l2 hk2 => ?_) ?_
      · clear hgk
        replace h := hc92
        rcases bool_or (x54.Told != j20_4) with b90 | b90
        · replace h := cond_t b90 h
          refine SO.passF rfl rfl rfl b90 rfl rfl ?_
          refine SO.passF rfl rfl rfl b90 rfl rfl ?_
          refine SO.passF rfl rfl rfl b90 rfl rfl ?_
          refine SO.passF rfl rfl rfl b90 rfl rfl ?_
          refine SO.passF rfl rfl rfl b90 rfl rfl ?_
          refine SO.passF rfl rfl rfl b90 rfl rfl ?_
          refine SO.passF rfl rfl rfl b90 rfl rfl ?_
          cases h
          refine SO.v rfl (opv_pick_t' b90 rfl rfl) ?_
          refine SO.b7 ?_
          refine SO.b7 ?_
          refine SO.b7 ?_
          refine SO.b7 ?_
          refine SO.b7 ?_
          refine SO.b7 ?_
          refine SO.b7 ?_
          refine SO.b7 ?_
          exact hk2.fitc (m := 8) rfl (rfl) rfl
        replace h := cond_f b90 h
        refine SO.takeT rfl rfl rfl b90 ?_
        refine SO.v rfl (opv_move rfl) ?_
        refine SO.takeT rfl rfl rfl b90 ?_
        refine SO.v rfl (opv_fieldAddr Try.underlying44 rfl Try.sizeOf3 rfl rfl) ?_
        refine SO.takeT rfl rfl rfl b90 ?_
        refine SO.load1 rfl Try.isAgg3 rfl rfl ?_
        refine SO.takeT rfl rfl rfl b90 ?_
        obtain ⟨x93, hx94, h⟩ := opt_bind h
        refine SO.v rfl (opv_idx Try.underlying24 Try.sizeOf3 hr88 rfl rfl hx94) ?_
        refine SO.takeT rfl rfl rfl b90 ?_
        refine SO.loadI1 (j := 0) rfl Try.isAgg3 (Rd.tail (Rd.head hr88)) hx94 rfl rfl rfl rfl ?_
        refine SO.takeT rfl rfl rfl b90 ?_
        refine SO.v rfl (opv_move rfl) ?_
        refine SO.takeT rfl rfl rfl b90 ?_
        refine SO.v rfl (opv_neq rfl rfl) ?_
        cases h
        refine SO.v rfl (opv_pick_f' b90 rfl rfl) ?_
        refine SO.b7 ?_
        refine SO.b7 ?_
        refine SO.b7 ?_
        refine SO.b7 ?_
        refine SO.b7 ?_
        refine SO.b7 ?_
        refine SO.b7 ?_
        refine SO.b7 ?_
        exact hk2.fitc (m := 8) rfl (rfl) rfl
      clear hc92
      replace h := hgk
      refine SO.nil ?_
      refine S.to (ρ' := [(0, .int .i64 a0), (2, v2), (8, .bool false), (9, .bool t1), (10, bp b15 0), (12, bp bm 0), (15, v39), (16, v43), (17, v49), (18, .int .i64 x18_2), (19, bp b56 0), (174, .bool c91)]) ⟨rfl, rfl, rfl, rfl, rfl, rfl, rfl, rfl, rfl, rfl, rfl, rfl, trivial⟩ ?_
      rcases bool_or c91 with b95 | b95
      · replace h := cond_t b95 h
        refine S.condT rfl b95 ?_
        refine S.seq ?_
        refine S.region ?_
        refine SO.v rfl (opv_assign rfl) ?_
        refine SO.nil ?_
        refine S.to (ρ' := [(8, .bool false)]) ⟨rfl, trivial⟩ ?_
        cases h
        replace h := hK2.1 _ rfl
        cases h
        refine S.drop ?_
        refine S.drop ?_
        refine S.drop ?_
        refine S.drop ?_
        refine S.drop ?_
        refine S.drop ?_
        refine S.drop ?_
        exact S.ret1 Try.func3 rfl rfl (fun w hs hk => hR w _ _ ⟨rfl, rfl⟩ hs hk)
      replace h := cond_f b95 h
      refine S.condF rfl b95 ?_
      refine S.skip ?_
      refine S.region ?_
      refine SO.v rfl (opv_move rfl) ?_
      refine SO.v rfl (opv_fieldAddr Try.underlying44 rfl Try.sizeOf3 rfl rfl) ?_
      refine SO.load1 rfl Try.isAgg3 rfl rfl ?_
      obtain ⟨x96, hx97, h⟩ := opt_bind h
      refine SO.v rfl (opv_idx Try.underlying24 Try.sizeOf3 hr51 rfl rfl hx97) ?_
      refine SO.loadI1 (j := 0) rfl Try.isAgg3 (Rd.tail (Rd.tail (Rd.tail (Rd.tail (Rd.head hr51))))) hx97 rfl rfl rfl rfl ?_
      refine SO.v rfl (opv_add rfl rfl) ?_
      obtain ⟨x98, hx99, h⟩ := opt_bind h
      refine SO.v rfl (opv_idx Try.underlying24 Try.sizeOf3 hr51 rfl rfl hx99) ?_
      refine SO.b4 ?_
      refine SO.storeI1 (j := 0) (z' := w64 (x96 + 1)) Try.sizeOf3 hx99 rfl rfl rfl rfl rfl rfl ?_
      refine SO.rd fun hr100 => ?_
      refine SO.nil ?_
      refine S.to (ρ' := [(0, .int .i64 a0), (2, v2), (8, .bool false), (9, .bool t1), (10, bp b15 0), (12, bp bm 0), (15, v39), (16, v43), (17, v49), (18, .int .i64 x18_2)]) ⟨rfl, rfl, rfl, rfl, rfl, rfl, rfl, rfl, rfl, rfl, trivial⟩ ?_
      refine S.inBlock ?_
      refine S.region ?_
      refine SO.v rfl (opv_move rfl) ?_
      refine SO.v rfl (opv_add rfl rfl) ?_
      refine SO.v rfl (opv_assign rfl) ?_
      refine SO.nil ?_
      refine S.b1 ?_
      refine S.drop ?_
      refine S.b1 ?_
      refine S.drop ?_
      refine S.b5 ?_
      refine S.b5 ?_
      refine S.b4 ?_
      refine S.b3 ?_
      refine S.b4 ?_
      refine S.b5 ?_
      refine S.to ?_ (ih2 ((w64 (x18_2 + 1), qv39_4, qv43_2.set x54.Worker.toNat (w64 (x96 + 1))), ()) h)
      exact ⟨rfl, rfl, rfl, rfl, rfl, rfl, rfl, rfl, rfl, rfl, trivial⟩
    replace h := cond_f b53 h
    refine S.condF rfl b53 ?_
    refine S.exit rfl ?_
    cases h
    refine S.b5 ?_
    refine S.b5 ?_
    refine S.b2 ?_
    refine S.b3 ?_
    refine S.b5 ?_
    refine S.b5 ?_
    refine S.to ?_ (hK2.2 (qv43_2, qv39_2) () rfl)
    exact ⟨rfl, rfl, rfl, rfl, rfl, rfl, rfl, rfl, trivial⟩
  refine ⟨fun r' e' => ?_, ?_⟩
  · subst e'
    have h9 := Brk.of_ret h
    exact h9
  rintro ⟨qv43_e2, qv39_e2⟩ _ e'
  subst e'
  replace h := Brk.of_nx h
  refine S.b2 ?_
  refine S.rd fun hr101 => ?_
  refine S.b3 ?_
  refine S.rd fun hr102 => ?_
  refine S.seq ?_
  refine S.region ?_
  refine SO.v rfl (opv_move rfl) ?_
  obtain ⟨t103, ht104, h⟩ := opt_bind h
  refine SO.b3 ?_
  refine SO.call (pre := [M8 _ _ _ _]) rfl Try.call15 rfl rfl rfl (values8.ct g k bm b15 mx36 t103 ht104) trivial ?_
  rintro v105 _ ⟨_, rfl, rfl⟩
  refine SO.rd fun hr106 => ?_
  refine SO.v rfl (opv_assign rfl) ?_
  refine SO.nil ?_
  refine S.seq ?_
  refine S.seq ?_
  refine S.region ?_
  refine SO.v rfl (opv_assign rfl) ?_
  refine SO.nil ?_
  obtain ⟨o5, hlp5, h⟩ := opt_bind h
  refine S.b6 ?_
  refine S.b6 ?_
  refine S.b6 ?_
  refine S.b6 ?_
  refine S.b6 ?_
  refine S.b6 ?_
  refine S.b6 ?_
  refine S.to (ρ' := [(23, .int .i64 0), (22, v105), (0, .int .i64 a0), (2, v2), (8, .bool false), (9, .bool t1), (10, bp b15 0), (12, bp bm 0), (15, v39), (16, v43)]) ⟨rfl, rfl, rfl, rfl, rfl, rfl, rfl, rfl, rfl, rfl, trivial⟩ ?_
  refine S.forloop (X := Int × Unit) (O := Brk Bool Unit) (fun m x => law08_StmSerial.l5 a0 qv39_e2 t103 m x.1) (fun x => match x with | (x23_5, _) => [(23, .int .i64 x23_5), (22, v105), (0, .int .i64 a0), (2, v2), (8, .bool false), (9, .bool t1), (10, bp b15 0), (12, bp bm 0), (15, v39), (16, v43)]) (fun x => match x with | (x23_5, _) => [Own 46 (ekI .u64) v105 t103, M8 g bm b15 mx36, Own 46 (ekI .u64) v39 qv39_e2, Own 3 (ekI .i64) v43 qv43_e2, Own 44 ek_stm_Entry v49 t47, R8 g.G, F]) (fun Sk o' => (∀ r', o' = Brk.ret r' → some r' = some r0) ∧ ∀ _ : Unit, ∀ _ : Unit, o' = Brk.nx () → Sk [(2, v2), (8, .bool false), (9, .bool t1), (10, bp b15 0), (12, bp bm 0), (16, v43)] [Own 46 (ekI .u64) v105 t103, M8 g bm b15 mx36, Own 46 (ekI .u64) v39 qv39_e2, Own 3 (ekI .i64) v43 qv43_e2, Own 44 ek_stm_Entry v49 t47, R8 g.G, F]) (fun _ => rfl) ?_ (m := k) (x := (0, ())) hlp5 ?_
  · clear h hlp5
    intro k x o_5 h hK5 ih5
    obtain ⟨x23_5, _⟩ := x
    replace h : law08_StmSerial.l5 a0 qv39_e2 t103 (k + 1) x23_5 = some o_5 := h
    first | rw [law08_StmSerial.l5] at h | unfold law08_StmSerial.l5 at h
    refine S.seq ?_
    refine S.seq ?_
    refine S.region ?_
    refine SO.v rfl (opv_move rfl) ?_
    refine SO.v rfl (opv_move rfl) ?_
    refine SO.v rfl (opv_lss rfl rfl) ?_
    refine SO.nil ?_
    rcases bool_or (decide (x23_5 < a0)) with b107 | b107
    · replace h := cond_t b107 h
      refine S.condT rfl b107 ?_
      refine S.skip ?_
      refine S.seq ?_
      refine S.block ?_
      refine S.seq ?_
      obtain ⟨x108, hx109, h⟩ := opt_bind h
      obtain ⟨t110, ht111, h⟩ := opt_bind h
      refine S.draw2 (Y := fun Q => ∃ (_ _ _ _ _ _ _ _ _ _ _ : Unit), Q [(22, v105), (23, .int .i64 x23_5), (15, v39), (0, .int .i64 a0), (2, v2), (8, .bool false), (9, .bool t1), (10, bp b15 0), (12, bp bm 0), (16, v43)] [Own 46 (ekI .u64) v105 t103, M8 g bm b15 mx36, Own 46 (ekI .u64) v39 qv39_e2, Own 3 (ekI .i64) v43 qv43_e2, Own 44 ek_stm_Entry v49 t47, R8 g.G, F]) (Z := fun Q => ∀ (_ _ _ _ _ _ _ _ _ _ _ _ : Unit), Q [(23, .int .i64 x23_5), (22, v105), (0, .int .i64 a0), (2, v2), (8, .bool false), (9, .bool t1), (10, bp b15 0), (12, bp bm 0), (16, v43), (15, v39), (196, .bool (x108 != t110))] [Own 46 (ekI .u64) v105 t103, M8 g bm b15 mx36, Own 46 (ekI .u64) v39 qv39_e2, Own 3 (ekI .i64) v43 qv43_e2, Own 44 ek_stm_Entry v49 t47, R8 g.G, F]) (T := [tS 22 (v105), tS 23 (.int .i64 x23_5), tS 15 (v39), tE [(0, .int .i64 a0), (2, v2), (8, .bool false), (9, .bool t1), (10, bp b15 0), (12, bp bm 0), (16, v43)], tR (Own 46 (ekI .u64) v105 t103), tR (M8 g bm b15 mx36), tR (Own 46 (ekI .u64) v39 qv39_e2), tR (Own 3 (ekI .i64) v43 qv43_e2), tR (Own 44 ek_stm_Entry v49 t47), tR (R8 g.G), tR (F), tS 189 (v105), tS 190 (.int .i64 x23_5), tS 191 (idxp v105 (x23_5.toNat * (ekI .u64).sz)), tS 192 (.int .u64 x108), tS 193 (v39), tS 194 (.int .i64 x23_5), tS 195 (.int .u64 t110), tS 196 (.bool (x108 != t110))]) (D := [⟨[0], [], [11]⟩, ⟨[1], [], [12]⟩, ⟨[11, 12, 4], [], [13]⟩, ⟨[13, 4], [], [14]⟩, ⟨[2], [], [15]⟩, ⟨[1], [], [16]⟩, ⟨[15, 16, 6], [], [17]⟩, ⟨[14, 17], [], [18]⟩]) (ini := [0, 1, 2, 3, 4, 5, 6, 7, 8, 9, 10]) (fin := [1, 0, 3, 2, 18, 4, 5, 6, 7, 8, 9, 10]) (bf := [[], [], [0, 1], [0, 1, 2], [], [], [4, 5], [0, 1, 2, 3, 4, 5, 6]]) (by kernel_rfl) (by kernel_rfl) (fun Q => by kernel_rfl) (fun x w h1 h2 => ⟨(), (), (), (), (), (), (), (), (), (), (), EnvAll.of h1 ⟨rfl, rfl, rfl, rfl, rfl, rfl, rfl, rfl, rfl, rfl, trivial⟩, h2⟩) (fun Q => by kernel_rfl) ⟨?_, ?_, ?_, ?_, ?_, ?_, ?_, ?_, trivial⟩ ?_
      · rintro Fr _
        refine SO.v rfl (opv_move rfl) ?_
        exact SO.nilZ fun a w h1 h2 h3 h4 h5 => PZ.of h1 h3 h5 (.cons () (.cons () (.nil ⟨EnvAll.of h2 ⟨rfl, rfl, trivial⟩, h4⟩)))
      · rintro Fr _
        refine SO.v rfl (opv_move rfl) ?_
        exact SO.nilZ fun a w h1 h2 h3 h4 h5 => PZ.of h1 h3 h5 (.cons () (.cons () (.nil ⟨EnvAll.of h2 ⟨rfl, rfl, trivial⟩, h4⟩)))
      · rintro Fr _ _ _
        refine SO.v rfl (opv_idx Try.underlying39 Try.sizeOf46 hr106 rfl rfl hx109) ?_
        exact SO.nilZ fun a w h1 h2 h3 h4 h5 => PZ.of h1 h3 h5 (.cons () (.cons () (.cons () (.cons () (.nil ⟨EnvAll.of h2 ⟨rfl, rfl, rfl, trivial⟩, h4⟩)))))
      · rintro Fr _ _
        refine SO.loadI1 (j := 0) rfl Try.isAgg46 (Rd.head hr106) hx109 rfl rfl rfl rfl ?_
        exact SO.nilZ fun a w h1 h2 h3 h4 h5 => PZ.of h1 h3 h5 (.cons () (.cons () (.cons () (.nil ⟨EnvAll.of h2 ⟨rfl, rfl, trivial⟩, h4⟩))))
      · rintro Fr _
        refine SO.v rfl (opv_move rfl) ?_
        exact SO.nilZ fun a w h1 h2 h3 h4 h5 => PZ.of h1 h3 h5 (.cons () (.cons () (.nil ⟨EnvAll.of h2 ⟨rfl, rfl, trivial⟩, h4⟩)))
      · rintro Fr _
        refine SO.v rfl (opv_move rfl) ?_
        exact SO.nilZ fun a w h1 h2 h3 h4 h5 => PZ.of h1 h3 h5 (.cons () (.cons () (.nil ⟨EnvAll.of h2 ⟨rfl, rfl, trivial⟩, h4⟩)))
      · rintro Fr _ _ _
        refine SO.call (pre := []) rfl Try.call16 rfl rfl rfl (view_Plain_Read.ct v39 _ _ _ ht111) (Rd.head hr102) ?_
        rintro _ _ ⟨rfl, rfl⟩
        exact SO.nilZ fun a w h1 h2 h3 h4 h5 => PZ.of h1 h3 h5 (.cons () (.cons () (.cons () (.cons () (.nil ⟨EnvAll.of h2 ⟨rfl, rfl, rfl, trivial⟩, h4⟩)))))
      · rintro Fr _ _
        refine SO.v rfl (opv_neq rfl rfl) ?_
        exact SO.nilZ fun a w h1 h2 h3 h4 h5 => PZ.of h1 h3 h5 (.cons () (.cons () (.cons () (.nil ⟨EnvAll.of h2 ⟨rfl, rfl, rfl, trivial⟩, h4⟩))))
      rintro _ _ _ _ _ _ _ _ _ _ _ _
      refine S.to (ρ' := [(23, .int .i64 x23_5), (22, v105), (0, .int .i64 a0), (2, v2), (8, .bool false), (9, .bool t1), (10, bp b15 0), (12, bp bm 0), (16, v43), (15, v39), (196, .bool (x108 != t110))]) ⟨rfl, rfl, rfl, rfl, rfl, rfl, rfl, rfl, rfl, rfl, rfl, trivial⟩ ?_
      rcases bool_or (x108 != t110) with b112 | b112
      · replace h := cond_t b112 h
        refine S.condT rfl b112 ?_
        refine S.seq ?_
        refine S.region ?_
        refine SO.v rfl (opv_assign rfl) ?_
        refine SO.nil ?_
        refine S.to (ρ' := [(8, .bool false)]) ⟨rfl, trivial⟩ ?_
        cases h
        replace h := hK5.1 _ rfl
        cases h
        refine S.drop ?_
        refine S.drop ?_
        refine S.drop ?_
        refine S.drop ?_
        refine S.drop ?_
        refine S.drop ?_
        exact S.ret1 Try.func3 rfl rfl (fun w hs hk => hR w _ _ ⟨rfl, rfl⟩ hs hk)
      replace h := cond_f b112 h
      refine S.condF rfl b112 ?_
      refine S.skip ?_
      refine S.inBlock ?_
      refine S.region ?_
      refine SO.v rfl (opv_move rfl) ?_
      refine SO.v rfl (opv_add rfl rfl) ?_
      refine SO.v rfl (opv_assign rfl) ?_
      refine SO.nil ?_
      refine S.b6 ?_
      refine S.b6 ?_
      refine S.b6 ?_
      refine S.b6 ?_
      refine S.b6 ?_
      refine S.b6 ?_
      refine S.b6 ?_
      refine S.to ?_ (ih5 (w64 (x23_5 + 1), ()) h)
      exact ⟨rfl, rfl, rfl, rfl, rfl, rfl, rfl, rfl, rfl, rfl, trivial⟩
    replace h := cond_f b107 h
    refine S.condF rfl b107 ?_
    refine S.exit rfl ?_
    cases h
    refine S.b6 ?_
    refine S.b6 ?_
    refine S.b6 ?_
    refine S.b6 ?_
    refine S.b6 ?_
    refine S.b6 ?_
    refine S.b6 ?_
    refine S.to ?_ (hK5.2 () () rfl)
    exact ⟨rfl, rfl, rfl, rfl, rfl, rfl, trivial⟩
  refine ⟨fun r' e' => ?_, ?_⟩
  · subst e'
    have h9 := Brk.of_ret h
    exact h9
  rintro _ _ e'
  subst e'
  replace h := Brk.of_nx h
  refine S.seq ?_
  refine S.region ?_
  refine SO.v rfl (opv_assign rfl) ?_
  refine SO.nil ?_
  refine S.seq ?_
  refine S.seq ?_
  refine S.region ?_
  refine SO.v rfl (opv_assign rfl) ?_
  refine SO.nil ?_
  obtain ⟨o6, hlp6, h⟩ := opt_bind h
  refine S.b6 ?_
  refine S.b6 ?_
  refine S.b6 ?_
  refine S.b6 ?_
  refine S.b6 ?_
  refine S.b6 ?_
  refine S.b6 ?_
  refine S.to (ρ' := [(25, .int .i64 0), (24, .bool false), (2, v2), (8, .bool false), (9, .bool t1), (10, bp b15 0), (12, bp bm 0), (16, v43)]) ⟨rfl, rfl, rfl, rfl, rfl, rfl, rfl, rfl, trivial⟩ ?_
  refine S.forloop (X := (Int × Bool) × Unit) (O := Brk Bool Bool) (fun m x => law08_StmSerial.l6 a2 mx36 qv43_e2 m x.1) (fun x => match x with | ((x25_6, x24_6), _) => [(25, .int .i64 x25_6), (24, .bool x24_6), (2, v2), (8, .bool false), (9, .bool t1), (10, bp b15 0), (12, bp bm 0), (16, v43)]) (fun x => match x with | ((x25_6, x24_6), _) => [Own 46 (ekI .u64) v105 t103, M8 g bm b15 mx36, Own 46 (ekI .u64) v39 qv39_e2, Own 3 (ekI .i64) v43 qv43_e2, Own 44 ek_stm_Entry v49 t47, R8 g.G, F]) (fun Sk o' => (∀ r', o' = Brk.ret r' → some r' = some r0) ∧ ∀ j24_e6 : Bool, ∀ _ : Unit, o' = Brk.nx j24_e6 → Sk [(8, .bool false), (9, .bool t1), (10, bp b15 0), (12, bp bm 0), (24, .bool j24_e6)] [Own 46 (ekI .u64) v105 t103, M8 g bm b15 mx36, Own 46 (ekI .u64) v39 qv39_e2, Own 3 (ekI .i64) v43 qv43_e2, Own 44 ek_stm_Entry v49 t47, R8 g.G, F]) (fun _ => rfl) ?_ (m := k) (x := ((0, false), ())) hlp6 ?_
  · clear h hlp6
    intro k x o_6 h hK6 ih6
    obtain ⟨⟨x25_6, x24_6⟩, _⟩ := x
    replace h : law08_StmSerial.l6 a2 mx36 qv43_e2 (k + 1) (x25_6, x24_6) = some o_6 := h
    first | rw [law08_StmSerial.l6] at h | unfold law08_StmSerial.l6 at h
    refine S.seq ?_
    refine S.seq ?_
    refine S.region ?_
    refine SO.v rfl (opv_move rfl) ?_
    refine SO.v rfl (opv_move rfl) ?_
    refine SO.v rfl (opv_len2 rfl Try.underlying23 hF2 hl2 rfl) ?_
    refine SO.v rfl (opv_lss rfl rfl) ?_
    refine SO.nil ?_
    rcases bool_or (decide (x25_6 < (a2.length : Int))) with b113 | b113
    · replace h := cond_t b113 h
      refine S.condT rfl b113 ?_
      refine S.skip ?_
      refine S.seq ?_
      refine S.block ?_
      refine S.seq ?_
      refine S.seq ?_
      obtain ⟨t114, ht115, h⟩ := opt_bind h
      obtain ⟨x119, hx120, h⟩ := opt_bind h
      refine S.draw2 (Y := fun Q => ∃ (_ _ _ _ _ _ _ _ _ _ _ : Unit), Q [(12, bp bm 0), (25, .int .i64 x25_6), (16, v43), (24, .bool x24_6), (2, v2), (8, .bool false), (9, .bool t1), (10, bp b15 0)] [Own 46 (ekI .u64) v105 t103, M8 g bm b15 mx36, Own 46 (ekI .u64) v39 qv39_e2, Own 3 (ekI .i64) v43 qv43_e2, Own 44 ek_stm_Entry v49 t47, R8 g.G, F]) (Z := fun Q => ∀ (_ _ _ _ _ : Unit) (v116 : Value) (_ _ _ _ _ _ _ : Unit), Q [(25, .int .i64 x25_6), (24, .bool x24_6), (2, v2), (8, .bool false), (9, .bool t1), (10, bp b15 0), (12, bp bm 0), (16, v43), (211, .bool ((t114.length : Int) != x119)), (205, v116)] [Own 3 (ekI .i64) v116 t114, Own 46 (ekI .u64) v105 t103, M8 g bm b15 mx36, Own 46 (ekI .u64) v39 qv39_e2, Own 3 (ekI .i64) v43 qv43_e2, Own 44 ek_stm_Entry v49 t47, R8 g.G, F]) (T := [tS 12 (bp bm 0), tS 25 (.int .i64 x25_6), tS 16 (v43), tE [(24, .bool x24_6), (2, v2), (8, .bool false), (9, .bool t1), (10, bp b15 0)], tR (Own 46 (ekI .u64) v105 t103), tR (M8 g bm b15 mx36), tR (Own 46 (ekI .u64) v39 qv39_e2), tR (Own 3 (ekI .i64) v43 qv43_e2), tR (Own 44 ek_stm_Entry v49 t47), tR (R8 g.G), tR (F), tS 203 (bp bm 0), tS 204 (.int .i64 x25_6), ⟨Value, [205], (fun v116 => [(205, v116)]), (fun v116 => [Own 3 (ekI .i64) v116 t114]), fun _ => rfl⟩, tS 206 (.int .i64 (t114.length : Int)), tS 207 (v43), tS 208 (.int .i64 x25_6), tS 209 (idxp v43 (x25_6.toNat * (ekI .i64).sz)), tS 210 (.int .i64 x119), tS 211 (.bool ((t114.length : Int) != x119))]) (D := [⟨[0], [], [11]⟩, ⟨[1], [], [12]⟩, ⟨[11, 12, 5], [], [13]⟩, ⟨[13], [], [14]⟩, ⟨[2], [], [15]⟩, ⟨[1], [], [16]⟩, ⟨[15, 16, 7], [], [17]⟩, ⟨[17, 7], [], [18]⟩, ⟨[14, 18], [], [19]⟩]) (ini := [0, 1, 2, 3, 4, 5, 6, 7, 8, 9, 10]) (fin := [1, 3, 0, 2, 19, 13, 4, 5, 6, 7, 8, 9, 10]) (bf := [[], [], [0, 1], [0, 1, 2], [], [], [4, 5], [4, 5, 6], [0, 1, 2, 3, 4, 5, 6, 7]]) (by kernel_rfl) (by kernel_rfl) (fun Q => by kernel_rfl) (fun x w h1 h2 => ⟨(), (), (), (), (), (), (), (), (), (), (), EnvAll.of h1 ⟨rfl, rfl, rfl, rfl, rfl, rfl, rfl, rfl, trivial⟩, h2⟩) (fun Q => by kernel_rfl) ⟨?_, ?_, ?_, ?_, ?_, ?_, ?_, ?_, ?_, trivial⟩ ?_
      · rintro Fr _
        refine SO.v rfl (opv_move rfl) ?_
        exact SO.nilZ fun a w h1 h2 h3 h4 h5 => PZ.of h1 h3 h5 (.cons () (.cons () (.nil ⟨EnvAll.of h2 ⟨rfl, rfl, trivial⟩, h4⟩)))
      · rintro Fr _
        refine SO.v rfl (opv_move rfl) ?_
        exact SO.nilZ fun a w h1 h2 h3 h4 h5 => PZ.of h1 h3 h5 (.cons () (.cons () (.nil ⟨EnvAll.of h2 ⟨rfl, rfl, trivial⟩, h4⟩)))
      · rintro Fr _ _ _
        refine SO.call (pre := [M8 _ _ _ _]) rfl Try.call14 rfl rfl rfl (told8.ct g bm b15 mx36 t114 x25_6 ht115) trivial ?_
        rintro v116 _ ⟨_, rfl, rfl⟩
        refine SO.rd fun hr117 => ?_
        refine SO.b1 ?_
        exact SO.nilZ fun a w h1 h2 h3 h4 h5 => PZ.of h1 h3 h5 (.cons () (.cons () (.cons () (.cons v116 (.nil ⟨EnvAll.of h2 ⟨rfl, rfl, rfl, trivial⟩, h4⟩)))))
      · rintro Fr v116
        refine SO.rd fun hr118 => ?_
        refine SO.v rfl (opv_lenR rfl Try.underlying24 hr118 rfl) ?_
        exact SO.nilZ fun a w h1 h2 h3 h4 h5 => PZ.of h1 h3 h5 (.cons v116 (.cons () (.nil ⟨EnvAll.of h2 ⟨rfl, rfl, trivial⟩, h4⟩)))
      · rintro Fr _
        refine SO.v rfl (opv_move rfl) ?_
        exact SO.nilZ fun a w h1 h2 h3 h4 h5 => PZ.of h1 h3 h5 (.cons () (.cons () (.nil ⟨EnvAll.of h2 ⟨rfl, rfl, trivial⟩, h4⟩)))
      · rintro Fr _
        refine SO.v rfl (opv_move rfl) ?_
        exact SO.nilZ fun a w h1 h2 h3 h4 h5 => PZ.of h1 h3 h5 (.cons () (.cons () (.nil ⟨EnvAll.of h2 ⟨rfl, rfl, trivial⟩, h4⟩)))
      · rintro Fr _ _ _
        refine SO.v rfl (opv_idx Try.underlying24 Try.sizeOf3 hr101 rfl rfl hx120) ?_
        exact SO.nilZ fun a w h1 h2 h3 h4 h5 => PZ.of h1 h3 h5 (.cons () (.cons () (.cons () (.cons () (.nil ⟨EnvAll.of h2 ⟨rfl, rfl, rfl, trivial⟩, h4⟩)))))
      · rintro Fr _ _
        refine SO.loadI1 (j := 0) rfl Try.isAgg3 (Rd.head hr101) hx120 rfl rfl rfl rfl ?_
        exact SO.nilZ fun a w h1 h2 h3 h4 h5 => PZ.of h1 h3 h5 (.cons () (.cons () (.cons () (.nil ⟨EnvAll.of h2 ⟨rfl, rfl, trivial⟩, h4⟩))))
      · rintro Fr _ _
        refine SO.v rfl (opv_neq rfl rfl) ?_
        exact SO.nilZ fun a w h1 h2 h3 h4 h5 => PZ.of h1 h3 h5 (.cons () (.cons () (.cons () (.nil ⟨EnvAll.of h2 ⟨rfl, rfl, rfl, trivial⟩, h4⟩))))
      rintro _ _ _ _ _ v116 _ _ _ _ _ _ _
      refine S.to (ρ' := [(25, .int .i64 x25_6), (24, .bool x24_6), (2, v2), (8, .bool false), (9, .bool t1), (10, bp b15 0), (12, bp bm 0), (16, v43), (211, .bool ((t114.length : Int) != x119))]) ⟨rfl, rfl, rfl, rfl, rfl, rfl, rfl, rfl, rfl, trivial⟩ ?_
      refine S.rd fun hr121 => ?_
      rcases bool_or ((t114.length : Int) != x119) with b122 | b122
      · replace h := cond_t b122 h
        refine S.condT rfl b122 ?_
        refine S.seq ?_
        refine S.region ?_
        refine SO.v rfl (opv_assign rfl) ?_
        refine SO.nil ?_
        refine S.to (ρ' := [(8, .bool false)]) ⟨rfl, trivial⟩ ?_
        cases h
        replace h := hK6.1 _ rfl
        cases h
        refine S.drop ?_
        refine S.drop ?_
        refine S.drop ?_
        refine S.drop ?_
        refine S.drop ?_
        refine S.drop ?_
        refine S.drop ?_
        exact S.ret1 Try.func3 rfl rfl (fun w hs hk => hR w _ _ ⟨rfl, rfl⟩ hs hk)
      replace h := cond_f b122 h
      refine S.condF rfl b122 ?_
      refine S.skip ?_
      obtain ⟨j24_7, hC7, hJ7⟩ := opt_bind h
      clear h
      refine S.cutP (G := Unit) (fun _ => True) (fun _ => [(2, v2), (8, .bool false), (9, .bool t1), (10, bp b15 0), (12, bp bm 0), (16, v43), (24, .bool j24_7), (25, .int .i64 x25_6)]) (fun _ => [Own 3 (ekI .i64) v116 t114, Own 46 (ekI .u64) v105 t103, M8 g bm b15 mx36, Own 46 (ekI .u64) v39 qv39_e2, Own 3 (ekI .i64) v43 qv43_e2, Own 44 ek_stm_Entry v49 t47, R8 g.G, F]) (fun hk7 => ?_) ?_
      · replace h := hC7
        rcases bool_or x24_6 with b123 | b123
        · replace h := cond_t b123 h
          refine S.draw2 (Y := fun Q => ∃ (_ _ _ _ _ _ _ _ _ _ _ _ _ : Unit), Q [(24, .bool x24_6), (16, v43), (25, .int .i64 x25_6), (2, v2), (8, .bool false), (9, .bool t1), (10, bp b15 0), (12, bp bm 0)] [Own 3 (ekI .i64) v116 t114, Own 46 (ekI .u64) v105 t103, M8 g bm b15 mx36, Own 46 (ekI .u64) v39 qv39_e2, Own 3 (ekI .i64) v43 qv43_e2, Own 44 ek_stm_Entry v49 t47, R8 g.G, F]) (Z := fun Q => ∀ (_ _ _ _ _ _ _ _ _ _ _ _ _ : Unit), Q [(25, .int .i64 x25_6), (24, .bool true), (2, v2), (8, .bool false), (9, .bool t1), (10, bp b15 0), (12, bp bm 0), (16, v43)] [Own 3 (ekI .i64) v116 t114, Own 46 (ekI .u64) v105 t103, M8 g bm b15 mx36, Own 46 (ekI .u64) v39 qv39_e2, Own 3 (ekI .i64) v43 qv43_e2, Own 44 ek_stm_Entry v49 t47, R8 g.G, F]) (T := [tS 24 (.bool x24_6), tS 16 (v43), tS 25 (.int .i64 x25_6), tS 2 (v2), tE [(8, .bool false), (9, .bool t1), (10, bp b15 0), (12, bp bm 0)], tR (Own 3 (ekI .i64) v116 t114), tR (Own 46 (ekI .u64) v105 t103), tR (M8 g bm b15 mx36), tR (Own 46 (ekI .u64) v39 qv39_e2), tR (Own 3 (ekI .i64) v43 qv43_e2), tR (Own 44 ek_stm_Entry v49 t47), tR (R8 g.G), tR (F), tS 212 (.bool x24_6), tS 213 (.bool x24_6), tS 214 (undef), tS 215 (undef), tS 216 (undef), tS 217 (undef), tS 218 (undef), tS 219 (undef), tS 220 (undef), tS 221 (undef), tS 222 (undef), tS 223 (undef), tS 224 (.bool true), tS 24 (.bool true)]) (D := [⟨[0], [], [13]⟩, ⟨[13], [], [14]⟩, ⟨[14], [], [15]⟩, ⟨[14], [], [16]⟩, ⟨[14], [], [17]⟩, ⟨[14], [], [18]⟩, ⟨[14], [], [19]⟩, ⟨[14], [], [20]⟩, ⟨[14], [], [21]⟩, ⟨[14], [], [22]⟩, ⟨[14], [], [23]⟩, ⟨[14], [], [24]⟩, ⟨[14, 24], [], [25]⟩, ⟨[25], [0], [26]⟩]) (ini := [0, 1, 2, 3, 4, 5, 6, 7, 8, 9, 10, 11, 12]) (fin := [2, 26, 3, 4, 1, 5, 6, 7, 8, 9, 10, 11, 12]) (bf := [[], [0], [0, 1], [0, 1], [0, 1, 2, 3], [0, 1, 2, 3, 4], [0, 1], [0, 1], [0, 1, 6, 7], [0, 1, 6, 7, 8], [0, 1, 6, 7, 8, 9], [0, 1, 2, 3, 4, 5, 6, 7, 8, 9, 10], [0, 1, 2, 3, 4, 5, 6, 7, 8, 9, 10, 11], [0, 1, 2, 3, 4, 5, 6, 7, 8, 9, 10, 11, 12]]) (by kernel_rfl) (by kernel_rfl) (fun Q => by kernel_rfl) (fun x w h1 h2 => ⟨(), (), (), (), (), (), (), (), (), (), (), (), (), EnvAll.of h1 ⟨rfl, rfl, rfl, rfl, rfl, rfl, rfl, rfl, trivial⟩, h2⟩) (fun Q => by kernel_rfl) ⟨?_, ?_, ?_, ?_, ?_, ?_, ?_, ?_, ?_, ?_, ?_, ?_, ?_, ?_, trivial⟩ ?_
          · rintro Fr _
            refine SO.v rfl (opv_move rfl) ?_
            exact SO.nilZ fun a w h1 h2 h3 h4 h5 => PZ.of h1 h3 h5 (.cons () (.cons () (.nil ⟨EnvAll.of h2 ⟨rfl, rfl, trivial⟩, h4⟩)))
          · rintro Fr _
            refine SO.v rfl (opv_move rfl) ?_
            exact SO.nilZ fun a w h1 h2 h3 h4 h5 => PZ.of h1 h3 h5 (.cons () (.cons () (.nil ⟨EnvAll.of h2 ⟨rfl, rfl, trivial⟩, h4⟩)))
          · rintro Fr _
            refine SO.passF rfl rfl rfl b123 rfl rfl ?_
            exact SO.nilZ fun a w h1 h2 h3 h4 h5 => PZ.of h1 h3 h5 (.cons () (.cons () (.nil ⟨EnvAll.of h2 ⟨rfl, rfl, trivial⟩, h4⟩)))
          · rintro Fr _
            refine SO.passF rfl rfl rfl b123 rfl rfl ?_
            exact SO.nilZ fun a w h1 h2 h3 h4 h5 => PZ.of h1 h3 h5 (.cons () (.cons () (.nil ⟨EnvAll.of h2 ⟨rfl, rfl, trivial⟩, h4⟩)))
          · rintro Fr _
            refine SO.passF rfl rfl rfl b123 rfl rfl ?_
            exact SO.nilZ fun a w h1 h2 h3 h4 h5 => PZ.of h1 h3 h5 (.cons () (.cons () (.nil ⟨EnvAll.of h2 ⟨rfl, rfl, trivial⟩, h4⟩)))
          · rintro Fr _
            refine SO.passF rfl rfl rfl b123 rfl rfl ?_
            exact SO.nilZ fun a w h1 h2 h3 h4 h5 => PZ.of h1 h3 h5 (.cons () (.cons () (.nil ⟨EnvAll.of h2 ⟨rfl, rfl, trivial⟩, h4⟩)))
          · rintro Fr _
            refine SO.passF rfl rfl rfl b123 rfl rfl ?_
            exact SO.nilZ fun a w h1 h2 h3 h4 h5 => PZ.of h1 h3 h5 (.cons () (.cons () (.nil ⟨EnvAll.of h2 ⟨rfl, rfl, trivial⟩, h4⟩)))
          · rintro Fr _
            refine SO.passF rfl rfl rfl b123 rfl rfl ?_
            exact SO.nilZ fun a w h1 h2 h3 h4 h5 => PZ.of h1 h3 h5 (.cons () (.cons () (.nil ⟨EnvAll.of h2 ⟨rfl, rfl, trivial⟩, h4⟩)))
          · rintro Fr _
            refine SO.passF rfl rfl rfl b123 rfl rfl ?_
            exact SO.nilZ fun a w h1 h2 h3 h4 h5 => PZ.of h1 h3 h5 (.cons () (.cons () (.nil ⟨EnvAll.of h2 ⟨rfl, rfl, trivial⟩, h4⟩)))
          · rintro Fr _
            refine SO.passF rfl rfl rfl b123 rfl rfl ?_
            exact SO.nilZ fun a w h1 h2 h3 h4 h5 => PZ.of h1 h3 h5 (.cons () (.cons () (.nil ⟨EnvAll.of h2 ⟨rfl, rfl, trivial⟩, h4⟩)))
          · rintro Fr _
            refine SO.passF rfl rfl rfl b123 rfl rfl ?_
            exact SO.nilZ fun a w h1 h2 h3 h4 h5 => PZ.of h1 h3 h5 (.cons () (.cons () (.nil ⟨EnvAll.of h2 ⟨rfl, rfl, trivial⟩, h4⟩)))
          · rintro Fr _
            refine SO.passF rfl rfl rfl b123 rfl rfl ?_
            exact SO.nilZ fun a w h1 h2 h3 h4 h5 => PZ.of h1 h3 h5 (.cons () (.cons () (.nil ⟨EnvAll.of h2 ⟨rfl, rfl, trivial⟩, h4⟩)))
          · rintro Fr _ _
            refine SO.v rfl (opv_pick_t' b123 rfl rfl) ?_
            exact SO.nilZ fun a w h1 h2 h3 h4 h5 => PZ.of h1 h3 h5 (.cons () (.cons () (.cons () (.nil ⟨EnvAll.of h2 ⟨rfl, rfl, rfl, trivial⟩, h4⟩))))
          · rintro Fr _ _
            refine SO.v rfl (opv_assign rfl) ?_
            exact SO.nilZ fun a w h1 h2 h3 h4 h5 => PZ.of h1 h3 h5 (.cons () (.cons () (.nil ⟨EnvAll.of h2 ⟨rfl, rfl, trivial⟩, h4⟩)))
          rintro _ _ _ _ _ _ _ _ _ _ _ _ _
          refine S.to (ρ' := [(25, .int .i64 x25_6), (24, .bool true), (2, v2), (8, .bool false), (9, .bool t1), (10, bp b15 0), (12, bp bm 0), (16, v43)]) ⟨rfl, rfl, rfl, rfl, rfl, rfl, rfl, rfl, trivial⟩ ?_
          cases h
          refine S.b7 ?_
          refine S.b7 ?_
          refine S.b7 ?_
          refine S.b7 ?_
          refine S.b7 ?_
          refine S.b7 ?_
          refine S.b7 ?_
          refine S.b7 ?_
          refine S.to ?_ (hk7 () trivial)
          exact ⟨rfl, rfl, rfl, rfl, rfl, rfl, rfl, rfl, trivial⟩
        replace h := cond_f b123 h
        obtain ⟨x124, hx125, h⟩ := opt_bind h
        obtain ⟨x126, hx127, h⟩ := opt_bind h
        obtain ⟨y128, hy129, hr130⟩ := Rd3.at_ hl2 hR2 hx127
        obtain ⟨vs230, hF230, hl230, hR230⟩ := hr130
        refine S.draw2 (Y := fun Q => ∃ (_ _ _ _ _ _ _ _ _ _ _ _ _ : Unit), Q [(24, .bool x24_6), (16, v43), (25, .int .i64 x25_6), (2, v2), (8, .bool false), (9, .bool t1), (10, bp b15 0), (12, bp bm 0)] [Own 3 (ekI .i64) v116 t114, Own 46 (ekI .u64) v105 t103, M8 g bm b15 mx36, Own 46 (ekI .u64) v39 qv39_e2, Own 3 (ekI .i64) v43 qv43_e2, Own 44 ek_stm_Entry v49 t47, R8 g.G, F]) (Z := fun Q => ∀ (_ _ _ _ _ _ _ _ _ _ _ _ _ : Unit), Q [(25, .int .i64 x25_6), (24, .bool (decide (x124 < (x126.length : Int)))), (2, v2), (8, .bool false), (9, .bool t1), (10, bp b15 0), (12, bp bm 0), (16, v43)] [Own 3 (ekI .i64) v116 t114, Own 46 (ekI .u64) v105 t103, M8 g bm b15 mx36, Own 46 (ekI .u64) v39 qv39_e2, Own 3 (ekI .i64) v43 qv43_e2, Own 44 ek_stm_Entry v49 t47, R8 g.G, F]) (T := [tS 24 (.bool x24_6), tS 16 (v43), tS 25 (.int .i64 x25_6), tS 2 (v2), tE [(8, .bool false), (9, .bool t1), (10, bp b15 0), (12, bp bm 0)], tR (Own 3 (ekI .i64) v116 t114), tR (Own 46 (ekI .u64) v105 t103), tR (M8 g bm b15 mx36), tR (Own 46 (ekI .u64) v39 qv39_e2), tR (Own 3 (ekI .i64) v43 qv43_e2), tR (Own 44 ek_stm_Entry v49 t47), tR (R8 g.G), tR (F), tS 212 (.bool x24_6), tS 213 (.bool x24_6), tS 214 (v43), tS 215 (.int .i64 x25_6), tS 216 (idxp v43 (x25_6.toNat * (ekI .i64).sz)), tS 217 (.int .i64 x124), tS 218 (v2), tS 219 (.int .i64 x25_6), tS 220 (idxp v2 (x25_6.toNat * ekS.sz)), tS 221 (y128.1), tS 222 (.int .i64 (x126.length : Int)), tS 223 (.bool (decide (x124 < (x126.length : Int)))), tS 224 (.bool (decide (x124 < (x126.length : Int)))), tS 24 (.bool (decide (x124 < (x126.length : Int))))]) (D := [⟨[0], [], [13]⟩, ⟨[13], [], [14]⟩, ⟨[1, 14], [], [15]⟩, ⟨[2, 14], [], [16]⟩, ⟨[14, 15, 16, 9], [], [17]⟩, ⟨[14, 17, 9], [], [18]⟩, ⟨[3, 14], [], [19]⟩, ⟨[2, 14], [], [20]⟩, ⟨[14, 19, 20, 12], [], [21]⟩, ⟨[14, 21, 12], [], [22]⟩, ⟨[14, 22, 12], [], [23]⟩, ⟨[14, 18, 23], [], [24]⟩, ⟨[14, 24], [], [25]⟩, ⟨[25], [0], [26]⟩]) (ini := [0, 1, 2, 3, 4, 5, 6, 7, 8, 9, 10, 11, 12]) (fin := [2, 26, 3, 4, 1, 5, 6, 7, 8, 9, 10, 11, 12]) (bf := [[], [0], [0, 1], [0, 1], [0, 1, 2, 3], [0, 1, 2, 3, 4], [0, 1], [0, 1], [0, 1, 6, 7], [0, 1, 6, 7, 8], [0, 1, 6, 7, 8, 9], [0, 1, 2, 3, 4, 5, 6, 7, 8, 9, 10], [0, 1, 2, 3, 4, 5, 6, 7, 8, 9, 10, 11], [0, 1, 2, 3, 4, 5, 6, 7, 8, 9, 10, 11, 12]]) (by kernel_rfl) (by kernel_rfl) (fun Q => by kernel_rfl) (fun x w h1 h2 => ⟨(), (), (), (), (), (), (), (), (), (), (), (), (), EnvAll.of h1 ⟨rfl, rfl, rfl, rfl, rfl, rfl, rfl, rfl, trivial⟩, h2⟩) (fun Q => by kernel_rfl) ⟨?_, ?_, ?_, ?_, ?_, ?_, ?_, ?_, ?_, ?_, ?_, ?_, ?_, ?_, trivial⟩ ?_
        · rintro Fr _
          refine SO.v rfl (opv_move rfl) ?_
          exact SO.nilZ fun a w h1 h2 h3 h4 h5 => PZ.of h1 h3 h5 (.cons () (.cons () (.nil ⟨EnvAll.of h2 ⟨rfl, rfl, trivial⟩, h4⟩)))
        · rintro Fr _
          refine SO.v rfl (opv_move rfl) ?_
          exact SO.nilZ fun a w h1 h2 h3 h4 h5 => PZ.of h1 h3 h5 (.cons () (.cons () (.nil ⟨EnvAll.of h2 ⟨rfl, rfl, trivial⟩, h4⟩)))
        · rintro Fr _ _
          refine SO.takeT rfl rfl rfl b123 ?_
          refine SO.v rfl (opv_move rfl) ?_
          exact SO.nilZ fun a w h1 h2 h3 h4 h5 => PZ.of h1 h3 h5 (.cons () (.cons () (.cons () (.nil ⟨EnvAll.of h2 ⟨rfl, rfl, rfl, trivial⟩, h4⟩))))
        · rintro Fr _ _
          refine SO.takeT rfl rfl rfl b123 ?_
          refine SO.v rfl (opv_move rfl) ?_
          exact SO.nilZ fun a w h1 h2 h3 h4 h5 => PZ.of h1 h3 h5 (.cons () (.cons () (.cons () (.nil ⟨EnvAll.of h2 ⟨rfl, rfl, rfl, trivial⟩, h4⟩))))
        · rintro Fr _ _ _ _
          refine SO.takeT rfl rfl rfl b123 ?_
          refine SO.v rfl (opv_idx Try.underlying24 Try.sizeOf3 hr101 rfl rfl hx125) ?_
          exact SO.nilZ fun a w h1 h2 h3 h4 h5 => PZ.of2 (Y := fun Q => ∃ (_ _ _ _ _ : Unit), Q [(213, .bool x24_6), (214, v43), (215, .int .i64 x25_6), (216, idxp v43 (x25_6.toNat * (ekI .i64).sz))] [Own 3 (ekI .i64) v43 qv43_e2]) (fun Q => by kernel_rfl) h1 h3 h5 ⟨(), (), (), (), (), EnvAll.of h2 ⟨rfl, rfl, rfl, rfl, trivial⟩, h4⟩
        · rintro Fr _ _ _
          refine SO.takeT rfl rfl rfl b123 ?_
          refine SO.loadI1 (j := 0) rfl Try.isAgg3 (Rd.head hr101) hx125 rfl rfl rfl rfl ?_
          exact SO.nilZ fun a w h1 h2 h3 h4 h5 => PZ.of h1 h3 h5 (.cons () (.cons () (.cons () (.cons () (.nil ⟨EnvAll.of h2 ⟨rfl, rfl, rfl, trivial⟩, h4⟩)))))
        · rintro Fr _ _
          refine SO.takeT rfl rfl rfl b123 ?_
          refine SO.v rfl (opv_move rfl) ?_
          exact SO.nilZ fun a w h1 h2 h3 h4 h5 => PZ.of h1 h3 h5 (.cons () (.cons () (.cons () (.nil ⟨EnvAll.of h2 ⟨rfl, rfl, rfl, trivial⟩, h4⟩))))
        · rintro Fr _ _
          refine SO.takeT rfl rfl rfl b123 ?_
          refine SO.v rfl (opv_move rfl) ?_
          exact SO.nilZ fun a w h1 h2 h3 h4 h5 => PZ.of h1 h3 h5 (.cons () (.cons () (.cons () (.nil ⟨EnvAll.of h2 ⟨rfl, rfl, rfl, trivial⟩, h4⟩))))
        · rintro Fr _ _ _ _
          refine SO.takeT rfl rfl rfl b123 ?_
          refine SO.v rfl (opv_idx Try.underlying23 Try.sizeOf45 hF2 rfl rfl hy129) ?_
          exact SO.nilZ fun a w h1 h2 h3 h4 h5 => PZ.of2 (Y := fun Q => ∃ (_ _ _ _ _ : Unit), Q [(213, .bool x24_6), (218, v2), (219, .int .i64 x25_6), (220, idxp v2 (x25_6.toNat * ekS.sz))] [F]) (fun Q => by kernel_rfl) h1 h3 h5 ⟨(), (), (), (), (), EnvAll.of h2 ⟨rfl, rfl, rfl, rfl, trivial⟩, h4⟩
        · rintro Fr _ _ _
          refine SO.takeT rfl rfl rfl b123 ?_
          refine SO.loadI1 (j := 0) rfl Try.isAgg45 (Rd.head hF2) hy129 rfl rfl rfl rfl ?_
          exact SO.nilZ fun a w h1 h2 h3 h4 h5 => PZ.of h1 h3 h5 (.cons () (.cons () (.cons () (.cons () (.nil ⟨EnvAll.of h2 ⟨rfl, rfl, rfl, trivial⟩, h4⟩)))))
        · rintro Fr _ _ _
          refine SO.takeT rfl rfl rfl b123 ?_
          refine SO.v rfl (opv_len2 rfl Try.underlying45 hF230 hl230 rfl) ?_
          exact SO.nilZ fun a w h1 h2 h3 h4 h5 => PZ.of h1 h3 h5 (.cons () (.cons () (.cons () (.cons () (.nil ⟨EnvAll.of h2 ⟨rfl, rfl, rfl, trivial⟩, h4⟩)))))
        · rintro Fr _ _ _
          refine SO.takeT rfl rfl rfl b123 ?_
          refine SO.v rfl (opv_lss rfl rfl) ?_
          exact SO.nilZ fun a w h1 h2 h3 h4 h5 => PZ.of h1 h3 h5 (.cons () (.cons () (.cons () (.cons () (.nil ⟨EnvAll.of h2 ⟨rfl, rfl, rfl, rfl, trivial⟩, h4⟩)))))
        · rintro Fr _ _
          refine SO.v rfl (opv_pick_f' b123 rfl rfl) ?_
          exact SO.nilZ fun a w h1 h2 h3 h4 h5 => PZ.of h1 h3 h5 (.cons () (.cons () (.cons () (.nil ⟨EnvAll.of h2 ⟨rfl, rfl, rfl, trivial⟩, h4⟩))))
        · rintro Fr _ _
          refine SO.v rfl (opv_assign rfl) ?_
          exact SO.nilZ fun a w h1 h2 h3 h4 h5 => PZ.of h1 h3 h5 (.cons () (.cons () (.nil ⟨EnvAll.of h2 ⟨rfl, rfl, trivial⟩, h4⟩)))
        rintro _ _ _ _ _ _ _ _ _ _ _ _ _
        refine S.to (ρ' := [(25, .int .i64 x25_6), (24, .bool (decide (x124 < (x126.length : Int)))), (2, v2), (8, .bool false), (9, .bool t1), (10, bp b15 0), (12, bp bm 0), (16, v43)]) ⟨rfl, rfl, rfl, rfl, rfl, rfl, rfl, rfl, trivial⟩ ?_
        cases h
        refine S.b7 ?_
        refine S.b7 ?_
        refine S.b7 ?_
        refine S.b7 ?_
        refine S.b7 ?_
        refine S.b7 ?_
        refine S.b7 ?_
        refine S.b7 ?_
        refine S.to ?_ (hk7 () trivial)
        exact ⟨rfl, rfl, rfl, rfl, rfl, rfl, rfl, rfl, trivial⟩
      rintro _ -
      replace h := hJ7
      refine S.inBlock ?_
      refine S.region ?_
      refine SO.v rfl (opv_move rfl) ?_
      refine SO.v rfl (opv_add rfl rfl) ?_
      refine SO.v rfl (opv_assign rfl) ?_
      refine SO.nil ?_
      refine S.drop ?_
      refine S.b6 ?_
      refine S.b6 ?_
      refine S.b6 ?_
      refine S.b6 ?_
      refine S.b6 ?_
      refine S.b6 ?_
      refine S.b6 ?_
      refine S.to ?_ (ih6 ((w64 (x25_6 + 1), j24_7), ()) h)
      exact ⟨rfl, rfl, rfl, rfl, rfl, rfl, rfl, rfl, trivial⟩
    replace h := cond_f b113 h
    refine S.condF rfl b113 ?_
    refine S.exit rfl ?_
    cases h
    refine S.b6 ?_
    refine S.b6 ?_
    refine S.b6 ?_
    refine S.b6 ?_
    refine S.b6 ?_
    refine S.b6 ?_
    refine S.b6 ?_
    refine S.to ?_ (hK6.2 x24_6 () rfl)
    exact ⟨rfl, rfl, rfl, rfl, rfl, trivial⟩
  refine ⟨fun r' e' => ?_, ?_⟩
  · subst e'
    have h9 := Brk.of_ret h
    exact h9
  rintro j24_e6 _ e'
  subst e'
  replace h := Brk.of_nx h
  refine S.seq ?_
  refine S.region ?_
  refine SO.v rfl (opv_move rfl) ?_
  refine SO.v rfl (opv_move rfl) ?_
  obtain ⟨c132, hc133, hgk⟩ := opt_bind h
  refine SO.cut 4 230 (.bool c132) [Own 46 (ekI .u64) v105 t103, M8 g bm b15 mx36, Own 46 (ekI .u64) v39 qv39_e2, Own 3 (ekI .i64) v43 qv43_e2, Own 44 ek_stm_Entry v49 t47, R8 g.G, F] (fun l2 hk2 => ?_) ?_
  · clear hgk
    replace h := hc133
    rcases bool_or t1 with b131 | b131
    · replace h := cond_t b131 h
      refine SO.takeT rfl rfl rfl b131 ?_
      refine SO.v rfl (opv_move rfl) ?_
      refine SO.takeT rfl rfl rfl b131 ?_
      obtain ⟨t134, ht135, h⟩ := opt_bind h
      refine SO.b1 ?_
      refine SO.call (pre := [M8 _ _ _ _]) rfl Try.call17 rfl rfl rfl (marks8.ct g k bm b15 mx36 t134 ht135) trivial ?_
      rintro _ _ ⟨rfl, rfl⟩
      refine SO.takeT rfl rfl rfl b131 ?_
      refine SO.v rfl (opv_eql rfl rfl) ?_
      cases h
      refine SO.v rfl (opv_pick_t' b131 rfl rfl) ?_
      refine SO.b6 ?_
      refine SO.b6 ?_
      refine SO.b6 ?_
      refine SO.b6 ?_
      refine SO.b6 ?_
      refine SO.b5 ?_
      refine SO.b6 ?_
      exact hk2.fitc (m := 4) rfl (rfl) rfl
    replace h := cond_f b131 h
    refine SO.passF rfl rfl rfl b131 rfl rfl ?_
    refine SO.passF rfl rfl rfl b131 rfl rfl ?_
    refine SO.passF rfl rfl rfl b131 rfl rfl ?_
    cases h
    refine SO.v rfl (opv_pick_f' b131 rfl rfl) ?_
    refine SO.b6 ?_
    refine SO.b6 ?_
    refine SO.b6 ?_
    refine SO.b6 ?_
    refine SO.b6 ?_
    refine SO.b6 ?_
    refine SO.b6 ?_
    exact hk2.fitc (m := 4) rfl (rfl) rfl
  clear hc133
  replace h := hgk
  refine SO.v rfl (opv_move rfl) ?_
  obtain ⟨c137, hc138, hgk⟩ := opt_bind h
  refine SO.cut 6 237 (.bool c137) [Own 46 (ekI .u64) v105 t103, M8 g bm b15 mx36, Own 46 (ekI .u64) v39 qv39_e2, Own 3 (ekI .i64) v43 qv43_e2, Own 44 ek_stm_Entry v49 t47, R8 g.G, F] (fun l2 hk2 => ?_) ?_
  · clear hgk
    replace h := hc138
    rcases bool_or c132 with b136 | b136
    · replace h := cond_t b136 h
      refine SO.takeT rfl rfl rfl b136 ?_
      refine SO.v rfl (opv_move rfl) ?_
      refine SO.takeT rfl rfl rfl b136 ?_
      obtain ⟨t139, ht140, h⟩ := opt_bind h
      refine SO.b5 ?_
      refine SO.b2 ?_
      refine SO.call (pre := [M8 _ _ _ _, R8 g.G]) rfl Try.call18 rfl rfl rfl (idle8.ct g k bm b15 mx36 t139 ht140) trivial ?_
      rintro _ _ ⟨rfl, rfl⟩
      refine SO.takeT rfl rfl rfl b136 ?_
      refine SO.v rfl (opv_move rfl) ?_
      refine SO.takeT rfl rfl rfl b136 ?_
      refine SO.v rfl (opv_not rfl) ?_
      refine SO.takeT rfl rfl rfl b136 ?_
      refine SO.v rfl (opv_eqlB Try.underlying4 rfl rfl) ?_
      cases h
      refine SO.v rfl (opv_pick_t' b136 rfl rfl) ?_
      refine SO.b6 ?_
      refine SO.b2 ?_
      refine SO.b6 ?_
      refine SO.b6 ?_
      refine SO.b6 ?_
      refine SO.b5 ?_
      refine SO.b6 ?_
      exact hk2.fitc (m := 6) rfl (rfl) rfl
    replace h := cond_f b136 h
    refine SO.passF rfl rfl rfl b136 rfl rfl ?_
    refine SO.passF rfl rfl rfl b136 rfl rfl ?_
    refine SO.passF rfl rfl rfl b136 rfl rfl ?_
    refine SO.passF rfl rfl rfl b136 rfl rfl ?_
    refine SO.passF rfl rfl rfl b136 rfl rfl ?_
    cases h
    refine SO.v rfl (opv_pick_f' b136 rfl rfl) ?_
    refine SO.b6 ?_
    refine SO.b6 ?_
    refine SO.b6 ?_
    refine SO.b6 ?_
    refine SO.b6 ?_
    refine SO.b6 ?_
    refine SO.b6 ?_
    exact hk2.fitc (m := 6) rfl (rfl) rfl
  clear hc138
  replace h := hgk
  refine SO.v rfl (opv_assign rfl) ?_
  refine SO.nil ?_
  refine S.to (ρ' := [(8, .bool c137)]) ⟨rfl, trivial⟩ ?_
  cases h
  refine S.drop ?_
  refine S.drop ?_
  refine S.drop ?_
  refine S.drop ?_
  refine S.drop ?_
  refine S.drop ?_
  exact S.ret1 Try.func3 rfl rfl (fun w hs hk => hR w _ _ ⟨rfl, rfl⟩ hs hk)
end Go.Proofs
