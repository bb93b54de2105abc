/- What the functions that TcbPlays reaches come to, and that they do. On no condition. -/
import Derived.Test.YtoccfjmgbcbbkaaFnTcbPlays0
import Derived.Test.YtoccfjmgbcbbkaaFnTcbPlays1
set_option linter.all false
namespace Go.Proofs
open Go.Sl Go.RowKit
/-! 76 slices.Index[[]int,int] -/
def slices_Index_int_int.l1 (a0 : List Int) (a1 : Int) : Nat → Int → Option (Brk Int Unit)
  | 0, _ => none
  | k + 1, x8_1 => bif decide (x8_1 < (a0.length : Int)) then ((at_ a0 x8_1).bind fun x2 => bif a1 == x2 then (some (Brk.ret x8_1)) else (slices_Index_int_int.l1 a0 a1 k (w64 (x8_1 + 1)))) else (some (Brk.nx ()))
def slices_Index_int_int.f (k : Nat) (a0 : List Int) (a1 : Int) : Option (Int) :=
  (slices_Index_int_int.l1 a0 a1 k 0).bind fun o1 => Brk.go o1 (fun r => some r) (fun _ => some (-1))
set_option maxHeartbeats 8000000 in
set_option maxRecDepth 100000 in
theorem slices_Index_int_int.ct (k : Nat) (v0 : Value) (a0 : List Int) (a1 : Int) (r0 : Int) (h : slices_Index_int_int.f k a0 a1 = some r0) :
    Ct Try.prog 76 [v0, .int .i64 a1] (fun F => Rd (ekI .i64) v0 a0 F) [] (fun u H' => u = .int .i64 r0 ∧ H' = []) := by
  unfold slices_Index_int_int.f at h
  refine Ct.intro (n := 19) Try.func76 rfl rfl rfl ?_
  intro R w0 F hF hR
  have hF0 := hF
  refine S.seq ?_
  refine S.region ?_
  refine SO.v rfl (opv_assign rfl) ?_
  refine SO.nil ?_
  refine S.seq ?_
  refine S.seq ?_
  refine S.region ?_
  refine SO.v rfl (opv_move rfl) ?_
  refine SO.v rfl (opv_lenR rfl Try.underlying29 hF0 rfl) ?_
  refine SO.v rfl (opv_move rfl) ?_
  refine SO.nil ?_
  obtain ⟨o1, hl1, h⟩ := opt_bind h
  refine S.to (ρ' := [(8, .int .i64 0), (7, .int .i64 (a0.length : Int)), (4, .int .i64 0), (0, v0), (1, .int .i64 a1)]) ⟨rfl, rfl, rfl, rfl, rfl, trivial⟩ ?_
  refine S.forloop (X := Int × Unit) (O := Brk Int Unit) (fun m x => slices_Index_int_int.l1 a0 a1 m x.1) (fun x => match x with | (x8_1, _) => [(8, .int .i64 x8_1), (7, .int .i64 (a0.length : Int)), (4, .int .i64 0), (0, v0), (1, .int .i64 a1)]) (fun x => match x with | (x8_1, _) => [F]) (fun Sk o' => (∀ r', o' = Brk.ret r' → some r' = some r0) ∧ ∀ _ : Unit, ∀ _ : Unit, o' = Brk.nx () → Sk [(4, .int .i64 0)] [F]) (fun _ => rfl) ?_ (m := k) (x := (0, ())) hl1 ?_
  · clear h hl1
    intro k x o_1 h hK1 ih1
    obtain ⟨x8_1, _⟩ := x
    replace h : slices_Index_int_int.l1 a0 a1 (k + 1) x8_1 = some o_1 := h
    first | rw [slices_Index_int_int.l1] at h | unfold slices_Index_int_int.l1 at h
    refine S.seq ?_
    refine S.region ?_
    refine SO.v rfl (opv_lss rfl rfl) ?_
    refine SO.nil ?_
    refine S.seq ?_
    rcases bool_or (decide (x8_1 < (a0.length : Int))) with b1 | b1
    · replace h := cond_t b1 h
      refine S.condT rfl b1 ?_
      refine S.skip ?_
      refine S.seq ?_
      refine S.block ?_
      refine S.seq ?_
      refine S.region ?_
      refine SO.v rfl (opv_move rfl) ?_
      refine SO.v rfl (opv_assign rfl) ?_
      refine SO.nil ?_
      refine S.seq ?_
      refine S.region ?_
      refine SO.v rfl (opv_move rfl) ?_
      refine SO.v rfl (opv_move rfl) ?_
      refine SO.v rfl (opv_move rfl) ?_
      obtain ⟨x2, hx3, h⟩ := opt_bind h
      refine SO.v rfl (opv_idx Try.underlying29 Try.sizeOf3 hF0 rfl rfl hx3) ?_
      refine SO.loadI1 (j := 0) rfl Try.isAgg3 (Rd.head hF0) hx3 rfl rfl rfl rfl ?_
      refine SO.v rfl (opv_eql rfl rfl) ?_
      refine SO.nil ?_
      refine S.to (ρ' := [(8, .int .i64 x8_1), (7, .int .i64 (a0.length : Int)), (4, .int .i64 0), (0, v0), (1, .int .i64 a1), (5, .int .i64 x8_1), (16, .bool (a1 == x2))]) ⟨rfl, rfl, rfl, rfl, rfl, rfl, rfl, trivial⟩ ?_
      rcases bool_or (a1 == x2) with b4 | b4
      · replace h := cond_t b4 h
        refine S.condT rfl b4 ?_
        refine S.seq ?_
        refine S.region ?_
        refine SO.v rfl (opv_move rfl) ?_
        refine SO.v rfl (opv_assign rfl) ?_
        refine SO.nil ?_
        refine S.to (ρ' := [(4, .int .i64 x8_1)]) ⟨rfl, trivial⟩ ?_
        cases h
        replace h := hK1.1 _ rfl
        cases h
        exact S.ret1 Try.func76 rfl rfl (fun w hs hk => hR w _ _ ⟨rfl, rfl⟩ hs hk)
      · replace h := cond_f b4 h
        refine S.condF rfl b4 ?_
        refine S.skip ?_
        refine S.inBlock ?_
        refine S.region ?_
        refine SO.v rfl (opv_add rfl rfl) ?_
        refine SO.v rfl (opv_move rfl) ?_
        refine SO.nil ?_
        refine S.to ?_ (ih1 (w64 (x8_1 + 1), ()) h)
        exact ⟨rfl, rfl, rfl, rfl, rfl, trivial⟩
    · replace h := cond_f b1 h
      refine S.condF rfl b1 ?_
      refine S.exit rfl ?_
      cases h
      refine S.to ?_ (hK1.2 () () rfl)
      exact ⟨rfl, trivial⟩
  refine ⟨fun r' e' => ?_, ?_⟩
  · subst e'
    have h9 := Brk.of_ret h
    exact h9
  rintro _ _ e'
  subst e'
  replace h := Brk.of_nx h
  refine S.seq ?_
  refine S.region ?_
  refine SO.v rfl (opv_assign rfl) ?_
  refine SO.nil ?_
  cases h
  exact S.ret1 Try.func76 rfl rfl (fun w hs hk => hR w _ _ ⟨rfl, rfl⟩ hs hk)
end Go.Proofs
namespace Go.Proofs
open Go.Sl Go.RowKit
/-! 68 padstone/queue.Remove -/
def queue_Remove.f (k : Nat) (a1 : Int) (a2 : Int) : VM (Bool) :=
  (queue_List.f k a1).bind fun t1 => (VM.opt (slices_Index_int_int.f k t1 a2)).bind fun t6 => bif decide (t6 < 0) then (VM.ret false) else ((VM.opt (slices_Delete_int_int.f t1 t6 (w64 (t6 + 1)))).bind fun t9 => (queue_put.f k a1 t9).bind fun _ => (lay_Put.f a2 2 0).bind fun _ => VM.ret true)
set_option maxHeartbeats 8000000 in
set_option maxRecDepth 100000 in
theorem queue_Remove.ct (V : VW Try.prog) (k : Nat) (a1 : Int) (a2 : Int) (r0 : Bool) (s s' : V.S) (h : VM.run V.toVI (queue_Remove.f k a1 a2) s = some (r0, s')) :
    Ct Try.prog 68 [V.val, .int .i64 a1, .int .i64 a2] (fun _ => True) [V.rep s] (fun u H' => u = .bool r0 ∧ H' = [V.rep s']) := by
  unfold queue_Remove.f at h
  refine Ct.intro (n := 28) Try.func68 rfl rfl rfl ?_
  intro R w0 F hF hR
  refine S.seq ?_
  refine S.region ?_
  refine SO.v rfl (opv_assign rfl) ?_
  refine SO.nil ?_
  refine S.seq ?_
  refine S.region ?_
  refine SO.v rfl (opv_move rfl) ?_
  refine SO.v rfl (opv_move rfl) ?_
  obtain ⟨t1, s3, ht2, h⟩ := VM.bind_some V.toVI h
  refine SO.call (pre := [V.rep _]) rfl Try.call17 rfl rfl rfl (queue_List.ct V _ _ _ _ _ ht2) trivial ?_
  rintro v4 _ ⟨_, rfl, rfl⟩
  refine SO.rd fun hr5 => ?_
  refine SO.v rfl (opv_assign rfl) ?_
  refine SO.nil ?_
  refine S.seq ?_
  refine S.region ?_
  refine SO.v rfl (opv_move rfl) ?_
  refine SO.v rfl (opv_move rfl) ?_
  obtain ⟨t6, ht7, h⟩ := VM.opt_some V.toVI h
  refine SO.call (pre := []) rfl Try.call76 rfl rfl rfl (slices_Index_int_int.ct _ v4 _ _ _ ht7) (Rd.head hr5) ?_
  rintro _ _ ⟨rfl, rfl⟩
  refine SO.v rfl (opv_assign rfl) ?_
  refine SO.nil ?_
  refine S.seq ?_
  refine S.seq ?_
  refine S.region ?_
  refine SO.v rfl (opv_move rfl) ?_
  refine SO.v rfl (opv_lss rfl rfl) ?_
  refine SO.nil ?_
  refine S.to (ρ' := [(0, V.val), (1, .int .i64 a1), (2, .int .i64 a2), (6, .bool false), (7, v4), (8, .int .i64 t6), (16, .bool (decide (t6 < 0)))]) ⟨rfl, rfl, rfl, rfl, rfl, rfl, rfl, trivial⟩ ?_
  rcases bool_or (decide (t6 < 0)) with b8 | b8
  · replace h := VM.cond_t V.toVI b8 h
    refine S.condT rfl b8 ?_
    refine S.seq ?_
    refine S.region ?_
    refine SO.v rfl (opv_assign rfl) ?_
    refine SO.nil ?_
    obtain ⟨hq, rfl⟩ := VM.ret_some V.toVI h
    cases hq
    refine S.drop ?_
    refine S.b1 ?_
    refine S.b1 ?_
    exact S.ret1 Try.func68 rfl rfl (fun w hs hk => hR w _ _ ⟨rfl, rfl⟩ hs hk)
  · replace h := VM.cond_f V.toVI b8 h
    refine S.condF rfl b8 ?_
    refine S.skip ?_
    refine S.seq ?_
    refine S.region ?_
    refine SO.v rfl (opv_move rfl) ?_
    refine SO.v rfl (opv_move rfl) ?_
    refine SO.v rfl (opv_move rfl) ?_
    refine SO.v rfl (opv_move rfl) ?_
    refine SO.v rfl (opv_move rfl) ?_
    refine SO.v rfl (opv_add rfl rfl) ?_
    obtain ⟨t9, ht10, h⟩ := VM.opt_some V.toVI h
    refine SO.call (pre := [Own _ _ _ _]) rfl Try.call78 rfl rfl rfl (slices_Delete_int_int.ct v4 _ _ _ _ ht10) trivial ?_
    rintro v11 _ ⟨_, rfl, rfl⟩
    refine SO.rd fun hr12 => ?_
    obtain ⟨_, s14, ht13, h⟩ := VM.bind_some V.toVI h
    refine SO.b1 ?_
    refine SO.call (pre := [V.rep _]) rfl Try.call77 rfl rfl rfl (queue_put.ct V _ v11 _ _ _ _ ht13) (Rd.head hr12) ?_
    rintro _ _ ⟨rfl, rfl⟩
    refine SO.nil ?_
    refine S.to (ρ' := [(0, V.val), (2, .int .i64 a2), (6, .bool false)]) ⟨rfl, rfl, rfl, trivial⟩ ?_
    refine S.seq ?_
    refine S.region ?_
    refine SO.v rfl (opv_move rfl) ?_
    refine SO.v rfl (opv_move rfl) ?_
    obtain ⟨_, s16, ht15, h⟩ := VM.bind_some V.toVI h
    refine SO.call (pre := [V.rep _]) rfl Try.call45 rfl rfl rfl (lay_Put.ct V _ _ _ _ _ ht15) trivial ?_
    rintro _ _ ⟨rfl, rfl⟩
    refine SO.nil ?_
    refine S.seq ?_
    refine S.region ?_
    refine SO.v rfl (opv_assign rfl) ?_
    refine SO.nil ?_
    obtain ⟨hq, rfl⟩ := VM.ret_some V.toVI h
    cases hq
    refine S.b1 ?_
    refine S.drop ?_
    refine S.b1 ?_
    refine S.b1 ?_
    exact S.ret1 Try.func68 rfl rfl (fun w hs hk => hR w _ _ ⟨rfl, rfl⟩ hs hk)
end Go.Proofs
namespace Go.Proofs
open Go.Sl Go.RowKit
/-! 51 padstone/endp.Cancel -/
def endp_Cancel.f (k : Nat) (a1 : Int) : VM (Unit) :=
  (VM.opt (endp_there.f a1)).bind fun t1 => bif !t1 then (VM.ret ()) else ((endp_On.f a1).bind fun (t4, t5) => (endp_State.f a1).bind fun t8 => bif t8 == 4 then ((lay_Ref.f a1 2).bind fun (t12, t13) => bif t13 then ((lay_Put.f t12 6 0).bind fun _ => (lay_Put.f a1 2 0).bind fun _ => (lay_Put.f a1 1 0).bind fun _ => (endp_on.f a1 0).bind fun _ => VM.ret ()) else ((lay_Put.f a1 2 0).bind fun _ => (lay_Put.f a1 1 0).bind fun _ => (endp_on.f a1 0).bind fun _ => VM.ret ())) else (bif t5 then ((queue_Remove.f k t4 a1).bind fun t32 => (lay_Is.f t4 3).bind fun t35 => bif t35 then ((endp_rest.f k t4).bind fun _ => (lay_Put.f a1 1 0).bind fun _ => (endp_on.f a1 0).bind fun _ => VM.ret ()) else ((lay_Put.f a1 1 0).bind fun _ => (endp_on.f a1 0).bind fun _ => VM.ret ())) else ((lay_Put.f a1 1 0).bind fun _ => (endp_on.f a1 0).bind fun _ => VM.ret ())))
set_option maxHeartbeats 8000000 in
set_option maxRecDepth 100000 in
theorem endp_Cancel.ct (V : VW Try.prog) (k : Nat) (a1 : Int) (s s' : V.S) (h : VM.run V.toVI (endp_Cancel.f k a1) s = some ((), s')) :
    Ct Try.prog 51 [V.val, .int .i64 a1] (fun _ => True) [V.rep s] (fun u H' => u = .tuple #[] ∧ H' = [V.rep s']) := by
  unfold endp_Cancel.f at h
  refine Ct.intro (n := 53) Try.func51 rfl rfl rfl ?_
  intro R w0 F hF hR
  refine S.seq ?_
  refine S.seq ?_
  refine S.region ?_
  refine SO.v rfl (opv_move rfl) ?_
  obtain ⟨t1, ht2, h⟩ := VM.opt_some V.toVI h
  refine SO.call (pre := []) rfl Try.call39 rfl rfl rfl (endp_there.ct _ _ ht2) trivial ?_
  rintro _ _ ⟨rfl, rfl⟩
  refine SO.v rfl (opv_not rfl) ?_
  refine SO.nil ?_
  rcases bool_or (!t1) with b3 | b3
  · replace h := VM.cond_t V.toVI b3 h
    refine S.condT rfl b3 ?_
    obtain ⟨hq, rfl⟩ := VM.ret_some V.toVI h
    cases hq
    refine S.b1 ?_
    refine S.b1 ?_
    exact S.ret0 Try.func51 rfl (fun w hs hk => hR w _ _ ⟨rfl, rfl⟩ hs hk)
  · replace h := VM.cond_f V.toVI b3 h
    refine S.condF rfl b3 ?_
    refine S.skip ?_
    refine S.seq ?_
    refine S.region ?_
    refine SO.v rfl (opv_move rfl) ?_
    refine SO.v rfl (opv_move rfl) ?_
    obtain ⟨⟨t4, t5⟩, s7, ht6, h⟩ := VM.bind_some V.toVI h
    refine SO.call (pre := [V.rep _]) rfl Try.call19 rfl rfl rfl (endp_On.ct V _ _ _ _ _ ht6) trivial ?_
    rintro _ _ ⟨rfl, rfl⟩
    refine SO.v rfl (opv_move rfl) ?_
    refine SO.v rfl (opv_extract rfl rfl) ?_
    refine SO.v rfl (opv_extract rfl rfl) ?_
    refine SO.v rfl (opv_assign rfl) ?_
    refine SO.v rfl (opv_assign rfl) ?_
    refine SO.nil ?_
    refine S.to (ρ' := [(0, V.val), (1, .int .i64 a1), (4, .int .i64 t4), (5, .bool t5)]) ⟨rfl, rfl, rfl, rfl, trivial⟩ ?_
    refine S.seq ?_
    refine S.block ?_
    refine S.seq ?_
    refine S.region ?_
    refine SO.v rfl (opv_move rfl) ?_
    refine SO.v rfl (opv_move rfl) ?_
    obtain ⟨t8, s10, ht9, h⟩ := VM.bind_some V.toVI h
    refine SO.call (pre := [V.rep _]) rfl Try.call10 rfl rfl rfl (endp_State.ct V _ _ _ _ ht9) trivial ?_
    rintro _ _ ⟨rfl, rfl⟩
    refine SO.v rfl (opv_eql rfl rfl) ?_
    refine SO.v rfl (opv_assign rfl) ?_
    refine SO.nil ?_
    rcases bool_or (t8 == 4) with b11 | b11
    · replace h := VM.cond_t V.toVI b11 h
      refine S.condT rfl b11 ?_
      refine S.seq ?_
      refine S.seq ?_
      refine S.region ?_
      refine SO.v rfl (opv_move rfl) ?_
      refine SO.v rfl (opv_move rfl) ?_
      obtain ⟨⟨t12, t13⟩, s15, ht14, h⟩ := VM.bind_some V.toVI h
      refine SO.call (pre := [V.rep _]) rfl Try.call46 rfl rfl rfl (lay_Ref.ct V _ _ _ _ _ _ ht14) trivial ?_
      rintro _ _ ⟨rfl, rfl⟩
      refine SO.v rfl (opv_move rfl) ?_
      refine SO.v rfl (opv_extract rfl rfl) ?_
      refine SO.v rfl (opv_extract rfl rfl) ?_
      refine SO.v rfl (opv_assign rfl) ?_
      refine SO.v rfl (opv_assign rfl) ?_
      refine SO.nil ?_
      refine S.to (ρ' := [(0, V.val), (1, .int .i64 a1), (6, .int .i64 t12), (7, .bool t13)]) ⟨rfl, rfl, rfl, rfl, trivial⟩ ?_
      refine S.seq ?_
      refine S.region ?_
      refine SO.v rfl (opv_move rfl) ?_
      refine SO.nil ?_
      rcases bool_or t13 with b16 | b16
      · replace h := VM.cond_t V.toVI b16 h
        refine S.condT rfl b16 ?_
        refine S.region ?_
        refine SO.v rfl (opv_move rfl) ?_
        refine SO.v rfl (opv_move rfl) ?_
        obtain ⟨_, s18, ht17, h⟩ := VM.bind_some V.toVI h
        refine SO.call (pre := [V.rep _]) rfl Try.call45 rfl rfl rfl (lay_Put.ct V _ _ _ _ _ ht17) trivial ?_
        rintro _ _ ⟨rfl, rfl⟩
        refine SO.nil ?_
        refine S.region ?_
        refine SO.v rfl (opv_move rfl) ?_
        refine SO.v rfl (opv_move rfl) ?_
        obtain ⟨_, s20, ht19, h⟩ := VM.bind_some V.toVI h
        refine SO.call (pre := [V.rep _]) rfl Try.call45 rfl rfl rfl (lay_Put.ct V _ _ _ _ _ ht19) trivial ?_
        rintro _ _ ⟨rfl, rfl⟩
        refine SO.nil ?_
        refine S.to (ρ' := [(0, V.val), (1, .int .i64 a1)]) ⟨rfl, rfl, trivial⟩ ?_
        refine S.inBlock ?_
        refine S.seq ?_
        refine S.region ?_
        refine SO.v rfl (opv_move rfl) ?_
        refine SO.v rfl (opv_move rfl) ?_
        obtain ⟨_, s22, ht21, h⟩ := VM.bind_some V.toVI h
        refine SO.call (pre := [V.rep _]) rfl Try.call45 rfl rfl rfl (lay_Put.ct V _ _ _ _ _ ht21) trivial ?_
        rintro _ _ ⟨rfl, rfl⟩
        refine SO.nil ?_
        refine S.region ?_
        refine SO.v rfl (opv_move rfl) ?_
        refine SO.v rfl (opv_move rfl) ?_
        obtain ⟨_, s24, ht23, h⟩ := VM.bind_some V.toVI h
        refine SO.call (pre := [V.rep _]) rfl Try.call66 rfl rfl rfl (endp_on.ct V _ _ _ _ ht23) trivial ?_
        rintro _ _ ⟨rfl, rfl⟩
        refine SO.nil ?_
        refine S.to (ρ' := []) trivial ?_
        obtain ⟨hq, rfl⟩ := VM.ret_some V.toVI h
        cases hq
        refine S.b1 ?_
        refine S.b1 ?_
        exact S.fin0 Try.func51 rfl (fun w hs hk => hR w _ _ ⟨rfl, rfl⟩ hs hk)
      · replace h := VM.cond_f V.toVI b16 h
        refine S.condF rfl b16 ?_
        refine S.skip ?_
        refine S.region ?_
        refine SO.v rfl (opv_move rfl) ?_
        refine SO.v rfl (opv_move rfl) ?_
        obtain ⟨_, s26, ht25, h⟩ := VM.bind_some V.toVI h
        refine SO.call (pre := [V.rep _]) rfl Try.call45 rfl rfl rfl (lay_Put.ct V _ _ _ _ _ ht25) trivial ?_
        rintro _ _ ⟨rfl, rfl⟩
        refine SO.nil ?_
        refine S.inBlock ?_
        refine S.seq ?_
        refine S.region ?_
        refine SO.v rfl (opv_move rfl) ?_
        refine SO.v rfl (opv_move rfl) ?_
        obtain ⟨_, s28, ht27, h⟩ := VM.bind_some V.toVI h
        refine SO.call (pre := [V.rep _]) rfl Try.call45 rfl rfl rfl (lay_Put.ct V _ _ _ _ _ ht27) trivial ?_
        rintro _ _ ⟨rfl, rfl⟩
        refine SO.nil ?_
        refine S.to (ρ' := [(0, V.val), (1, .int .i64 a1)]) ⟨rfl, rfl, trivial⟩ ?_
        refine S.region ?_
        refine SO.v rfl (opv_move rfl) ?_
        refine SO.v rfl (opv_move rfl) ?_
        obtain ⟨_, s30, ht29, h⟩ := VM.bind_some V.toVI h
        refine SO.call (pre := [V.rep _]) rfl Try.call66 rfl rfl rfl (endp_on.ct V _ _ _ _ ht29) trivial ?_
        rintro _ _ ⟨rfl, rfl⟩
        refine SO.nil ?_
        obtain ⟨hq, rfl⟩ := VM.ret_some V.toVI h
        cases hq
        refine S.b1 ?_
        refine S.b1 ?_
        exact S.fin0 Try.func51 rfl (fun w hs hk => hR w _ _ ⟨rfl, rfl⟩ hs hk)
    · replace h := VM.cond_f V.toVI b11 h
      refine S.condF rfl b11 ?_
      refine S.seq ?_
      refine S.region ?_
      refine SO.v rfl (opv_move rfl) ?_
      refine SO.v rfl (opv_assign rfl) ?_
      refine SO.nil ?_
      refine S.to (ρ' := [(0, V.val), (1, .int .i64 a1), (4, .int .i64 t4), (35, .bool t5)]) ⟨rfl, rfl, rfl, rfl, trivial⟩ ?_
      rcases bool_or t5 with b31 | b31
      · replace h := VM.cond_t V.toVI b31 h
        refine S.condT rfl b31 ?_
        refine S.seq ?_
        refine S.region ?_
        refine SO.v rfl (opv_move rfl) ?_
        refine SO.v rfl (opv_move rfl) ?_
        refine SO.v rfl (opv_move rfl) ?_
        obtain ⟨t32, s34, ht33, h⟩ := VM.bind_some V.toVI h
        refine SO.call (pre := [V.rep _]) rfl Try.call68 rfl rfl rfl (queue_Remove.ct V _ _ _ _ _ _ ht33) trivial ?_
        rintro _ _ ⟨rfl, rfl⟩
        refine SO.nil ?_
        refine S.seq ?_
        refine S.region ?_
        refine SO.v rfl (opv_move rfl) ?_
        refine SO.v rfl (opv_move rfl) ?_
        obtain ⟨t35, s37, ht36, h⟩ := VM.bind_some V.toVI h
        refine SO.call (pre := [V.rep _]) rfl Try.call50 rfl rfl rfl (lay_Is.ct V _ _ _ _ _ ht36) trivial ?_
        rintro _ _ ⟨rfl, rfl⟩
        refine SO.nil ?_
        refine S.to (ρ' := [(0, V.val), (1, .int .i64 a1), (4, .int .i64 t4), (43, .bool t35)]) ⟨rfl, rfl, rfl, rfl, trivial⟩ ?_
        rcases bool_or t35 with b38 | b38
        · replace h := VM.cond_t V.toVI b38 h
          refine S.condT rfl b38 ?_
          refine S.region ?_
          refine SO.v rfl (opv_move rfl) ?_
          refine SO.v rfl (opv_move rfl) ?_
          obtain ⟨_, s40, ht39, h⟩ := VM.bind_some V.toVI h
          refine SO.call (pre := [V.rep _]) rfl Try.call42 rfl rfl rfl (endp_rest.ct V _ _ _ _ ht39) trivial ?_
          rintro _ _ ⟨rfl, rfl⟩
          refine SO.nil ?_
          refine S.inBlock ?_
          refine S.seq ?_
          refine S.region ?_
          refine SO.v rfl (opv_move rfl) ?_
          refine SO.v rfl (opv_move rfl) ?_
          obtain ⟨_, s42, ht41, h⟩ := VM.bind_some V.toVI h
          refine SO.call (pre := [V.rep _]) rfl Try.call45 rfl rfl rfl (lay_Put.ct V _ _ _ _ _ ht41) trivial ?_
          rintro _ _ ⟨rfl, rfl⟩
          refine SO.nil ?_
          refine S.to (ρ' := [(0, V.val), (1, .int .i64 a1)]) ⟨rfl, rfl, trivial⟩ ?_
          refine S.region ?_
          refine SO.v rfl (opv_move rfl) ?_
          refine SO.v rfl (opv_move rfl) ?_
          obtain ⟨_, s44, ht43, h⟩ := VM.bind_some V.toVI h
          refine SO.call (pre := [V.rep _]) rfl Try.call66 rfl rfl rfl (endp_on.ct V _ _ _ _ ht43) trivial ?_
          rintro _ _ ⟨rfl, rfl⟩
          refine SO.nil ?_
          obtain ⟨hq, rfl⟩ := VM.ret_some V.toVI h
          cases hq
          refine S.b1 ?_
          refine S.b1 ?_
          exact S.fin0 Try.func51 rfl (fun w hs hk => hR w _ _ ⟨rfl, rfl⟩ hs hk)
        · replace h := VM.cond_f V.toVI b38 h
          refine S.condF rfl b38 ?_
          refine S.skip ?_
          refine S.inBlock ?_
          refine S.seq ?_
          refine S.region ?_
          refine SO.v rfl (opv_move rfl) ?_
          refine SO.v rfl (opv_move rfl) ?_
          obtain ⟨_, s46, ht45, h⟩ := VM.bind_some V.toVI h
          refine SO.call (pre := [V.rep _]) rfl Try.call45 rfl rfl rfl (lay_Put.ct V _ _ _ _ _ ht45) trivial ?_
          rintro _ _ ⟨rfl, rfl⟩
          refine SO.nil ?_
          refine S.region ?_
          refine SO.v rfl (opv_move rfl) ?_
          refine SO.v rfl (opv_move rfl) ?_
          obtain ⟨_, s48, ht47, h⟩ := VM.bind_some V.toVI h
          refine SO.call (pre := [V.rep _]) rfl Try.call66 rfl rfl rfl (endp_on.ct V _ _ _ _ ht47) trivial ?_
          rintro _ _ ⟨rfl, rfl⟩
          refine SO.nil ?_
          refine S.to (ρ' := []) trivial ?_
          obtain ⟨hq, rfl⟩ := VM.ret_some V.toVI h
          cases hq
          refine S.b1 ?_
          refine S.b1 ?_
          exact S.fin0 Try.func51 rfl (fun w hs hk => hR w _ _ ⟨rfl, rfl⟩ hs hk)
      · replace h := VM.cond_f V.toVI b31 h
        refine S.condF rfl b31 ?_
        refine S.skip ?_
        refine S.inBlock ?_
        refine S.seq ?_
        refine S.region ?_
        refine SO.v rfl (opv_move rfl) ?_
        refine SO.v rfl (opv_move rfl) ?_
        obtain ⟨_, s50, ht49, h⟩ := VM.bind_some V.toVI h
        refine SO.call (pre := [V.rep _]) rfl Try.call45 rfl rfl rfl (lay_Put.ct V _ _ _ _ _ ht49) trivial ?_
        rintro _ _ ⟨rfl, rfl⟩
        refine SO.nil ?_
        refine S.region ?_
        refine SO.v rfl (opv_move rfl) ?_
        refine SO.v rfl (opv_move rfl) ?_
        obtain ⟨_, s52, ht51, h⟩ := VM.bind_some V.toVI h
        refine SO.call (pre := [V.rep _]) rfl Try.call66 rfl rfl rfl (endp_on.ct V _ _ _ _ ht51) trivial ?_
        rintro _ _ ⟨rfl, rfl⟩
        refine SO.nil ?_
        refine S.to (ρ' := []) trivial ?_
        obtain ⟨hq, rfl⟩ := VM.ret_some V.toVI h
        cases hq
        refine S.b1 ?_
        refine S.b1 ?_
        exact S.fin0 Try.func51 rfl (fun w hs hk => hR w _ _ ⟨rfl, rfl⟩ hs hk)
end Go.Proofs
namespace Go.Proofs
open Go.Sl Go.RowKit
/-! 16 padstone/tcb.Suspend -/
def tcb_Suspend.f (k : Nat) (a1 : Int) : VM ((Option Int)) :=
  (lay_Is.f a1 5).bind fun t1 => bif !t1 then (VM.ret (some 2)) else ((endp_State.f a1).bind fun t5 => bif t5 == 0 then (VM.ret (some 10)) else ((endp_Cancel.f k a1).bind fun _ => VM.ret none))
set_option maxHeartbeats 8000000 in
set_option maxRecDepth 100000 in
theorem tcb_Suspend.ct (V : VW Try.prog) (k : Nat) (a1 : Int) (r0 : Option Int) (s s' : V.S) (h : VM.run V.toVI (tcb_Suspend.f k a1) s = some (r0, s')) :
    Ct Try.prog 16 [V.val, .int .i64 a1] (fun _ => True) [V.rep s] (fun u H' => u = errV 44 r0 ∧ H' = [V.rep s']) := by
  unfold tcb_Suspend.f at h
  refine Ct.intro (n := 20) Try.func16 rfl rfl rfl ?_
  intro R w0 F hF hR
  refine S.seq ?_
  refine S.region ?_
  refine SO.v rfl (opv_assign rfl) ?_
  refine SO.nil ?_
  refine S.seq ?_
  refine S.block ?_
  refine S.seq ?_
  refine S.region ?_
  refine SO.v rfl (opv_move rfl) ?_
  refine SO.v rfl (opv_move rfl) ?_
  obtain ⟨t1, s3, ht2, h⟩ := VM.bind_some V.toVI h
  refine SO.call (pre := [V.rep _]) rfl Try.call50 rfl rfl rfl (lay_Is.ct V _ _ _ _ _ ht2) trivial ?_
  rintro _ _ ⟨rfl, rfl⟩
  refine SO.v rfl (opv_not rfl) ?_
  refine SO.v rfl (opv_assign rfl) ?_
  refine SO.nil ?_
  rcases bool_or (!t1) with b4 | b4
  · replace h := VM.cond_t V.toVI b4 h
    refine S.condT rfl b4 ?_
    refine S.seq ?_
    refine S.region ?_
    refine SO.v rfl (opv_iface Try.underlying44 rfl rfl) ?_
    refine SO.v rfl (opv_assign rfl) ?_
    refine SO.nil ?_
    refine S.to (ρ' := [(4, errV 44 (some 2))]) ⟨rfl, trivial⟩ ?_
    obtain ⟨hq, rfl⟩ := VM.ret_some V.toVI h
    cases hq
    refine S.b1 ?_
    refine S.b1 ?_
    exact S.ret1 Try.func16 rfl rfl (fun w hs hk => hR w _ _ ⟨rfl, rfl⟩ hs hk)
  · replace h := VM.cond_f V.toVI b4 h
    refine S.condF rfl b4 ?_
    refine S.seq ?_
    refine S.region ?_
    refine SO.v rfl (opv_move rfl) ?_
    refine SO.v rfl (opv_move rfl) ?_
    obtain ⟨t5, s7, ht6, h⟩ := VM.bind_some V.toVI h
    refine SO.call (pre := [V.rep _]) rfl Try.call10 rfl rfl rfl (endp_State.ct V _ _ _ _ ht6) trivial ?_
    rintro _ _ ⟨rfl, rfl⟩
    refine SO.v rfl (opv_eql rfl rfl) ?_
    refine SO.v rfl (opv_assign rfl) ?_
    refine SO.nil ?_
    refine S.to (ρ' := [(0, V.val), (1, .int .i64 a1), (4, errV 44 none), (11, .bool (t5 == 0))]) ⟨rfl, rfl, rfl, rfl, trivial⟩ ?_
    rcases bool_or (t5 == 0) with b8 | b8
    · replace h := VM.cond_t V.toVI b8 h
      refine S.condT rfl b8 ?_
      refine S.seq ?_
      refine S.region ?_
      refine SO.v rfl (opv_iface Try.underlying44 rfl rfl) ?_
      refine SO.v rfl (opv_assign rfl) ?_
      refine SO.nil ?_
      obtain ⟨hq, rfl⟩ := VM.ret_some V.toVI h
      cases hq
      refine S.b1 ?_
      refine S.b1 ?_
      exact S.ret1 Try.func16 rfl rfl (fun w hs hk => hR w _ _ ⟨rfl, rfl⟩ hs hk)
    · replace h := VM.cond_f V.toVI b8 h
      refine S.condF rfl b8 ?_
      refine S.skip ?_
      refine S.inBlock ?_
      refine S.seq ?_
      refine S.region ?_
      refine SO.v rfl (opv_move rfl) ?_
      refine SO.v rfl (opv_move rfl) ?_
      obtain ⟨_, s10, ht9, h⟩ := VM.bind_some V.toVI h
      refine SO.call (pre := [V.rep _]) rfl Try.call51 rfl rfl rfl (endp_Cancel.ct V _ _ _ _ ht9) trivial ?_
      rintro _ _ ⟨rfl, rfl⟩
      refine SO.nil ?_
      refine S.seq ?_
      refine S.region ?_
      refine SO.v rfl (opv_assign rfl) ?_
      refine SO.nil ?_
      obtain ⟨hq, rfl⟩ := VM.ret_some V.toVI h
      cases hq
      refine S.b1 ?_
      refine S.b1 ?_
      exact S.ret1 Try.func16 rfl rfl (fun w hs hk => hR w _ _ ⟨rfl, rfl⟩ hs hk)
end Go.Proofs
namespace Go.Proofs
open Go.Sl Go.RowKit
/-! 14 padstone/padstonelaw17.up -/
def law17_up.f (k : Nat) : Option (Bool) :=
  (ref10_Boot.f k 2).bind fun t1 => (ref10_State_Words.f k t1).bind fun t13 => (VM.run plainI (tcb_Suspend.f k 1) t13).bind fun (t17, s19) => (VM.run plainI (tcb_Highest.f k ) s19).bind fun ((t21, t22), s24) => (VM.run plainI (tcb_Resume.f 1) s24).bind fun (t26, s28) => (mk_ 0 738).bind fun xs32 => (VM.run plainI (tcb_Highest.f k ) xs32).bind fun ((t34, t35), s37) => (bif (((t17.isNone && t26.isNone) && t22) && (t21 == 0)) && (!t35) then ((VM.run plainI (tcb_Suspend.f k 2) s28).bind fun (t48, s50) => some (t48 == some 2, s50)) else (some (false, s28))).bind fun (c44, w46) => (bif c44 then ((VM.run plainI (tcb_Root.f k 0) w46).bind fun (t57, s59) => some (t57.Kind == 2, s59)) else (some (false, w46))).bind fun (c53, w55) => some c53
set_option maxHeartbeats 8000000 in
set_option maxRecDepth 100000 in
theorem law17_up.ct (k : Nat) (r0 : Bool) (h : law17_up.f k  = some r0) :
    Ct Try.prog 14 [] (fun _ => True) [] (fun u H' => u = .bool r0 ∧ H' = []) := by
  unfold law17_up.f at h
  refine Ct.intro (n := 59) Try.func14 rfl rfl rfl ?_
  intro R w0 F hF hR
  refine S.seq ?_
  refine S.region ?_
  refine SO.v rfl (opv_assign rfl) ?_
  refine SO.nil ?_
  refine S.seq ?_
  refine S.region ?_
  obtain ⟨t1, ht2, h⟩ := opt_bind h
  refine SO.call (pre := []) rfl Try.call7 rfl rfl rfl (ref10_Boot.ct _ _ _ ht2) trivial ?_
  rintro _ _ ⟨b3, u4_Slots, u4_Objs, rfl, rfl⟩
  obtain ⟨t13, ht14, h⟩ := opt_bind h
  refine SO.b1 ?_
  refine SO.openR fun raws5 A6 hrel7 hR8 => ?_
  refine SO.b2 ?_
  refine SO.openR fun raws9 A10 hrel11 hR12 => ?_
  refine SO.b1 ?_
  refine SO.b2 ?_
  refine SO.call (pre := [Box _ _, OwnO _ _ _ _ _ _, OwnO _ _ _ _ _ _]) rfl Try.call8 rfl rfl rfl (ref10_State_Words.ct _ b3 u4_Slots u4_Objs raws5 A6 raws9 A10 _ _ ht14) trivial ?_
  rintro v15 _ ⟨_, rfl, rfl⟩
  refine SO.rd fun hr16 => ?_
  refine SO.v rfl (opv_assign rfl) ?_
  refine SO.nil ?_
  refine S.seq ?_
  refine S.region ?_
  refine SO.v rfl (opv_move rfl) ?_
  refine SO.v rfl (opv_iface Try.underlying25 rfl rfl) ?_
  obtain ⟨⟨t17, s19⟩, ht18, h⟩ := opt_bind h
  refine SO.call (pre := [(plainV v15).rep _]) rfl Try.call16 rfl rfl rfl (tcb_Suspend.ct (plainV v15) _ _ _ _ _ ht18) trivial ?_
  rintro _ _ ⟨rfl, rfl⟩
  refine headEq (plainV_rep _ _) ?_
  refine SO.rd fun hr20 => ?_
  refine SO.v rfl (opv_assign rfl) ?_
  refine SO.nil ?_
  refine S.seq ?_
  refine S.region ?_
  refine SO.v rfl (opv_move rfl) ?_
  refine SO.v rfl (opv_iface Try.underlying25 rfl rfl) ?_
  obtain ⟨⟨⟨t21, t22⟩, s24⟩, ht23, h⟩ := opt_bind h
  refine SO.call (pre := [(plainV v15).rep _]) rfl Try.call30 rfl rfl rfl (tcb_Highest.ct (plainV v15) _ _ _ _ _ ht23) trivial ?_
  rintro _ _ ⟨rfl, rfl⟩
  refine headEq (plainV_rep _ _) ?_
  refine SO.rd fun hr25 => ?_
  refine SO.v rfl (opv_move rfl) ?_
  refine SO.v rfl (opv_extract rfl rfl) ?_
  refine SO.v rfl (opv_extract rfl rfl) ?_
  refine SO.v rfl (opv_assign rfl) ?_
  refine SO.v rfl (opv_assign rfl) ?_
  refine SO.nil ?_
  refine S.to (ρ' := [(0, .bool false), (1, v15), (2, errV 44 t17), (3, .int .i64 t21), (4, .bool t22)]) ⟨rfl, rfl, rfl, rfl, rfl, trivial⟩ ?_
  refine S.seq ?_
  refine S.region ?_
  refine SO.v rfl (opv_move rfl) ?_
  refine SO.v rfl (opv_iface Try.underlying25 rfl rfl) ?_
  obtain ⟨⟨t26, s28⟩, ht27, h⟩ := opt_bind h
  refine SO.call (pre := [(plainV v15).rep _]) rfl Try.call18 rfl rfl rfl (tcb_Resume.ct (plainV v15) _ _ _ _ ht27) trivial ?_
  rintro _ _ ⟨rfl, rfl⟩
  refine headEq (plainV_rep _ _) ?_
  refine SO.rd fun hr29 => ?_
  refine SO.v rfl (opv_assign rfl) ?_
  refine SO.nil ?_
  refine S.seq ?_
  refine S.region ?_
  obtain ⟨xs32, hx33, h⟩ := opt_bind h
  refine SO.makeSlice (K := ekI .u64) rfl Try.underlying25 inf35 rfl rfl rfl (by decide) rfl rfl rfl hx33 (fun v30 hr31 => ?_)
  refine SO.v rfl (opv_iface Try.underlying25 rfl rfl) ?_
  obtain ⟨⟨⟨t34, t35⟩, s37⟩, ht36, h⟩ := opt_bind h
  refine SO.call (pre := [(plainV v30).rep _]) rfl Try.call30 rfl rfl rfl (tcb_Highest.ct (plainV v30) _ _ _ _ _ ht36) trivial ?_
  rintro _ _ ⟨rfl, rfl⟩
  refine headEq (plainV_rep _ _) ?_
  refine SO.rd fun hr38 => ?_
  refine SO.v rfl (opv_move rfl) ?_
  refine SO.v rfl (opv_extract rfl rfl) ?_
  refine SO.v rfl (opv_extract rfl rfl) ?_
  refine SO.v rfl (opv_assign rfl) ?_
  refine SO.v rfl (opv_assign rfl) ?_
  refine SO.nil ?_
  refine S.to (ρ' := [(0, .bool false), (1, v15), (2, errV 44 t17), (3, .int .i64 t21), (4, .bool t22), (5, errV 44 t26), (7, .bool t35)]) ⟨rfl, rfl, rfl, rfl, rfl, rfl, rfl, trivial⟩ ?_
  refine S.seq ?_
  refine S.region ?_
  refine SO.v rfl (opv_move rfl) ?_
  refine SO.v rfl (opv_eqlN (e := t17) Try.underlying37 rfl) ?_
  refine SO.v rfl (opv_move rfl) ?_
  refine SO.cut 3 33 (.bool (t17.isNone && t26.isNone)) [Own 35 (ekI .u64) v30 s37, Own 35 (ekI .u64) v15 s28, Box b3 [u4_Slots, u4_Objs, .int .i64 t1.NS, .int .i64 t1.NO], OwnO 81 kr_ref10_Slot u4_Slots raws5 A6 t1.Slots, OwnO 72 kr_ref10_Obj u4_Objs raws9 A10 t1.Objs, F] (fun l2 hk2 => ?_) ?_
  · rcases bool_or t17.isNone with b39 | b39
    · refine SO.takeT rfl rfl rfl b39 ?_
      refine SO.v rfl (opv_move rfl) ?_
      refine SO.takeT rfl rfl rfl b39 ?_
      refine SO.v rfl (opv_eqlN (e := t26) Try.underlying37 rfl) ?_
      refine SO.v rfl (opv_pick_t' b39 rfl rfl) ?_
      refine SO.b5 ?_
      refine SO.b5 ?_
      refine SO.b5 ?_
      refine SO.b5 ?_
      refine SO.b5 ?_
      refine SO.b5 ?_
      exact hk2.fitc (m := 3) rfl (and_t b39) rfl
    · refine SO.passF rfl rfl rfl b39 rfl rfl ?_
      refine SO.passF rfl rfl rfl b39 rfl rfl ?_
      refine SO.v rfl (opv_pick_f' b39 rfl rfl) ?_
      refine SO.b5 ?_
      refine SO.b5 ?_
      refine SO.b5 ?_
      refine SO.b5 ?_
      refine SO.b5 ?_
      refine SO.b5 ?_
      exact hk2.fitc (m := 3) rfl (and_f b39) rfl
  refine SO.v rfl (opv_move rfl) ?_
  refine SO.cut 2 36 (.bool ((t17.isNone && t26.isNone) && t22)) [Own 35 (ekI .u64) v30 s37, Own 35 (ekI .u64) v15 s28, Box b3 [u4_Slots, u4_Objs, .int .i64 t1.NS, .int .i64 t1.NO], OwnO 81 kr_ref10_Slot u4_Slots raws5 A6 t1.Slots, OwnO 72 kr_ref10_Obj u4_Objs raws9 A10 t1.Objs, F] (fun l2 hk2 => ?_) ?_
  · rcases bool_or (t17.isNone && t26.isNone) with b40 | b40
    · refine SO.takeT rfl rfl rfl b40 ?_
      refine SO.v rfl (opv_move rfl) ?_
      refine SO.v rfl (opv_pick_t' b40 rfl rfl) ?_
      refine SO.b5 ?_
      refine SO.b5 ?_
      refine SO.b5 ?_
      refine SO.b5 ?_
      refine SO.b5 ?_
      refine SO.b5 ?_
      exact hk2.fitc (m := 2) rfl (and_t b40) rfl
    · refine SO.passF rfl rfl rfl b40 rfl rfl ?_
      refine SO.v rfl (opv_pick_f' b40 rfl rfl) ?_
      refine SO.b5 ?_
      refine SO.b5 ?_
      refine SO.b5 ?_
      refine SO.b5 ?_
      refine SO.b5 ?_
      refine SO.b5 ?_
      exact hk2.fitc (m := 2) rfl (and_f b40) rfl
  refine SO.v rfl (opv_move rfl) ?_
  refine SO.cut 3 40 (.bool (((t17.isNone && t26.isNone) && t22) && (t21 == 0))) [Own 35 (ekI .u64) v30 s37, Own 35 (ekI .u64) v15 s28, Box b3 [u4_Slots, u4_Objs, .int .i64 t1.NS, .int .i64 t1.NO], OwnO 81 kr_ref10_Slot u4_Slots raws5 A6 t1.Slots, OwnO 72 kr_ref10_Obj u4_Objs raws9 A10 t1.Objs, F] (fun l2 hk2 => ?_) ?_
  · rcases bool_or ((t17.isNone && t26.isNone) && t22) with b41 | b41
    · refine SO.takeT rfl rfl rfl b41 ?_
      refine SO.v rfl (opv_move rfl) ?_
      refine SO.takeT rfl rfl rfl b41 ?_
      refine SO.v rfl (opv_eql rfl rfl) ?_
      refine SO.v rfl (opv_pick_t' b41 rfl rfl) ?_
      refine SO.b5 ?_
      refine SO.b5 ?_
      refine SO.b5 ?_
      refine SO.b5 ?_
      refine SO.b5 ?_
      refine SO.b5 ?_
      exact hk2.fitc (m := 3) rfl (and_t b41) rfl
    · refine SO.passF rfl rfl rfl b41 rfl rfl ?_
      refine SO.passF rfl rfl rfl b41 rfl rfl ?_
      refine SO.v rfl (opv_pick_f' b41 rfl rfl) ?_
      refine SO.b5 ?_
      refine SO.b5 ?_
      refine SO.b5 ?_
      refine SO.b5 ?_
      refine SO.b5 ?_
      refine SO.b5 ?_
      exact hk2.fitc (m := 3) rfl (and_f b41) rfl
  refine SO.v rfl (opv_move rfl) ?_
  refine SO.cut 3 44 (.bool ((((t17.isNone && t26.isNone) && t22) && (t21 == 0)) && (!t35))) [Own 35 (ekI .u64) v30 s37, Own 35 (ekI .u64) v15 s28, Box b3 [u4_Slots, u4_Objs, .int .i64 t1.NS, .int .i64 t1.NO], OwnO 81 kr_ref10_Slot u4_Slots raws5 A6 t1.Slots, OwnO 72 kr_ref10_Obj u4_Objs raws9 A10 t1.Objs, F] (fun l2 hk2 => ?_) ?_
  · rcases bool_or (((t17.isNone && t26.isNone) && t22) && (t21 == 0)) with b42 | b42
    · refine SO.takeT rfl rfl rfl b42 ?_
      refine SO.v rfl (opv_move rfl) ?_
      refine SO.takeT rfl rfl rfl b42 ?_
      refine SO.v rfl (opv_not rfl) ?_
      refine SO.v rfl (opv_pick_t' b42 rfl rfl) ?_
      refine SO.b5 ?_
      refine SO.b5 ?_
      refine SO.b5 ?_
      refine SO.b5 ?_
      refine SO.b5 ?_
      refine SO.b5 ?_
      exact hk2.fitc (m := 3) rfl (and_t b42) rfl
    · refine SO.passF rfl rfl rfl b42 rfl rfl ?_
      refine SO.passF rfl rfl rfl b42 rfl rfl ?_
      refine SO.v rfl (opv_pick_f' b42 rfl rfl) ?_
      refine SO.b5 ?_
      refine SO.b5 ?_
      refine SO.b5 ?_
      refine SO.b5 ?_
      refine SO.b5 ?_
      refine SO.b5 ?_
      exact hk2.fitc (m := 3) rfl (and_f b42) rfl
  refine SO.v rfl (opv_move rfl) ?_
  obtain ⟨⟨c44, w46⟩, hc45, hgk⟩ := opt_bind h
  refine SO.cut 6 51 (.bool c44) [Own 35 (ekI .u64) v30 s37, Own 35 (ekI .u64) v15 w46, Box b3 [u4_Slots, u4_Objs, .int .i64 t1.NS, .int .i64 t1.NO], OwnO 81 kr_ref10_Slot u4_Slots raws5 A6 t1.Slots, OwnO 72 kr_ref10_Obj u4_Objs raws9 A10 t1.Objs, F] (fun l2 hk2 => ?_) ?_
  · clear hgk
    replace h := hc45
    rcases bool_or ((((t17.isNone && t26.isNone) && t22) && (t21 == 0)) && (!t35)) with b43 | b43
    · replace h := cond_t b43 h
      refine SO.takeT rfl rfl rfl b43 ?_
      refine SO.v rfl (opv_move rfl) ?_
      refine SO.takeT rfl rfl rfl b43 ?_
      refine SO.v rfl (opv_iface Try.underlying25 rfl rfl) ?_
      refine SO.takeT rfl rfl rfl b43 ?_
      obtain ⟨⟨t48, s50⟩, ht49, h⟩ := opt_bind h
      refine SO.b1 ?_
      refine SO.call (pre := [(plainV v15).rep _]) rfl Try.call16 rfl rfl rfl (tcb_Suspend.ct (plainV v15) _ _ _ _ _ ht49) trivial ?_
      rintro _ _ ⟨rfl, rfl⟩
      refine headEq (plainV_rep _ _) ?_
      refine SO.rd fun hr51 => ?_
      refine SO.takeT rfl rfl rfl b43 ?_
      refine SO.v rfl (opv_iface Try.underlying44 rfl rfl) ?_
      refine SO.takeT rfl rfl rfl b43 ?_
      refine SO.v rfl (opv_eqlE (e := t48) (c := 2) Try.underlying37 Try.underlying44 inf44 rfl rfl rfl) ?_
      cases h
      refine SO.v rfl (opv_pick_t' b43 rfl rfl) ?_
      refine SO.b5 ?_
      refine SO.b5 ?_
      refine SO.b5 ?_
      refine SO.b5 ?_
      refine SO.b4 ?_
      refine SO.b5 ?_
      exact hk2.fitc (m := 6) rfl (rfl) rfl
    · replace h := cond_f b43 h
      refine SO.passF rfl rfl rfl b43 rfl rfl ?_
      refine SO.passF rfl rfl rfl b43 rfl rfl ?_
      refine SO.passF rfl rfl rfl b43 rfl rfl ?_
      refine SO.passF rfl rfl rfl b43 rfl rfl ?_
      refine SO.passF rfl rfl rfl b43 rfl rfl ?_
      cases h
      refine SO.v rfl (opv_pick_f' b43 rfl rfl) ?_
      refine SO.b5 ?_
      refine SO.b5 ?_
      refine SO.b5 ?_
      refine SO.b5 ?_
      refine SO.b5 ?_
      refine SO.b5 ?_
      exact hk2.fitc (m := 6) rfl (rfl) rfl
  clear hc45
  replace h := hgk
  refine SO.b1 ?_
  refine SO.rd fun hr47 => ?_
  refine SO.v rfl (opv_move rfl) ?_
  obtain ⟨⟨c53, w55⟩, hc54, hgk⟩ := opt_bind h
  refine SO.cut 6 58 (.bool c53) [Own 35 (ekI .u64) v15 w55, Own 35 (ekI .u64) v30 s37, Box b3 [u4_Slots, u4_Objs, .int .i64 t1.NS, .int .i64 t1.NO], OwnO 81 kr_ref10_Slot u4_Slots raws5 A6 t1.Slots, OwnO 72 kr_ref10_Obj u4_Objs raws9 A10 t1.Objs, F] (fun l2 hk2 => ?_) ?_
  · clear hgk
    replace h := hc54
    rcases bool_or c44 with b52 | b52
    · replace h := cond_t b52 h
      refine SO.takeT rfl rfl rfl b52 ?_
      refine SO.v rfl (opv_move rfl) ?_
      refine SO.takeT rfl rfl rfl b52 ?_
      refine SO.v rfl (opv_iface Try.underlying25 rfl rfl) ?_
      refine SO.takeT rfl rfl rfl b52 ?_
      obtain ⟨⟨t57, s59⟩, ht58, h⟩ := opt_bind h
      refine SO.call (pre := [(plainV v15).rep _]) rfl Try.call34 rfl rfl rfl (tcb_Root.ct (plainV v15) _ _ _ _ _ ht58) trivial ?_
      rintro _ _ ⟨rfl, rfl⟩
      refine headEq (plainV_rep _ _) ?_
      refine SO.rd fun hr60 => ?_
      refine SO.takeT rfl rfl rfl b52 ?_
      refine SO.v rfl (opv_field Try.underlying49 rfl Try.isAgg3 rfl rfl) ?_
      refine SO.takeT rfl rfl rfl b52 ?_
      refine SO.v rfl (opv_eql rfl rfl) ?_
      cases h
      refine SO.v rfl (opv_pick_t' b52 rfl rfl) ?_
      refine SO.b5 ?_
      refine SO.b5 ?_
      refine SO.b5 ?_
      refine SO.b5 ?_
      refine SO.b5 ?_
      refine SO.b5 ?_
      exact hk2.fitc (m := 6) rfl (rfl) rfl
    · replace h := cond_f b52 h
      refine SO.passF rfl rfl rfl b52 rfl rfl ?_
      refine SO.passF rfl rfl rfl b52 rfl rfl ?_
      refine SO.passF rfl rfl rfl b52 rfl rfl ?_
      refine SO.passF rfl rfl rfl b52 rfl rfl ?_
      refine SO.passF rfl rfl rfl b52 rfl rfl ?_
      cases h
      refine SO.v rfl (opv_pick_f' b52 rfl rfl) ?_
      refine SO.b5 ?_
      refine SO.b5 ?_
      refine SO.b5 ?_
      refine SO.b5 ?_
      refine SO.b5 ?_
      refine SO.b5 ?_
      exact hk2.fitc (m := 6) rfl (rfl) rfl
  clear hc54
  replace h := hgk
  refine SO.rd fun hr56 => ?_
  refine SO.v rfl (opv_assign rfl) ?_
  refine SO.nil ?_
  refine S.to (ρ' := [(0, .bool c53)]) ⟨rfl, trivial⟩ ?_
  cases h
  refine S.b3 ?_
  refine S.closeR ?_
  refine S.b4 ?_
  refine S.closeR ?_
  refine S.drop ?_
  refine S.drop ?_
  refine S.drop ?_
  refine S.drop ?_
  refine S.drop ?_
  exact S.ret1 Try.func14 rfl rfl (fun w hs hk => hR w _ _ ⟨rfl, rfl⟩ hs hk)
end Go.Proofs
namespace Go.Proofs
open Go.Sl Go.RowKit
/-! 47 padstone/ntfn.there -/
def ntfn_there.f (a0 : Int) : Option (Bool) :=
  (lay_Obj.f a0 0).bind fun (t1, t2) => some t2
set_option maxHeartbeats 8000000 in
set_option maxRecDepth 100000 in
theorem ntfn_there.ct (a0 : Int) (r0 : Bool) (h : ntfn_there.f a0 = some r0) :
    Ct Try.prog 47 [.int .i64 a0] (fun _ => True) [] (fun u H' => u = .bool r0 ∧ H' = []) := by
  unfold ntfn_there.f at h
  refine Ct.intro (n := 11) Try.func47 rfl rfl rfl ?_
  intro R w0 F hF hR
  refine S.seq ?_
  refine S.region ?_
  refine SO.v rfl (opv_assign rfl) ?_
  refine SO.nil ?_
  refine S.seq ?_
  refine S.region ?_
  refine SO.v rfl (opv_move rfl) ?_
  obtain ⟨⟨t1, t2⟩, ht3, h⟩ := opt_bind h
  refine SO.call (pre := []) rfl Try.call65 rfl rfl rfl (lay_Obj.ct _ _ _ _ ht3) trivial ?_
  rintro _ _ ⟨rfl, rfl⟩
  refine SO.v rfl (opv_move rfl) ?_
  refine SO.v rfl (opv_extract rfl rfl) ?_
  refine SO.v rfl (opv_extract rfl rfl) ?_
  refine SO.v rfl (opv_assign rfl) ?_
  refine SO.v rfl (opv_assign rfl) ?_
  refine SO.nil ?_
  refine S.to (ρ' := [(2, .bool false), (4, .bool t2)]) ⟨rfl, rfl, trivial⟩ ?_
  refine S.seq ?_
  refine S.region ?_
  refine SO.v rfl (opv_move rfl) ?_
  refine SO.v rfl (opv_assign rfl) ?_
  refine SO.nil ?_
  cases h
  exact S.ret1 Try.func47 rfl rfl (fun w hs hk => hR w _ _ ⟨rfl, rfl⟩ hs hk)
end Go.Proofs
namespace Go.Proofs
open Go.Sl Go.RowKit
/-! 48 padstone/ntfn.word -/
def ntfn_word.f (a1 : Int) : VM (Int) :=
  (lay_Field.f a1 1).bind fun t1 => VM.ret (band .i64 t1 65535)
set_option maxHeartbeats 8000000 in
set_option maxRecDepth 100000 in
theorem ntfn_word.ct (V : VW Try.prog) (a1 : Int) (r0 : Int) (s s' : V.S) (h : VM.run V.toVI (ntfn_word.f a1) s = some (r0, s')) :
    Ct Try.prog 48 [V.val, .int .i64 a1] (fun _ => True) [V.rep s] (fun u H' => u = .int .i64 r0 ∧ H' = [V.rep s']) := by
  unfold ntfn_word.f at h
  refine Ct.intro (n := 9) Try.func48 rfl rfl rfl ?_
  intro R w0 F hF hR
  refine S.seq ?_
  refine S.region ?_
  refine SO.v rfl (opv_assign rfl) ?_
  refine SO.nil ?_
  refine S.seq ?_
  refine S.region ?_
  refine SO.v rfl (opv_move rfl) ?_
  refine SO.v rfl (opv_move rfl) ?_
  obtain ⟨t1, s3, ht2, h⟩ := VM.bind_some V.toVI h
  refine SO.call (pre := [V.rep _]) rfl Try.call38 rfl rfl rfl (lay_Field.ct V _ _ _ _ _ ht2) trivial ?_
  rintro _ _ ⟨rfl, rfl⟩
  refine SO.v rfl (opv_and rfl rfl) ?_
  refine SO.v rfl (opv_assign rfl) ?_
  refine SO.nil ?_
  obtain ⟨hq, rfl⟩ := VM.ret_some V.toVI h
  cases hq
  refine S.b1 ?_
  refine S.b1 ?_
  exact S.ret1 Try.func48 rfl rfl (fun w hs hk => hR w _ _ ⟨rfl, rfl⟩ hs hk)
end Go.Proofs
namespace Go.Proofs
open Go.Sl Go.RowKit
/-! 49 padstone/ntfn.Poll -/
def ntfn_Poll.f (a1 : Int) : VM ((api_Reply × (Option Int))) :=
  (VM.opt (ntfn_there.f a1)).bind fun t2 => bif !t2 then (VM.ret ((⟨0, 0, 0⟩ : api_Reply), (some 2))) else ((ntfn_word.f a1).bind fun t5 => (lay_Put.f a1 1 0).bind fun _ => VM.ret ((⟨0, t5, 0⟩ : api_Reply), none))
set_option maxHeartbeats 8000000 in
set_option maxRecDepth 100000 in
theorem ntfn_Poll.ct (V : VW Try.prog) (a1 : Int) (r0 : api_Reply) (r1 : Option Int) (s s' : V.S) (h : VM.run V.toVI (ntfn_Poll.f a1) s = some ((r0, r1), s')) :
    Ct Try.prog 49 [V.val, .int .i64 a1] (fun _ => True) [V.rep s] (fun u H' => u = .tuple #[.agg #[.int .i64 r0.Code, .int .i64 r0.Word, .int .i64 r0.Badge], errV 44 r1] ∧ H' = [V.rep s']) := by
  unfold ntfn_Poll.f at h
  refine Ct.intro (n := 20) Try.func49 rfl rfl rfl ?_
  intro R w0 F hF hR
  refine S.seq ?_
  refine S.region ?_
  refine SO.alloc rfl Try.zeroValue41 rfl (fun b1 => ?_)
  refine SO.v rfl (opv_assign rfl) ?_
  refine SO.nil ?_
  refine S.seq ?_
  refine S.seq ?_
  refine S.region ?_
  refine SO.v rfl (opv_move rfl) ?_
  obtain ⟨t2, ht3, h⟩ := VM.opt_some V.toVI h
  refine SO.call (pre := []) rfl Try.call47 rfl rfl rfl (ntfn_there.ct _ _ ht3) trivial ?_
  rintro _ _ ⟨rfl, rfl⟩
  refine SO.v rfl (opv_not rfl) ?_
  refine SO.nil ?_
  rcases bool_or (!t2) with b4 | b4
  · replace h := VM.cond_t V.toVI b4 h
    refine S.condT rfl b4 ?_
    refine S.seq ?_
    refine S.region ?_
    refine SO.v rfl (opv_build (v := .agg #[.int .i64 0, .int .i64 0, .int .i64 0]) rfl (by intro w; kernel_rfl)) ?_
    refine SO.v rfl (opv_iface Try.underlying44 rfl rfl) ?_
    refine SO.storeN Try.sizeOf41 rfl rfl rfl rfl rfl rfl ?_
    refine SO.v rfl (opv_assign rfl) ?_
    refine SO.nil ?_
    refine S.to (ρ' := [(4, bp b1 0), (5, errV 44 (some 2))]) ⟨rfl, rfl, trivial⟩ ?_
    obtain ⟨hq, rfl⟩ := VM.ret_some V.toVI h
    cases hq
    refine S.b2 ?_
    refine S.b2 ?_
    refine S.b2 ?_
    exact S.retC1 Try.func49 rfl rfl rfl Try.isAgg41 Try.sizeOf41 rfl rfl (fun w hs hk => hR w _ _ ⟨rfl, rfl⟩ hs.drop hk)
  · replace h := VM.cond_f V.toVI b4 h
    refine S.condF rfl b4 ?_
    refine S.skip ?_
    refine S.seq ?_
    refine S.region ?_
    refine SO.v rfl (opv_move rfl) ?_
    refine SO.v rfl (opv_move rfl) ?_
    obtain ⟨t5, s7, ht6, h⟩ := VM.bind_some V.toVI h
    refine SO.b1 ?_
    refine SO.call (pre := [V.rep _]) rfl Try.call48 rfl rfl rfl (ntfn_word.ct V _ _ _ _ ht6) trivial ?_
    rintro _ _ ⟨rfl, rfl⟩
    refine SO.v rfl (opv_assign rfl) ?_
    refine SO.nil ?_
    refine S.seq ?_
    refine S.region ?_
    refine SO.v rfl (opv_move rfl) ?_
    refine SO.v rfl (opv_move rfl) ?_
    obtain ⟨_, s9, ht8, h⟩ := VM.bind_some V.toVI h
    refine SO.call (pre := [V.rep _]) rfl Try.call45 rfl rfl rfl (lay_Put.ct V _ _ _ _ _ ht8) trivial ?_
    rintro _ _ ⟨rfl, rfl⟩
    refine SO.nil ?_
    refine S.to (ρ' := [(4, bp b1 0), (5, errV 44 none), (6, .int .i64 t5)]) ⟨rfl, rfl, rfl, trivial⟩ ?_
    refine S.seq ?_
    refine S.region ?_
    refine SO.v rfl (opv_move rfl) ?_
    refine SO.v rfl (opv_build (v := .agg #[.int .i64 0, .int .i64 t5, .int .i64 0]) rfl (by intro w; kernel_rfl)) ?_
    refine SO.b1 ?_
    refine SO.storeN Try.sizeOf41 rfl rfl rfl rfl rfl rfl ?_
    refine SO.v rfl (opv_assign rfl) ?_
    refine SO.nil ?_
    obtain ⟨hq, rfl⟩ := VM.ret_some V.toVI h
    cases hq
    refine S.b2 ?_
    refine S.b2 ?_
    refine S.b2 ?_
    exact S.retC1 Try.func49 rfl rfl rfl Try.isAgg41 Try.sizeOf41 rfl rfl (fun w hs hk => hR w _ _ ⟨rfl, rfl⟩ hs.drop hk)
end Go.Proofs
namespace Go.Proofs
open Go.Sl Go.RowKit
/-! 15 padstone/ntfn.Wait -/
def ntfn_Wait.f (a1 : Int) (a2 : Int) : VM ((api_Reply × Bool × (Option Int))) :=
  (VM.opt (ntfn_there.f a1)).bind fun t2 => (bif !t2 then (VM.ret true) else ((VM.opt (ntfn_there.f a2)).bind fun t7 => VM.ret (!t7))).bind fun c5 => bif c5 then (VM.ret ((⟨0, 0, 0⟩ : api_Reply), false, (some 2))) else ((ntfn_word.f a1).bind fun t11 => bif t11 == 0 then ((endp_Block.f a1 a2 5).bind fun _ => VM.ret ((⟨0, 0, 0⟩ : api_Reply), false, none)) else ((ntfn_Poll.f a1).bind fun (t17, t18) => VM.ret (t17, t18.isNone, t18)))
set_option maxHeartbeats 8000000 in
set_option maxRecDepth 100000 in
theorem ntfn_Wait.ct (V : VW Try.prog) (a1 : Int) (a2 : Int) (r0 : api_Reply) (r1 : Bool) (r2 : Option Int) (s s' : V.S) (h : VM.run V.toVI (ntfn_Wait.f a1 a2) s = some ((r0, r1, r2), s')) :
    Ct Try.prog 15 [V.val, .int .i64 a1, .int .i64 a2] (fun _ => True) [V.rep s] (fun u H' => u = .tuple #[.agg #[.int .i64 r0.Code, .int .i64 r0.Word, .int .i64 r0.Badge], .bool r1, errV 44 r2] ∧ H' = [V.rep s']) := by
  unfold ntfn_Wait.f at h
  refine Ct.intro (n := 42) Try.func15 rfl rfl rfl ?_
  intro R w0 F hF hR
  refine S.seq ?_
  refine S.region ?_
  refine SO.alloc rfl Try.zeroValue41 rfl (fun b1 => ?_)
  refine SO.v rfl (opv_assign rfl) ?_
  refine SO.v rfl (opv_assign rfl) ?_
  refine SO.nil ?_
  refine S.seq ?_
  refine S.block ?_
  refine S.seq ?_
  refine S.region ?_
  refine SO.v rfl (opv_move rfl) ?_
  obtain ⟨t2, ht3, h⟩ := VM.opt_some V.toVI h
  refine SO.call (pre := []) rfl Try.call47 rfl rfl rfl (ntfn_there.ct _ _ ht3) trivial ?_
  rintro _ _ ⟨rfl, rfl⟩
  refine SO.v rfl (opv_not rfl) ?_
  refine SO.v rfl (opv_move rfl) ?_
  obtain ⟨c5, s9, hc6, hgk⟩ := VM.bind_some V.toVI h
  refine SO.cut 4 19 (.bool c5) [Box b1 [.int .i64 0, .int .i64 0, .int .i64 0], V.rep s9, F] (fun l2 hk2 => ?_) ?_
  · clear hgk
    replace h := hc6
    rcases bool_or (!t2) with b4 | b4
    · replace h := VM.cond_t V.toVI b4 h
      refine SO.passF rfl rfl rfl b4 rfl rfl ?_
      refine SO.passF rfl rfl rfl b4 rfl rfl ?_
      refine SO.passF rfl rfl rfl b4 rfl rfl ?_
      obtain ⟨hq, rfl⟩ := VM.ret_some V.toVI h
      cases hq
      refine SO.v rfl (opv_pick_t' b4 rfl rfl) ?_
      refine SO.b2 ?_
      refine SO.b2 ?_
      refine SO.b2 ?_
      exact hk2.fitc (m := 4) rfl (rfl) rfl
    · replace h := VM.cond_f V.toVI b4 h
      refine SO.takeT rfl rfl rfl b4 ?_
      refine SO.v rfl (opv_move rfl) ?_
      refine SO.takeT rfl rfl rfl b4 ?_
      obtain ⟨t7, ht8, h⟩ := VM.opt_some V.toVI h
      refine SO.call (pre := []) rfl Try.call47 rfl rfl rfl (ntfn_there.ct _ _ ht8) trivial ?_
      rintro _ _ ⟨rfl, rfl⟩
      refine SO.takeT rfl rfl rfl b4 ?_
      refine SO.v rfl (opv_not rfl) ?_
      obtain ⟨hq, rfl⟩ := VM.ret_some V.toVI h
      cases hq
      refine SO.v rfl (opv_pick_f' b4 rfl rfl) ?_
      refine SO.b2 ?_
      refine SO.b2 ?_
      refine SO.b2 ?_
      exact hk2.fitc (m := 4) rfl (rfl) rfl
  clear hc6
  replace h := hgk
  refine SO.v rfl (opv_assign rfl) ?_
  refine SO.nil ?_
  rcases bool_or c5 with b10 | b10
  · replace h := VM.cond_t V.toVI b10 h
    refine S.condT rfl b10 ?_
    refine S.seq ?_
    refine S.region ?_
    refine SO.v rfl (opv_build (v := .agg #[.int .i64 0, .int .i64 0, .int .i64 0]) rfl (by intro w; kernel_rfl)) ?_
    refine SO.v rfl (opv_iface Try.underlying44 rfl rfl) ?_
    refine SO.storeN Try.sizeOf41 rfl rfl rfl rfl rfl rfl ?_
    refine SO.v rfl (opv_assign rfl) ?_
    refine SO.v rfl (opv_assign rfl) ?_
    refine SO.nil ?_
    refine S.to (ρ' := [(6, bp b1 0), (7, .bool false), (8, errV 44 (some 2))]) ⟨rfl, rfl, rfl, trivial⟩ ?_
    obtain ⟨hq, rfl⟩ := VM.ret_some V.toVI h
    cases hq
    refine S.b2 ?_
    refine S.b2 ?_
    refine S.b2 ?_
    exact S.retC2 Try.func15 rfl rfl rfl rfl Try.isAgg41 Try.sizeOf41 rfl rfl (fun w hs hk => hR w _ _ ⟨rfl, rfl⟩ hs.drop hk)
  · replace h := VM.cond_f V.toVI b10 h
    refine S.condF rfl b10 ?_
    refine S.seq ?_
    refine S.region ?_
    refine SO.v rfl (opv_move rfl) ?_
    refine SO.v rfl (opv_move rfl) ?_
    obtain ⟨t11, s13, ht12, h⟩ := VM.bind_some V.toVI h
    refine SO.b1 ?_
    refine SO.call (pre := [V.rep _]) rfl Try.call48 rfl rfl rfl (ntfn_word.ct V _ _ _ _ ht12) trivial ?_
    rintro _ _ ⟨rfl, rfl⟩
    refine SO.v rfl (opv_eql rfl rfl) ?_
    refine SO.v rfl (opv_assign rfl) ?_
    refine SO.nil ?_
    refine S.to (ρ' := [(0, V.val), (1, .int .i64 a1), (2, .int .i64 a2), (6, bp b1 0), (7, .bool false), (8, errV 44 none), (22, .bool (t11 == 0))]) ⟨rfl, rfl, rfl, rfl, rfl, rfl, rfl, trivial⟩ ?_
    rcases bool_or (t11 == 0) with b14 | b14
    · replace h := VM.cond_t V.toVI b14 h
      refine S.condT rfl b14 ?_
      refine S.seq ?_
      refine S.region ?_
      refine SO.v rfl (opv_move rfl) ?_
      refine SO.v rfl (opv_move rfl) ?_
      refine SO.v rfl (opv_move rfl) ?_
      obtain ⟨_, s16, ht15, h⟩ := VM.bind_some V.toVI h
      refine SO.call (pre := [V.rep _]) rfl Try.call44 rfl rfl rfl (endp_Block.ct V _ _ _ _ _ ht15) trivial ?_
      rintro _ _ ⟨rfl, rfl⟩
      refine SO.nil ?_
      refine S.to (ρ' := [(6, bp b1 0), (7, .bool false), (8, errV 44 none)]) ⟨rfl, rfl, rfl, trivial⟩ ?_
      refine S.seq ?_
      refine S.region ?_
      refine SO.v rfl (opv_build (v := .agg #[.int .i64 0, .int .i64 0, .int .i64 0]) rfl (by intro w; kernel_rfl)) ?_
      refine SO.b1 ?_
      refine SO.storeN Try.sizeOf41 rfl rfl rfl rfl rfl rfl ?_
      refine SO.v rfl (opv_assign rfl) ?_
      refine SO.v rfl (opv_assign rfl) ?_
      refine SO.nil ?_
      obtain ⟨hq, rfl⟩ := VM.ret_some V.toVI h
      cases hq
      refine S.b2 ?_
      refine S.b2 ?_
      refine S.b2 ?_
      exact S.retC2 Try.func15 rfl rfl rfl rfl Try.isAgg41 Try.sizeOf41 rfl rfl (fun w hs hk => hR w _ _ ⟨rfl, rfl⟩ hs.drop hk)
    · replace h := VM.cond_f V.toVI b14 h
      refine S.condF rfl b14 ?_
      refine S.skip ?_
      refine S.inBlock ?_
      refine S.seq ?_
      refine S.region ?_
      refine SO.v rfl (opv_move rfl) ?_
      refine SO.v rfl (opv_move rfl) ?_
      obtain ⟨⟨t17, t18⟩, s20, ht19, h⟩ := VM.bind_some V.toVI h
      refine SO.call (pre := [V.rep _]) rfl Try.call49 rfl rfl rfl (ntfn_Poll.ct V _ _ _ _ _ ht19) trivial ?_
      rintro _ _ ⟨rfl, rfl⟩
      refine SO.v rfl (opv_move rfl) ?_
      refine SO.v rfl (opv_extract rfl rfl) ?_
      refine SO.v rfl (opv_extract rfl rfl) ?_
      refine SO.alloc rfl Try.zeroValue41 rfl (fun b21 => ?_)
      refine SO.storeN Try.sizeOf41 rfl rfl rfl rfl rfl rfl ?_
      refine SO.v rfl (opv_assign rfl) ?_
      refine SO.nil ?_
      refine S.to (ρ' := [(6, bp b1 0), (7, .bool false), (8, errV 44 none), (9, bp b21 0), (10, errV 44 t18)]) ⟨rfl, rfl, rfl, rfl, rfl, trivial⟩ ?_
      refine S.seq ?_
      refine S.draw' (Z := fun Q => ∀ (_ : Unit) (_ : Unit) (_ : Unit) (_ : Unit) (_ : Unit) (_ : Unit) (_ : Unit), Q [(6, bp b1 0), (7, .bool t18.isNone), (8, errV 44 t18)] [Box b21 [.int .i64 t17.Code, .int .i64 t17.Word, .int .i64 t17.Badge], V.rep s20, Box b1 [.int .i64 t17.Code, .int .i64 t17.Word, .int .i64 t17.Badge], F]) (T := [tS 9 (bp b21 0), tS 10 (errV 44 t18), tS 6 (bp b1 0), tR (Box b21 [.int .i64 t17.Code, .int .i64 t17.Word, .int .i64 t17.Badge]), tR (V.rep s20), tR (Box b1 [.int .i64 0, .int .i64 0, .int .i64 0]), tR (F), tS 38 (.agg #[.int .i64 t17.Code, .int .i64 t17.Word, .int .i64 t17.Badge]), tS 39 (errV 44 t18), tS 40 (.bool t18.isNone), tS 41 (errV 44 t18), tR (Box b1 [.int .i64 t17.Code, .int .i64 t17.Word, .int .i64 t17.Badge]), tS 7 (.bool t18.isNone), tS 8 (errV 44 t18)]) (D := [⟨[0, 3], [], [7]⟩, ⟨[1], [], [8]⟩, ⟨[8], [], [9]⟩, ⟨[1], [], [10]⟩, ⟨[2, 7], [5], [11]⟩, ⟨[9], [], [12]⟩, ⟨[10], [], [13]⟩]) (ini := [0, 1, 2, 3, 4, 5, 6]) (fin := [2, 12, 13, 3, 4, 11, 6]) (bf := [[], [], [1], [], [0], [0, 1, 2, 4], [0, 1, 2, 3, 4, 5]]) (by kernel_rfl) (by kernel_rfl) (fun x w h1 h2 => (.cons () (.cons () (.cons () (.cons () (.cons () (.cons () (.cons () (.nil ⟨EnvAll.of h1 ⟨rfl, rfl, rfl, trivial⟩, h2⟩))))))))) (fun Q => by kernel_rfl) ⟨?_, ?_, ?_, ?_, ?_, ?_, ?_, trivial⟩ ?_
      · rintro Fr _ _
        refine SO.loadN rfl Try.isAgg41 Try.sizeOf41 rfl rfl rfl ?_
        exact SO.nilZ fun a w h1 h2 h3 h4 h5 => PZ.of h1 h3 h5 (.cons () (.cons () (.cons () (.nil ⟨EnvAll.of h2 ⟨rfl, rfl, trivial⟩, h4⟩))))
      · rintro Fr _
        refine SO.v rfl (opv_move rfl) ?_
        exact SO.nilZ fun a w h1 h2 h3 h4 h5 => PZ.of h1 h3 h5 (.cons () (.cons () (.nil ⟨EnvAll.of h2 ⟨rfl, rfl, trivial⟩, h4⟩)))
      · rintro Fr _
        refine SO.v rfl (opv_eqlN (e := t18) Try.underlying37 rfl) ?_
        exact SO.nilZ fun a w h1 h2 h3 h4 h5 => PZ.of h1 h3 h5 (.cons () (.cons () (.nil ⟨EnvAll.of h2 ⟨rfl, rfl, trivial⟩, h4⟩)))
      · rintro Fr _
        refine SO.v rfl (opv_move rfl) ?_
        exact SO.nilZ fun a w h1 h2 h3 h4 h5 => PZ.of h1 h3 h5 (.cons () (.cons () (.nil ⟨EnvAll.of h2 ⟨rfl, rfl, trivial⟩, h4⟩)))
      · rintro Fr _ _ _
        refine SO.storeN Try.sizeOf41 rfl rfl rfl rfl rfl rfl ?_
        exact SO.nilZ fun a w h1 h2 h3 h4 h5 => PZ.of h1 h3 h5 (.cons () (.cons () (.cons () (.nil ⟨EnvAll.of h2 ⟨rfl, rfl, trivial⟩, h4⟩))))
      · rintro Fr _
        refine SO.v rfl (opv_assign rfl) ?_
        exact SO.nilZ fun a w h1 h2 h3 h4 h5 => PZ.of h1 h3 h5 (.cons () (.cons () (.nil ⟨EnvAll.of h2 ⟨rfl, rfl, trivial⟩, h4⟩)))
      · rintro Fr _
        refine SO.v rfl (opv_assign rfl) ?_
        exact SO.nilZ fun a w h1 h2 h3 h4 h5 => PZ.of h1 h3 h5 (.cons () (.cons () (.nil ⟨EnvAll.of h2 ⟨rfl, rfl, trivial⟩, h4⟩)))
      rintro _ _ _ _ _ _ _
      refine S.to (ρ' := [(6, bp b1 0), (7, .bool t18.isNone), (8, errV 44 t18)]) ⟨rfl, rfl, rfl, trivial⟩ ?_
      obtain ⟨hq, rfl⟩ := VM.ret_some V.toVI h
      cases hq
      refine S.drop ?_
      refine S.b2 ?_
      refine S.b1 ?_
      refine S.b2 ?_
      exact S.retC2 Try.func15 rfl rfl rfl rfl Try.isAgg41 Try.sizeOf41 rfl rfl (fun w hs hk => hR w _ _ ⟨rfl, rfl⟩ hs.drop hk)
end Go.Proofs
namespace Go.Proofs
open Go.Sl Go.RowKit
/-! 33 padstone/padstoneref10.Same -/
def ref10_Same.l1 (a0 : List Int) (a1 : List Int) : Nat → Int → Option (Brk Bool Unit)
  | 0, _ => none
  | k + 1, x5_1 => bif decide (x5_1 < (a0.length : Int)) then ((at_ a0 x5_1).bind fun x3 => (at_ a1 x5_1).bind fun x5 => bif x3 != x5 then (some (Brk.ret false)) else (ref10_Same.l1 a0 a1 k (w64 (x5_1 + 1)))) else (some (Brk.nx ()))
def ref10_Same.f (k : Nat) (a0 : List Int) (a1 : List Int) : Option (Bool) :=
  bif (a0.length : Int) != (a1.length : Int) then (some false) else ((ref10_Same.l1 a0 a1 k 0).bind fun o1 => Brk.go o1 (fun r => some r) (fun _ => some true))
set_option maxHeartbeats 8000000 in
set_option maxRecDepth 100000 in
theorem ref10_Same.ct (k : Nat) (v0 : Value) (v1 : Value) (a0 : List Int) (a1 : List Int) (r0 : Bool) (h : ref10_Same.f k a0 a1 = some r0) :
    Ct Try.prog 33 [v0, v1] (fun F => Rd (ekI .u64) v0 a0 F ∧ Rd (ekI .u64) v1 a1 F) [] (fun u H' => u = .bool r0 ∧ H' = []) := by
  unfold ref10_Same.f at h
  refine Ct.intro (n := 26) Try.func33 rfl rfl rfl ?_
  intro R w0 F hF hR
  obtain ⟨hF0, hF1⟩ := hF
  refine S.seq ?_
  refine S.region ?_
  refine SO.v rfl (opv_assign rfl) ?_
  refine SO.nil ?_
  refine S.seq ?_
  refine S.seq ?_
  refine S.region ?_
  refine SO.v rfl (opv_move rfl) ?_
  refine SO.v rfl (opv_lenR rfl Try.underlying24 hF0 rfl) ?_
  refine SO.v rfl (opv_move rfl) ?_
  refine SO.v rfl (opv_lenR rfl Try.underlying24 hF1 rfl) ?_
  refine SO.v rfl (opv_neq rfl rfl) ?_
  refine SO.nil ?_
  rcases bool_or ((a0.length : Int) != (a1.length : Int)) with b1 | b1
  · replace h := cond_t b1 h
    refine S.condT rfl b1 ?_
    refine S.seq ?_
    refine S.region ?_
    refine SO.v rfl (opv_assign rfl) ?_
    refine SO.nil ?_
    refine S.to (ρ' := [(4, .bool false)]) ⟨rfl, trivial⟩ ?_
    cases h
    exact S.ret1 Try.func33 rfl rfl (fun w hs hk => hR w _ _ ⟨rfl, rfl⟩ hs hk)
  · replace h := cond_f b1 h
    refine S.condF rfl b1 ?_
    refine S.skip ?_
    refine S.seq ?_
    refine S.seq ?_
    refine S.region ?_
    refine SO.v rfl (opv_assign rfl) ?_
    refine SO.nil ?_
    obtain ⟨o1, hl1, h⟩ := opt_bind h
    refine S.to (ρ' := [(5, .int .i64 0), (4, .bool false), (0, v0), (1, v1)]) ⟨rfl, rfl, rfl, rfl, trivial⟩ ?_
    refine S.forloop (X := Int × Unit) (O := Brk Bool Unit) (fun m x => ref10_Same.l1 a0 a1 m x.1) (fun x => match x with | (x5_1, _) => [(5, .int .i64 x5_1), (4, .bool false), (0, v0), (1, v1)]) (fun x => match x with | (x5_1, _) => [F]) (fun Sk o' => (∀ r', o' = Brk.ret r' → some r' = some r0) ∧ ∀ _ : Unit, ∀ _ : Unit, o' = Brk.nx () → Sk [(4, .bool false)] [F]) (fun _ => rfl) ?_ (m := k) (x := (0, ())) hl1 ?_
    · clear h hl1
      intro k x o_1 h hK1 ih1
      obtain ⟨x5_1, _⟩ := x
      replace h : ref10_Same.l1 a0 a1 (k + 1) x5_1 = some o_1 := h
      first | rw [ref10_Same.l1] at h | unfold ref10_Same.l1 at h
      refine S.seq ?_
      refine S.seq ?_
      refine S.region ?_
      refine SO.v rfl (opv_move rfl) ?_
      refine SO.v rfl (opv_move rfl) ?_
      refine SO.v rfl (opv_lenR rfl Try.underlying24 hF0 rfl) ?_
      refine SO.v rfl (opv_lss rfl rfl) ?_
      refine SO.nil ?_
      rcases bool_or (decide (x5_1 < (a0.length : Int))) with b2 | b2
      · replace h := cond_t b2 h
        refine S.condT rfl b2 ?_
        refine S.skip ?_
        refine S.seq ?_
        refine S.block ?_
        refine S.seq ?_
        obtain ⟨x3, hx4, h⟩ := opt_bind h
        obtain ⟨x5, hx6, h⟩ := opt_bind h
        refine S.draw' (Z := fun Q => ∀ (_ : Unit) (_ : Unit) (_ : Unit) (_ : Unit) (_ : Unit) (_ : Unit), Q [(5, .int .i64 x5_1), (4, .bool false), (0, v0), (1, v1), (25, .bool (x3 != x5))] [F]) (T := [tS 0 (v0), tS 5 (.int .i64 x5_1), tS 1 (v1), tS 4 (.bool false), tR (F), tS 17 (v0), tS 18 (.int .i64 x5_1), tS 19 (idxp v0 (x5_1.toNat * (ekI .u64).sz)), tS 20 (.int .u64 x3), tS 21 (v1), tS 22 (.int .i64 x5_1), tS 23 (idxp v1 (x5_1.toNat * (ekI .u64).sz)), tS 24 (.int .u64 x5), tS 25 (.bool (x3 != x5))]) (D := [⟨[0], [], [5]⟩, ⟨[1], [], [6]⟩, ⟨[5, 6, 4], [], [7]⟩, ⟨[7, 4], [], [8]⟩, ⟨[2], [], [9]⟩, ⟨[1], [], [10]⟩, ⟨[9, 10, 4], [], [11]⟩, ⟨[11, 4], [], [12]⟩, ⟨[8, 12], [], [13]⟩]) (ini := [0, 1, 2, 3, 4]) (fin := [1, 3, 0, 2, 13, 4]) (bf := [[], [], [0, 1], [0, 1, 2], [], [], [4, 5], [4, 5, 6], [0, 1, 2, 3, 4, 5, 6, 7]]) (by kernel_rfl) (by kernel_rfl) (fun x w h1 h2 => (.cons () (.cons () (.cons () (.cons () (.cons () (.nil ⟨EnvAll.of h1 ⟨rfl, rfl, rfl, rfl, trivial⟩, h2⟩))))))) (fun Q => by kernel_rfl) ⟨?_, ?_, ?_, ?_, ?_, ?_, ?_, ?_, ?_, trivial⟩ ?_
        · rintro Fr _
          refine SO.v rfl (opv_move rfl) ?_
          exact SO.nilZ fun a w h1 h2 h3 h4 h5 => PZ.of h1 h3 h5 (.cons () (.cons () (.nil ⟨EnvAll.of h2 ⟨rfl, rfl, trivial⟩, h4⟩)))
        · rintro Fr _
          refine SO.v rfl (opv_move rfl) ?_
          exact SO.nilZ fun a w h1 h2 h3 h4 h5 => PZ.of h1 h3 h5 (.cons () (.cons () (.nil ⟨EnvAll.of h2 ⟨rfl, rfl, trivial⟩, h4⟩)))
        · rintro Fr _ _ _
          refine SO.v rfl (opv_idx Try.underlying24 Try.sizeOf35 hF0 rfl rfl hx4) ?_
          exact SO.nilZ fun a w h1 h2 h3 h4 h5 => PZ.of h1 h3 h5 (.cons () (.cons () (.cons () (.cons () (.nil ⟨EnvAll.of h2 ⟨rfl, rfl, rfl, trivial⟩, h4⟩)))))
        · rintro Fr _ _
          refine SO.loadI1 (j := 0) rfl Try.isAgg35 (Rd.head hF0) hx4 rfl rfl rfl rfl ?_
          exact SO.nilZ fun a w h1 h2 h3 h4 h5 => PZ.of h1 h3 h5 (.cons () (.cons () (.cons () (.nil ⟨EnvAll.of h2 ⟨rfl, rfl, trivial⟩, h4⟩))))
        · rintro Fr _
          refine SO.v rfl (opv_move rfl) ?_
          exact SO.nilZ fun a w h1 h2 h3 h4 h5 => PZ.of h1 h3 h5 (.cons () (.cons () (.nil ⟨EnvAll.of h2 ⟨rfl, rfl, trivial⟩, h4⟩)))
        · rintro Fr _
          refine SO.v rfl (opv_move rfl) ?_
          exact SO.nilZ fun a w h1 h2 h3 h4 h5 => PZ.of h1 h3 h5 (.cons () (.cons () (.nil ⟨EnvAll.of h2 ⟨rfl, rfl, trivial⟩, h4⟩)))
        · rintro Fr _ _ _
          refine SO.v rfl (opv_idx Try.underlying24 Try.sizeOf35 hF1 rfl rfl hx6) ?_
          exact SO.nilZ fun a w h1 h2 h3 h4 h5 => PZ.of h1 h3 h5 (.cons () (.cons () (.cons () (.cons () (.nil ⟨EnvAll.of h2 ⟨rfl, rfl, rfl, trivial⟩, h4⟩)))))
        · rintro Fr _ _
          refine SO.loadI1 (j := 0) rfl Try.isAgg35 (Rd.head hF1) hx6 rfl rfl rfl rfl ?_
          exact SO.nilZ fun a w h1 h2 h3 h4 h5 => PZ.of h1 h3 h5 (.cons () (.cons () (.cons () (.nil ⟨EnvAll.of h2 ⟨rfl, rfl, trivial⟩, h4⟩))))
        · rintro Fr _ _
          refine SO.v rfl (opv_neq rfl rfl) ?_
          exact SO.nilZ fun a w h1 h2 h3 h4 h5 => PZ.of h1 h3 h5 (.cons () (.cons () (.cons () (.nil ⟨EnvAll.of h2 ⟨rfl, rfl, rfl, trivial⟩, h4⟩))))
        rintro _ _ _ _ _ _
        refine S.to (ρ' := [(5, .int .i64 x5_1), (4, .bool false), (0, v0), (1, v1), (25, .bool (x3 != x5))]) ⟨rfl, rfl, rfl, rfl, rfl, trivial⟩ ?_
        rcases bool_or (x3 != x5) with b7 | b7
        · replace h := cond_t b7 h
          refine S.condT rfl b7 ?_
          refine S.seq ?_
          refine S.region ?_
          refine SO.v rfl (opv_assign rfl) ?_
          refine SO.nil ?_
          cases h
          replace h := hK1.1 _ rfl
          cases h
          exact S.ret1 Try.func33 rfl rfl (fun w hs hk => hR w _ _ ⟨rfl, rfl⟩ hs hk)
        · replace h := cond_f b7 h
          refine S.condF rfl b7 ?_
          refine S.skip ?_
          refine S.inBlock ?_
          refine S.region ?_
          refine SO.v rfl (opv_move rfl) ?_
          refine SO.v rfl (opv_add rfl rfl) ?_
          refine SO.v rfl (opv_assign rfl) ?_
          refine SO.nil ?_
          refine S.to ?_ (ih1 (w64 (x5_1 + 1), ()) h)
          exact ⟨rfl, rfl, rfl, rfl, trivial⟩
      · replace h := cond_f b2 h
        refine S.condF rfl b2 ?_
        refine S.exit rfl ?_
        cases h
        refine S.to ?_ (hK1.2 () () rfl)
        exact ⟨rfl, trivial⟩
    refine ⟨fun r' e' => ?_, ?_⟩
    · subst e'
      have h9 := Brk.of_ret h
      exact h9
    rintro _ _ e'
    subst e'
    replace h := Brk.of_nx h
    refine S.seq ?_
    refine S.region ?_
    refine SO.v rfl (opv_assign rfl) ?_
    refine SO.nil ?_
    cases h
    exact S.ret1 Try.func33 rfl rfl (fun w hs hk => hR w _ _ ⟨rfl, rfl⟩ hs hk)
end Go.Proofs
namespace Go.Proofs
open Go.Sl Go.RowKit
/-! 31 (*padstone/padstoneref10.State).Highest -/
def ref10_State_Highest.l1 (a0 : ref10_State) : Nat → (Int × Int) → Option (Int)
  | 0, _ => none
  | k + 1, (x4_1, x3_1) => bif decide (x4_1 < 32) then ((at_ a0.Objs x4_1).bind fun x6 => bif (x6.Kind != 5) || (x6.State != 1) then (ref10_State_Highest.l1 a0 k (w64 (x4_1 + 1), x3_1)) else (bif decide (x3_1 < 0) then (ref10_State_Highest.l1 a0 k (w64 (x4_1 + 1), x4_1)) else ((at_ a0.Objs x3_1).bind fun x18 => bif decide (x18.Prio < x6.Prio) then (ref10_State_Highest.l1 a0 k (w64 (x4_1 + 1), x4_1)) else (ref10_State_Highest.l1 a0 k (w64 (x4_1 + 1), x3_1))))) else (some x3_1)
def ref10_State_Highest.f (k : Nat) (a0 : ref10_State) : Option (Int) :=
  (ref10_State_Highest.l1 a0 k (0, -1)).bind fun j3_e1 => some j3_e1
set_option maxHeartbeats 8000000 in
set_option maxRecDepth 100000 in
theorem ref10_State_Highest.ct (k : Nat) (bp0 : Nat) (v0_Slots : Value) (v0_Objs : Value) (raws_v0_Slots : List (Raw (kr_ref10_Slot).sz)) (A_v0_Slots : HProp) (raws_v0_Objs : List (Raw (kr_ref10_Obj).sz)) (A_v0_Objs : HProp) (a0 : ref10_State) (r0 : Int) (h : ref10_State_Highest.f k a0 = some r0) :
    Ct Try.prog 31 [bp bp0 0] (fun _ => True) [Box bp0 [v0_Slots, v0_Objs, .int .i64 a0.NS, .int .i64 a0.NO], OwnO 81 kr_ref10_Slot v0_Slots raws_v0_Slots A_v0_Slots a0.Slots, OwnO 72 kr_ref10_Obj v0_Objs raws_v0_Objs A_v0_Objs a0.Objs] (fun u H' => u = .int .i64 r0 ∧ H' = [Box bp0 [v0_Slots, v0_Objs, .int .i64 a0.NS, .int .i64 a0.NO], OwnO 81 kr_ref10_Slot v0_Slots raws_v0_Slots A_v0_Slots a0.Slots, OwnO 72 kr_ref10_Obj v0_Objs raws_v0_Objs A_v0_Objs a0.Objs]) := by
  unfold ref10_State_Highest.f at h
  refine Ct.intro (n := 41) Try.func31 rfl rfl rfl ?_
  intro R w0 F hF hR
  refine S.b1 ?_
  refine S.rdO fun hrel1 hR2 => ?_
  refine S.b2 ?_
  refine S.rdO fun hrel3 hR4 => ?_
  refine S.seq ?_
  refine S.region ?_
  refine SO.v rfl (opv_assign rfl) ?_
  refine SO.nil ?_
  refine S.seq ?_
  refine S.region ?_
  refine SO.v rfl (opv_assign rfl) ?_
  refine SO.nil ?_
  refine S.seq ?_
  refine S.seq ?_
  refine S.region ?_
  refine SO.v rfl (opv_assign rfl) ?_
  refine SO.nil ?_
  obtain ⟨j3_e1, hl1, h⟩ := opt_bind h
  refine S.b3 ?_
  refine S.b3 ?_
  refine S.b3 ?_
  refine S.b3 ?_
  refine S.to (ρ' := [(4, .int .i64 0), (3, .int .i64 (-1)), (2, .int .i64 0), (0, bp bp0 0)]) ⟨rfl, rfl, rfl, rfl, trivial⟩ ?_
  refine S.forloop (X := (Int × Int) × Unit) (O := Int) (fun m x => ref10_State_Highest.l1 a0 m x.1) (fun x => match x with | ((x4_1, x3_1), _) => [(4, .int .i64 x4_1), (3, .int .i64 x3_1), (2, .int .i64 0), (0, bp bp0 0)]) (fun x => match x with | ((x4_1, x3_1), _) => [OwnO 72 kr_ref10_Obj v0_Objs raws_v0_Objs A_v0_Objs a0.Objs, OwnO 81 kr_ref10_Slot v0_Slots raws_v0_Slots A_v0_Slots a0.Slots, Box bp0 [v0_Slots, v0_Objs, .int .i64 a0.NS, .int .i64 a0.NO], F]) (fun Sk => (fun j3_e1 => ∀ _ : Unit, Sk [(2, .int .i64 0), (3, .int .i64 j3_e1)] [OwnO 72 kr_ref10_Obj v0_Objs raws_v0_Objs A_v0_Objs a0.Objs, OwnO 81 kr_ref10_Slot v0_Slots raws_v0_Slots A_v0_Slots a0.Slots, Box bp0 [v0_Slots, v0_Objs, .int .i64 a0.NS, .int .i64 a0.NO], F])) (fun _ => rfl) ?_ (m := k) (x := ((0, -1), ())) hl1 ?_
  · clear h hl1
    intro k x o_1 h hK1 ih1
    obtain ⟨⟨x4_1, x3_1⟩, _⟩ := x
    replace h : ref10_State_Highest.l1 a0 (k + 1) (x4_1, x3_1) = some o_1 := h
    first | rw [ref10_State_Highest.l1] at h | unfold ref10_State_Highest.l1 at h
    refine S.seq ?_
    refine S.seq ?_
    refine S.region ?_
    refine SO.v rfl (opv_move rfl) ?_
    refine SO.v rfl (opv_lss rfl rfl) ?_
    refine SO.nil ?_
    rcases bool_or (decide (x4_1 < 32)) with b5 | b5
    · replace h := cond_t b5 h
      refine S.condT rfl b5 ?_
      refine S.skip ?_
      refine S.seq ?_
      refine S.block ?_
      refine S.seq ?_
      refine S.region ?_
      refine SO.v rfl (opv_move rfl) ?_
      refine SO.v rfl (opv_nilCheck rfl) ?_
      refine SO.v rfl (opv_fieldAddr Try.underlying76 rfl Try.sizeOf74 rfl rfl) ?_
      refine SO.b2 ?_
      refine SO.load1 rfl Try.isAgg74 rfl rfl ?_
      refine SO.v rfl (opv_move rfl) ?_
      obtain ⟨x6, hx7, h⟩ := opt_bind h
      obtain ⟨r8, hr9, hc10⟩ := relR.at hrel3 hx7
      refine SO.v rfl (opv_idx Try.underlying74 Try.sizeOf72 hR4 rfl rfl hr9) ?_
      refine hc10.rip fun u11 hru12 e13 => ?_
      refine SO.loadIN rfl Try.isAgg72 Try.sizeOf72 (Rd.tail (Rd.head hR4)) hr9 rfl rfl e13 ?_
      refine SO.alloc rfl Try.zeroValue72 rfl (fun b14 => ?_)
      refine SO.storeN Try.sizeOf72 rfl rfl (all1 rfl (all1 rfl (all1 rfl (all1 rfl (all1 rfl (all1 rfl (all1 (Rd.one hru12) (all1 rfl (all1 rfl (all1 rfl (all1 rfl (all1 rfl (all1 rfl (all1 rfl (all1 rfl (all1 rfl (all1 rfl (all1 rfl (all1 rfl (all1 rfl (all1 rfl (all1 rfl (all1 rfl (all1 rfl (all1 rfl (all1 rfl (all1 rfl (all1 rfl (all1 rfl (all1 rfl (all1 rfl (all1 rfl rfl)))))))))))))))))))))))))))))))) rfl rfl rfl ?_
      refine SO.nil ?_
      refine S.to (ρ' := [(4, .int .i64 x4_1), (3, .int .i64 x3_1), (2, .int .i64 0), (0, bp bp0 0), (5, bp b14 0)]) ⟨rfl, rfl, rfl, rfl, rfl, trivial⟩ ?_
      refine S.seq ?_
      refine S.seq ?_
      refine S.region ?_
      refine SO.v rfl (opv_fieldAddr Try.underlying72 rfl Try.sizeOf3 rfl rfl) ?_
      refine SO.load1 rfl Try.isAgg3 rfl rfl ?_
      refine SO.v rfl (opv_neq rfl rfl) ?_
      refine SO.v rfl (opv_move rfl) ?_
      refine SO.cut 4 24 (.bool ((x6.Kind != 5) || (x6.State != 1))) [Box b14 [.int .i64 x6.Kind, .int .i64 x6.Size, .int .i64 x6.Used, .int .i64 x6.First, .int .i64 x6.Radix, .int .i64 x6.Wait, u11, .int .i64 x6.Word, .int .i64 x6.State, .int .i64 x6.Owing, .int .i64 x6.Badge, .int .i64 x6.Prio, .int .i64 x6.On, .int .i64 x6.Owes, .int .i64 x6.Root.Kind, .int .i64 x6.Root.Rights, .int .i64 x6.Root.Obj, .int .i64 x6.Root.Badge, .int .i64 x6.Root.Guard, .int .i64 x6.Root.Bits, .int .i64 x6.Pages.a0, .int .i64 x6.Pages.a1, .int .i64 x6.Pages.a2, .int .i64 x6.Pages.a3, .int .i64 x6.Right.a0, .int .i64 x6.Right.a1, .int .i64 x6.Right.a2, .int .i64 x6.Right.a3, .int .i64 x6.In, .int .i64 x6.Page, .int .i64 x6.Bound, .int .i64 x6.Mask], Box bp0 [v0_Slots, v0_Objs, .int .i64 a0.NS, .int .i64 a0.NO], OwnO 72 kr_ref10_Obj v0_Objs raws_v0_Objs A_v0_Objs a0.Objs, OwnO 81 kr_ref10_Slot v0_Slots raws_v0_Slots A_v0_Slots a0.Slots, F] (fun l2 hk2 => ?_) ?_
      · rcases bool_or (x6.Kind != 5) with b15 | b15
        · refine SO.passF rfl rfl rfl b15 rfl rfl ?_
          refine SO.passF rfl rfl rfl b15 rfl rfl ?_
          refine SO.passF rfl rfl rfl b15 rfl rfl ?_
          refine SO.v rfl (opv_pick_t' b15 rfl rfl) ?_
          refine SO.b4 ?_
          refine SO.b4 ?_
          refine SO.b4 ?_
          refine SO.b4 ?_
          refine SO.b4 ?_
          exact hk2.fitc (m := 4) rfl (or_t b15) rfl
        · refine SO.takeT rfl rfl rfl b15 ?_
          refine SO.v rfl (opv_fieldAddr Try.underlying72 rfl Try.sizeOf3 rfl rfl) ?_
          refine SO.takeT rfl rfl rfl b15 ?_
          refine SO.load1 rfl Try.isAgg3 rfl rfl ?_
          refine SO.takeT rfl rfl rfl b15 ?_
          refine SO.v rfl (opv_neq rfl rfl) ?_
          refine SO.v rfl (opv_pick_f' b15 rfl rfl) ?_
          refine SO.b4 ?_
          refine SO.b4 ?_
          refine SO.b4 ?_
          refine SO.b4 ?_
          refine SO.b4 ?_
          exact hk2.fitc (m := 4) rfl (or_f b15) rfl
      refine SO.nil ?_
      rcases bool_or ((x6.Kind != 5) || (x6.State != 1)) with b16 | b16
      · replace h := cond_t b16 h
        refine S.condT rfl b16 ?_
        refine S.exit rfl ?_
        refine S.region ?_
        refine SO.v rfl (opv_move rfl) ?_
        refine SO.v rfl (opv_add rfl rfl) ?_
        refine SO.v rfl (opv_assign rfl) ?_
        refine SO.nil ?_
        refine S.to (ρ' := [(4, .int .i64 (w64 (x4_1 + 1))), (3, .int .i64 x3_1), (2, .int .i64 0), (0, bp bp0 0)]) ⟨rfl, rfl, rfl, rfl, trivial⟩ ?_
        refine S.drop ?_
        refine S.b3 ?_
        refine S.b1 ?_
        refine S.b3 ?_
        refine S.b3 ?_
        refine S.to ?_ (ih1 ((w64 (x4_1 + 1), x3_1), ()) h)
        exact ⟨rfl, rfl, rfl, rfl, trivial⟩
      · replace h := cond_f b16 h
        refine S.condF rfl b16 ?_
        refine S.skip ?_
        refine S.seq ?_
        refine S.region ?_
        refine SO.v rfl (opv_move rfl) ?_
        refine SO.v rfl (opv_lss rfl rfl) ?_
        refine SO.nil ?_
        rcases bool_or (decide (x3_1 < 0)) with b17 | b17
        · replace h := cond_t b17 h
          refine S.condT rfl b17 ?_
          refine S.region ?_
          refine SO.v rfl (opv_move rfl) ?_
          refine SO.v rfl (opv_assign rfl) ?_
          refine SO.nil ?_
          refine S.to (ρ' := [(4, .int .i64 x4_1), (3, .int .i64 x4_1), (2, .int .i64 0), (0, bp bp0 0)]) ⟨rfl, rfl, rfl, rfl, trivial⟩ ?_
          refine S.inBlock ?_
          refine S.region ?_
          refine SO.v rfl (opv_move rfl) ?_
          refine SO.v rfl (opv_add rfl rfl) ?_
          refine SO.v rfl (opv_assign rfl) ?_
          refine SO.nil ?_
          refine S.drop ?_
          refine S.b3 ?_
          refine S.b1 ?_
          refine S.b3 ?_
          refine S.b3 ?_
          refine S.to ?_ (ih1 ((w64 (x4_1 + 1), x4_1), ()) h)
          exact ⟨rfl, rfl, rfl, rfl, trivial⟩
        · replace h := cond_f b17 h
          refine S.condF rfl b17 ?_
          refine S.seq ?_
          obtain ⟨x18, hx19, h⟩ := opt_bind h
          obtain ⟨r20, hr21, hc22⟩ := relR.at hrel3 hx19
          refine S.draw' (Z := fun Q => ∀ (_ : Unit) (_ : Unit) (_ : Unit) (_ : Unit) (_ : Unit) (_ : Unit) (_ : Unit) (_ : Unit) (_ : Unit), Q [(4, .int .i64 x4_1), (2, .int .i64 0), (3, .int .i64 x3_1), (0, bp bp0 0), (38, .bool (decide (x18.Prio < x6.Prio)))] [Box b14 [.int .i64 x6.Kind, .int .i64 x6.Size, .int .i64 x6.Used, .int .i64 x6.First, .int .i64 x6.Radix, .int .i64 x6.Wait, u11, .int .i64 x6.Word, .int .i64 x6.State, .int .i64 x6.Owing, .int .i64 x6.Badge, .int .i64 x6.Prio, .int .i64 x6.On, .int .i64 x6.Owes, .int .i64 x6.Root.Kind, .int .i64 x6.Root.Rights, .int .i64 x6.Root.Obj, .int .i64 x6.Root.Badge, .int .i64 x6.Root.Guard, .int .i64 x6.Root.Bits, .int .i64 x6.Pages.a0, .int .i64 x6.Pages.a1, .int .i64 x6.Pages.a2, .int .i64 x6.Pages.a3, .int .i64 x6.Right.a0, .int .i64 x6.Right.a1, .int .i64 x6.Right.a2, .int .i64 x6.Right.a3, .int .i64 x6.In, .int .i64 x6.Page, .int .i64 x6.Bound, .int .i64 x6.Mask], Box bp0 [v0_Slots, v0_Objs, .int .i64 a0.NS, .int .i64 a0.NO], OwnO 72 kr_ref10_Obj v0_Objs raws_v0_Objs A_v0_Objs a0.Objs, OwnO 81 kr_ref10_Slot v0_Slots raws_v0_Slots A_v0_Slots a0.Slots, F]) (T := [tS 5 (bp b14 0), tS 0 (bp bp0 0), tS 3 (.int .i64 x3_1), tE [(4, .int .i64 x4_1), (2, .int .i64 0)], tR (Box b14 [.int .i64 x6.Kind, .int .i64 x6.Size, .int .i64 x6.Used, .int .i64 x6.First, .int .i64 x6.Radix, .int .i64 x6.Wait, u11, .int .i64 x6.Word, .int .i64 x6.State, .int .i64 x6.Owing, .int .i64 x6.Badge, .int .i64 x6.Prio, .int .i64 x6.On, .int .i64 x6.Owes, .int .i64 x6.Root.Kind, .int .i64 x6.Root.Rights, .int .i64 x6.Root.Obj, .int .i64 x6.Root.Badge, .int .i64 x6.Root.Guard, .int .i64 x6.Root.Bits, .int .i64 x6.Pages.a0, .int .i64 x6.Pages.a1, .int .i64 x6.Pages.a2, .int .i64 x6.Pages.a3, .int .i64 x6.Right.a0, .int .i64 x6.Right.a1, .int .i64 x6.Right.a2, .int .i64 x6.Right.a3, .int .i64 x6.In, .int .i64 x6.Page, .int .i64 x6.Bound, .int .i64 x6.Mask]), tR (Box bp0 [v0_Slots, v0_Objs, .int .i64 a0.NS, .int .i64 a0.NO]), tR (OwnO 72 kr_ref10_Obj v0_Objs raws_v0_Objs A_v0_Objs a0.Objs), tR (OwnO 81 kr_ref10_Slot v0_Slots raws_v0_Slots A_v0_Slots a0.Slots), tR (F), tS 28 (bp b14 11), tS 29 (.int .i64 x6.Prio), tS 30 (bp bp0 0), tS 31 (bp bp0 0), tS 32 (bp bp0 1), tS 33 (v0_Objs), tS 34 (.int .i64 x3_1), tS 35 (idxp v0_Objs (x3_1.toNat * kr_ref10_Obj.sz)), tS 36 (idxp v0_Objs (x3_1.toNat * kr_ref10_Obj.sz + 11)), tS 37 (.int .i64 x18.Prio), tS 38 (.bool (decide (x18.Prio < x6.Prio)))]) (D := [⟨[0], [], [9]⟩, ⟨[9, 4], [], [10]⟩, ⟨[1], [], [11]⟩, ⟨[11], [], [12]⟩, ⟨[12], [], [13]⟩, ⟨[13, 5], [], [14]⟩, ⟨[2], [], [15]⟩, ⟨[14, 15, 6], [], [16]⟩, ⟨[16, 6], [], [17]⟩, ⟨[17, 6], [], [18]⟩, ⟨[10, 18], [], [19]⟩]) (ini := [0, 1, 2, 3, 4, 5, 6, 7, 8]) (fin := [3, 2, 1, 19, 4, 5, 6, 7, 8]) (bf := [[], [0], [], [2], [2, 3], [2, 3, 4], [], [2, 3, 4, 5, 6], [2, 3, 4, 5, 6, 7], [2, 3, 4, 5, 6, 7, 8], [0, 1, 2, 3, 4, 5, 6, 7, 8, 9]]) (by kernel_rfl) (by kernel_rfl) (fun x w h1 h2 => (.cons () (.cons () (.cons () (.cons () (.cons () (.cons () (.cons () (.cons () (.cons () (.nil ⟨EnvAll.of h1 ⟨rfl, rfl, rfl, rfl, rfl, trivial⟩, h2⟩))))))))))) (fun Q => by kernel_rfl) ⟨?_, ?_, ?_, ?_, ?_, ?_, ?_, ?_, ?_, ?_, ?_, trivial⟩ ?_
          · rintro Fr _
            refine SO.v rfl (opv_fieldAddr Try.underlying72 rfl Try.sizeOf3 rfl rfl) ?_
            exact SO.nilZ fun a w h1 h2 h3 h4 h5 => PZ.of h1 h3 h5 (.cons () (.cons () (.nil ⟨EnvAll.of h2 ⟨rfl, rfl, trivial⟩, h4⟩)))
          · rintro Fr _ _
            refine SO.load1 rfl Try.isAgg3 rfl rfl ?_
            exact SO.nilZ fun a w h1 h2 h3 h4 h5 => PZ.of h1 h3 h5 (.cons () (.cons () (.cons () (.nil ⟨EnvAll.of h2 ⟨rfl, rfl, trivial⟩, h4⟩))))
          · rintro Fr _
            refine SO.v rfl (opv_move rfl) ?_
            exact SO.nilZ fun a w h1 h2 h3 h4 h5 => PZ.of h1 h3 h5 (.cons () (.cons () (.nil ⟨EnvAll.of h2 ⟨rfl, rfl, trivial⟩, h4⟩)))
          · rintro Fr _
            refine SO.v rfl (opv_nilCheck rfl) ?_
            exact SO.nilZ fun a w h1 h2 h3 h4 h5 => PZ.of h1 h3 h5 (.cons () (.cons () (.nil ⟨EnvAll.of h2 ⟨rfl, rfl, trivial⟩, h4⟩)))
          · rintro Fr _
            refine SO.v rfl (opv_fieldAddr Try.underlying76 rfl Try.sizeOf74 rfl rfl) ?_
            exact SO.nilZ fun a w h1 h2 h3 h4 h5 => PZ.of h1 h3 h5 (.cons () (.cons () (.nil ⟨EnvAll.of h2 ⟨rfl, rfl, trivial⟩, h4⟩)))
          · rintro Fr _ _
            refine SO.load1 rfl Try.isAgg74 rfl rfl ?_
            exact SO.nilZ fun a w h1 h2 h3 h4 h5 => PZ.of h1 h3 h5 (.cons () (.cons () (.cons () (.nil ⟨EnvAll.of h2 ⟨rfl, rfl, trivial⟩, h4⟩))))
          · rintro Fr _
            refine SO.v rfl (opv_move rfl) ?_
            exact SO.nilZ fun a w h1 h2 h3 h4 h5 => PZ.of h1 h3 h5 (.cons () (.cons () (.nil ⟨EnvAll.of h2 ⟨rfl, rfl, trivial⟩, h4⟩)))
          · rintro Fr _ _ _
            refine SO.v rfl (opv_idx Try.underlying74 Try.sizeOf72 hR4 rfl rfl hr21) ?_
            exact SO.nilZ fun a w h1 h2 h3 h4 h5 => PZ.of h1 h3 h5 (.cons () (.cons () (.cons () (.cons () (.nil ⟨EnvAll.of h2 ⟨rfl, rfl, rfl, trivial⟩, h4⟩)))))
          · rintro Fr _ _
            refine SO.v rfl (opv_fieldIdx Try.underlying72 rfl Try.sizeOf3 hR4 hr21 rfl rfl) ?_
            exact SO.nilZ fun a w h1 h2 h3 h4 h5 => PZ.of h1 h3 h5 (.cons () (.cons () (.cons () (.nil ⟨EnvAll.of h2 ⟨rfl, rfl, trivial⟩, h4⟩))))
          · rintro Fr _ _
            refine SO.loadI1 (j := 11) rfl Try.isAgg3 (Rd.head hR4) hr21 rfl rfl rfl (hc22.val rfl) ?_
            exact SO.nilZ fun a w h1 h2 h3 h4 h5 => PZ.of h1 h3 h5 (.cons () (.cons () (.cons () (.nil ⟨EnvAll.of h2 ⟨rfl, rfl, trivial⟩, h4⟩))))
          · rintro Fr _ _
            refine SO.v rfl (opv_gtr rfl rfl) ?_
            exact SO.nilZ fun a w h1 h2 h3 h4 h5 => PZ.of h1 h3 h5 (.cons () (.cons () (.cons () (.nil ⟨EnvAll.of h2 ⟨rfl, rfl, rfl, trivial⟩, h4⟩))))
          rintro _ _ _ _ _ _ _ _ _
          refine S.to (ρ' := [(4, .int .i64 x4_1), (2, .int .i64 0), (3, .int .i64 x3_1), (0, bp bp0 0), (38, .bool (decide (x18.Prio < x6.Prio)))]) ⟨rfl, rfl, rfl, rfl, rfl, trivial⟩ ?_
          rcases bool_or (decide (x18.Prio < x6.Prio)) with b23 | b23
          · replace h := cond_t b23 h
            refine S.condT rfl b23 ?_
            refine S.region ?_
            refine SO.v rfl (opv_move rfl) ?_
            refine SO.v rfl (opv_assign rfl) ?_
            refine SO.nil ?_
            refine S.inBlock ?_
            refine S.region ?_
            refine SO.v rfl (opv_move rfl) ?_
            refine SO.v rfl (opv_add rfl rfl) ?_
            refine SO.v rfl (opv_assign rfl) ?_
            refine SO.nil ?_
            refine S.drop ?_
            refine S.b3 ?_
            refine S.b1 ?_
            refine S.b3 ?_
            refine S.b3 ?_
            refine S.to ?_ (ih1 ((w64 (x4_1 + 1), x4_1), ()) h)
            exact ⟨rfl, rfl, rfl, rfl, trivial⟩
          · replace h := cond_f b23 h
            refine S.condF rfl b23 ?_
            refine S.skip ?_
            refine S.inBlock ?_
            refine S.region ?_
            refine SO.v rfl (opv_move rfl) ?_
            refine SO.v rfl (opv_add rfl rfl) ?_
            refine SO.v rfl (opv_assign rfl) ?_
            refine SO.nil ?_
            refine S.drop ?_
            refine S.b3 ?_
            refine S.b1 ?_
            refine S.b3 ?_
            refine S.b3 ?_
            refine S.to ?_ (ih1 ((w64 (x4_1 + 1), x3_1), ()) h)
            exact ⟨rfl, rfl, rfl, rfl, trivial⟩
    · replace h := cond_f b5 h
      refine S.condF rfl b5 ?_
      refine S.exit rfl ?_
      cases h
      refine S.b3 ?_
      refine S.b3 ?_
      refine S.b3 ?_
      refine S.b3 ?_
      refine S.to ?_ (hK1 ())
      exact ⟨rfl, rfl, trivial⟩
  rintro _
  refine S.seq ?_
  refine S.region ?_
  refine SO.v rfl (opv_move rfl) ?_
  refine SO.v rfl (opv_assign rfl) ?_
  refine SO.nil ?_
  cases h
  refine S.b3 ?_
  refine S.b1 ?_
  refine S.b2 ?_
  refine S.b3 ?_
  exact S.ret1 Try.func31 rfl rfl (fun w hs hk => hR w _ _ ⟨rfl, rfl⟩ hs hk)
end Go.Proofs
namespace Go.Proofs
open Go.Sl Go.RowKit
/-! 52 (*padstone/padstoneref10.State).is -/
def ref10_State_is.f (a0 : ref10_State) (a1 : Int) (a2 : Int) : Option (Bool) :=
  bif (decide (a1 < 0)) || (decide (31 < a1)) then (some false) else ((at_ a0.Objs a1).bind fun x7 => some (x7.Kind == a2))
set_option maxHeartbeats 8000000 in
set_option maxRecDepth 100000 in
theorem ref10_State_is.ct (bp0 : Nat) (v0_Slots : Value) (v0_Objs : Value) (raws_v0_Slots : List (Raw (kr_ref10_Slot).sz)) (A_v0_Slots : HProp) (raws_v0_Objs : List (Raw (kr_ref10_Obj).sz)) (A_v0_Objs : HProp) (a0 : ref10_State) (a1 : Int) (a2 : Int) (r0 : Bool) (h : ref10_State_is.f a0 a1 a2 = some r0) :
    Ct Try.prog 52 [bp bp0 0, .int .i64 a1, .int .i64 a2] (fun _ => True) [Box bp0 [v0_Slots, v0_Objs, .int .i64 a0.NS, .int .i64 a0.NO], OwnO 81 kr_ref10_Slot v0_Slots raws_v0_Slots A_v0_Slots a0.Slots, OwnO 72 kr_ref10_Obj v0_Objs raws_v0_Objs A_v0_Objs a0.Objs] (fun u H' => u = .bool r0 ∧ H' = [Box bp0 [v0_Slots, v0_Objs, .int .i64 a0.NS, .int .i64 a0.NO], OwnO 81 kr_ref10_Slot v0_Slots raws_v0_Slots A_v0_Slots a0.Slots, OwnO 72 kr_ref10_Obj v0_Objs raws_v0_Objs A_v0_Objs a0.Objs]) := by
  unfold ref10_State_is.f at h
  refine Ct.intro (n := 23) Try.func52 rfl rfl rfl ?_
  intro R w0 F hF hR
  refine S.b1 ?_
  refine S.rdO fun hrel1 hR2 => ?_
  refine S.b2 ?_
  refine S.rdO fun hrel3 hR4 => ?_
  refine S.seq ?_
  refine S.region ?_
  refine SO.v rfl (opv_assign rfl) ?_
  refine SO.nil ?_
  refine S.seq ?_
  refine S.seq ?_
  refine S.region ?_
  refine SO.v rfl (opv_move rfl) ?_
  refine SO.v rfl (opv_lss rfl rfl) ?_
  refine SO.v rfl (opv_move rfl) ?_
  refine SO.cut 3 12 (.bool ((decide (a1 < 0)) || (decide (31 < a1)))) [OwnO 72 kr_ref10_Obj v0_Objs raws_v0_Objs A_v0_Objs a0.Objs, OwnO 81 kr_ref10_Slot v0_Slots raws_v0_Slots A_v0_Slots a0.Slots, Box bp0 [v0_Slots, v0_Objs, .int .i64 a0.NS, .int .i64 a0.NO], F] (fun l2 hk2 => ?_) ?_
  · rcases bool_or (decide (a1 < 0)) with b5 | b5
    · refine SO.passF rfl rfl rfl b5 rfl rfl ?_
      refine SO.passF rfl rfl rfl b5 rfl rfl ?_
      refine SO.v rfl (opv_pick_t' b5 rfl rfl) ?_
      refine SO.b3 ?_
      refine SO.b3 ?_
      refine SO.b3 ?_
      refine SO.b3 ?_
      exact hk2.fitc (m := 3) rfl (or_t b5) rfl
    · refine SO.takeT rfl rfl rfl b5 ?_
      refine SO.v rfl (opv_move rfl) ?_
      refine SO.takeT rfl rfl rfl b5 ?_
      refine SO.v rfl (opv_gtr rfl rfl) ?_
      refine SO.v rfl (opv_pick_f' b5 rfl rfl) ?_
      refine SO.b3 ?_
      refine SO.b3 ?_
      refine SO.b3 ?_
      refine SO.b3 ?_
      exact hk2.fitc (m := 3) rfl (or_f b5) rfl
  refine SO.nil ?_
  rcases bool_or ((decide (a1 < 0)) || (decide (31 < a1))) with b6 | b6
  · replace h := cond_t b6 h
    refine S.condT rfl b6 ?_
    refine S.seq ?_
    refine S.region ?_
    refine SO.v rfl (opv_assign rfl) ?_
    refine SO.nil ?_
    refine S.to (ρ' := [(6, .bool false)]) ⟨rfl, trivial⟩ ?_
    cases h
    refine S.b3 ?_
    refine S.b1 ?_
    refine S.b2 ?_
    refine S.b3 ?_
    exact S.ret1 Try.func52 rfl rfl (fun w hs hk => hR w _ _ ⟨rfl, rfl⟩ hs hk)
  · replace h := cond_f b6 h
    refine S.condF rfl b6 ?_
    refine S.skip ?_
    refine S.seq ?_
    refine S.region ?_
    refine SO.v rfl (opv_move rfl) ?_
    refine SO.v rfl (opv_nilCheck rfl) ?_
    refine SO.v rfl (opv_fieldAddr Try.underlying76 rfl Try.sizeOf74 rfl rfl) ?_
    refine SO.b2 ?_
    refine SO.load1 rfl Try.isAgg74 rfl rfl ?_
    refine SO.v rfl (opv_move rfl) ?_
    obtain ⟨x7, hx8, h⟩ := opt_bind h
    obtain ⟨r9, hr10, hc11⟩ := relR.at hrel3 hx8
    refine SO.v rfl (opv_idx Try.underlying74 Try.sizeOf72 hR4 rfl rfl hr10) ?_
    refine SO.v rfl (opv_fieldIdx Try.underlying72 rfl Try.sizeOf3 hR4 hr10 rfl rfl) ?_
    refine SO.loadI1 (j := 0) rfl Try.isAgg3 (Rd.tail (Rd.head hR4)) hr10 rfl rfl rfl (hc11.val rfl) ?_
    refine SO.v rfl (opv_move rfl) ?_
    refine SO.v rfl (opv_eql rfl rfl) ?_
    refine SO.v rfl (opv_assign rfl) ?_
    refine SO.nil ?_
    refine S.to (ρ' := [(6, .bool (x7.Kind == a2))]) ⟨rfl, trivial⟩ ?_
    cases h
    refine S.b3 ?_
    refine S.b2 ?_
    refine S.b3 ?_
    refine S.b3 ?_
    exact S.ret1 Try.func52 rfl rfl (fun w hs hk => hR w _ _ ⟨rfl, rfl⟩ hs hk)
end Go.Proofs
namespace Go.Proofs
open Go.Sl Go.RowKit
/-! 23 (*padstone/padstoneref10.State).Prio -/
def ref10_State_Prio.f (a0 : ref10_State) (a1 : Int) (a2 : Int) : Option ((Int × ref10_State)) :=
  (ref10_State_is.f a0 a1 5).bind fun t9 => bif !t9 then (some (2, a0)) else (bif (decide (a2 < 0)) || (decide (255 < a2)) then (some (1, a0)) else ((at_ a0.Objs a1).bind fun x14 => some (0, ({ a0 with Objs := a0.Objs.set a1.toNat ({ x14 with Prio := a2 } : ref10_Obj) } : ref10_State))))
set_option maxHeartbeats 8000000 in
set_option maxRecDepth 100000 in
theorem ref10_State_Prio.ct (bp0 : Nat) (v0_Slots : Value) (v0_Objs : Value) (a0 : ref10_State) (a1 : Int) (a2 : Int) (r0 : Int) (rp0 : ref10_State) (h : ref10_State_Prio.f a0 a1 a2 = some (r0, rp0)) :
    Ct Try.prog 23 [bp bp0 0, .int .i64 a1, .int .i64 a2] (fun _ => True) [Box bp0 [v0_Slots, v0_Objs, .int .i64 a0.NS, .int .i64 a0.NO], OwnR 81 kr_ref10_Slot v0_Slots a0.Slots, OwnR 72 kr_ref10_Obj v0_Objs a0.Objs] (fun u H' => ∃ rw0_Slots rw0_Objs, u = .int .i64 r0 ∧ H' = [Box bp0 [rw0_Slots, rw0_Objs, .int .i64 rp0.NS, .int .i64 rp0.NO], OwnR 81 kr_ref10_Slot rw0_Slots rp0.Slots, OwnR 72 kr_ref10_Obj rw0_Objs rp0.Objs]) := by
  unfold ref10_State_Prio.f at h
  refine Ct.intro (n := 27) Try.func23 rfl rfl rfl ?_
  intro R w0 F hF hR
  refine S.seq ?_
  refine S.region ?_
  refine SO.v rfl (opv_assign rfl) ?_
  refine SO.nil ?_
  refine S.seq ?_
  refine S.region ?_
  refine SO.v rfl (opv_move rfl) ?_
  refine SO.v rfl (opv_move rfl) ?_
  obtain ⟨t9, ht10, h⟩ := opt_bind h
  refine SO.b1 ?_
  refine SO.openR fun raws1 A2 hrel3 hR4 => ?_
  refine SO.b2 ?_
  refine SO.openR fun raws5 A6 hrel7 hR8 => ?_
  refine SO.b1 ?_
  refine SO.b2 ?_
  refine SO.call (pre := [Box _ _, OwnO _ _ _ _ _ _, OwnO _ _ _ _ _ _]) rfl Try.call52 rfl rfl rfl (ref10_State_is.ct bp0 v0_Slots v0_Objs raws1 A2 raws5 A6 _ _ _ _ ht10) trivial ?_
  rintro _ _ ⟨rfl, rfl⟩
  refine SO.v rfl (opv_assign rfl) ?_
  refine SO.nil ?_
  refine S.seq ?_
  refine S.seq ?_
  refine S.region ?_
  refine SO.v rfl (opv_move rfl) ?_
  refine SO.v rfl (opv_not rfl) ?_
  refine SO.nil ?_
  rcases bool_or (!t9) with b11 | b11
  · replace h := cond_t b11 h
    refine S.condT rfl b11 ?_
    refine S.seq ?_
    refine S.region ?_
    refine SO.v rfl (opv_assign rfl) ?_
    refine SO.nil ?_
    refine S.to (ρ' := [(6, .int .i64 2)]) ⟨rfl, trivial⟩ ?_
    cases h
    refine S.b1 ?_
    refine S.closeR ?_
    refine S.b2 ?_
    refine S.closeR ?_
    refine S.b3 ?_
    refine S.b1 ?_
    refine S.b2 ?_
    refine S.b3 ?_
    exact S.ret1 Try.func23 rfl rfl (fun w hs hk => hR w _ _ ⟨v0_Slots, v0_Objs, rfl, rfl⟩ hs hk)
  · replace h := cond_f b11 h
    refine S.condF rfl b11 ?_
    refine S.skip ?_
    refine S.seq ?_
    refine S.seq ?_
    refine S.region ?_
    refine SO.v rfl (opv_move rfl) ?_
    refine SO.v rfl (opv_lss rfl rfl) ?_
    refine SO.v rfl (opv_move rfl) ?_
    refine SO.cut 3 18 (.bool ((decide (a2 < 0)) || (decide (255 < a2)))) [Box bp0 [v0_Slots, v0_Objs, .int .i64 a0.NS, .int .i64 a0.NO], OwnO 81 kr_ref10_Slot v0_Slots raws1 A2 a0.Slots, OwnO 72 kr_ref10_Obj v0_Objs raws5 A6 a0.Objs, F] (fun l2 hk2 => ?_) ?_
    · rcases bool_or (decide (a2 < 0)) with b12 | b12
      · refine SO.passF rfl rfl rfl b12 rfl rfl ?_
        refine SO.passF rfl rfl rfl b12 rfl rfl ?_
        refine SO.v rfl (opv_pick_t' b12 rfl rfl) ?_
        refine SO.b3 ?_
        refine SO.b3 ?_
        refine SO.b3 ?_
        refine SO.b3 ?_
        exact hk2.fitc (m := 3) rfl (or_t b12) rfl
      · refine SO.takeT rfl rfl rfl b12 ?_
        refine SO.v rfl (opv_move rfl) ?_
        refine SO.takeT rfl rfl rfl b12 ?_
        refine SO.v rfl (opv_gtr rfl rfl) ?_
        refine SO.v rfl (opv_pick_f' b12 rfl rfl) ?_
        refine SO.b3 ?_
        refine SO.b3 ?_
        refine SO.b3 ?_
        refine SO.b3 ?_
        exact hk2.fitc (m := 3) rfl (or_f b12) rfl
    refine SO.nil ?_
    refine S.to (ρ' := [(0, bp bp0 0), (1, .int .i64 a1), (2, .int .i64 a2), (6, .int .i64 0), (18, .bool ((decide (a2 < 0)) || (decide (255 < a2))))]) ⟨rfl, rfl, rfl, rfl, rfl, trivial⟩ ?_
    rcases bool_or ((decide (a2 < 0)) || (decide (255 < a2))) with b13 | b13
    · replace h := cond_t b13 h
      refine S.condT rfl b13 ?_
      refine S.seq ?_
      refine S.region ?_
      refine SO.v rfl (opv_assign rfl) ?_
      refine SO.nil ?_
      cases h
      refine S.b1 ?_
      refine S.closeR ?_
      refine S.b2 ?_
      refine S.closeR ?_
      refine S.b3 ?_
      refine S.b1 ?_
      refine S.b2 ?_
      refine S.b3 ?_
      exact S.ret1 Try.func23 rfl rfl (fun w hs hk => hR w _ _ ⟨v0_Slots, v0_Objs, rfl, rfl⟩ hs hk)
    · replace h := cond_f b13 h
      refine S.condF rfl b13 ?_
      refine S.skip ?_
      refine S.seq ?_
      refine S.region ?_
      refine SO.v rfl (opv_move rfl) ?_
      refine SO.v rfl (opv_nilCheck rfl) ?_
      refine SO.v rfl (opv_fieldAddr Try.underlying76 rfl Try.sizeOf74 rfl rfl) ?_
      refine SO.load1 rfl Try.isAgg74 rfl rfl ?_
      refine SO.v rfl (opv_move rfl) ?_
      refine SO.v rfl (opv_move rfl) ?_
      obtain ⟨x14, hx15, h⟩ := opt_bind h
      obtain ⟨r16, hr17, hc18⟩ := relR.at hrel7 hx15
      refine SO.v rfl (opv_idx Try.underlying74 Try.sizeOf72 hR8 rfl rfl hr17) ?_
      refine SO.v rfl (opv_fieldIdx Try.underlying72 rfl Try.sizeOf3 hR8 hr17 rfl rfl) ?_
      refine SO.b2 ?_
      refine SO.storeO1 (j := 11) (q := .val (.int .i64 a2)) (z' := ({ x14 with Prio := a2 } : ref10_Obj)) Try.sizeOf3 hrel7 hx15 rfl rfl rfl rfl rfl rfl rfl (fun raws19 hrel20 hR21 => ?_)
      refine SO.nil ?_
      refine S.to (ρ' := [(6, .int .i64 0)]) ⟨rfl, trivial⟩ ?_
      refine S.seq ?_
      refine S.region ?_
      refine SO.v rfl (opv_assign rfl) ?_
      refine SO.nil ?_
      cases h
      refine S.closeR ?_
      refine S.b2 ?_
      refine S.closeR ?_
      refine S.b3 ?_
      refine S.b2 ?_
      refine S.b2 ?_
      refine S.b3 ?_
      exact S.ret1 Try.func23 rfl rfl (fun w hs hk => hR w _ _ ⟨v0_Slots, v0_Objs, rfl, rfl⟩ hs hk)
end Go.Proofs
namespace Go.Proofs
open Go.Sl Go.RowKit
/-! 26 (*padstone/padstoneref10.State).Ready -/
def ref10_State_Ready.f (a0 : ref10_State) (a1 : Int) : Option (Bool) :=
  (ref10_State_is.f a0 a1 5).bind fun t5 => bif !t5 then (some false) else ((at_ a0.Objs a1).bind fun x8 => some (x8.State == 1))
set_option maxHeartbeats 8000000 in
set_option maxRecDepth 100000 in
theorem ref10_State_Ready.ct (bp0 : Nat) (v0_Slots : Value) (v0_Objs : Value) (raws_v0_Slots : List (Raw (kr_ref10_Slot).sz)) (A_v0_Slots : HProp) (raws_v0_Objs : List (Raw (kr_ref10_Obj).sz)) (A_v0_Objs : HProp) (a0 : ref10_State) (a1 : Int) (r0 : Bool) (h : ref10_State_Ready.f a0 a1 = some r0) :
    Ct Try.prog 26 [bp bp0 0, .int .i64 a1] (fun _ => True) [Box bp0 [v0_Slots, v0_Objs, .int .i64 a0.NS, .int .i64 a0.NO], OwnO 81 kr_ref10_Slot v0_Slots raws_v0_Slots A_v0_Slots a0.Slots, OwnO 72 kr_ref10_Obj v0_Objs raws_v0_Objs A_v0_Objs a0.Objs] (fun u H' => u = .bool r0 ∧ H' = [Box bp0 [v0_Slots, v0_Objs, .int .i64 a0.NS, .int .i64 a0.NO], OwnO 81 kr_ref10_Slot v0_Slots raws_v0_Slots A_v0_Slots a0.Slots, OwnO 72 kr_ref10_Obj v0_Objs raws_v0_Objs A_v0_Objs a0.Objs]) := by
  unfold ref10_State_Ready.f at h
  refine Ct.intro (n := 20) Try.func26 rfl rfl rfl ?_
  intro R w0 F hF hR
  refine S.b1 ?_
  refine S.rdO fun hrel1 hR2 => ?_
  refine S.b2 ?_
  refine S.rdO fun hrel3 hR4 => ?_
  refine S.seq ?_
  refine S.region ?_
  refine SO.v rfl (opv_assign rfl) ?_
  refine SO.nil ?_
  refine S.seq ?_
  refine S.region ?_
  refine SO.v rfl (opv_move rfl) ?_
  refine SO.v rfl (opv_move rfl) ?_
  obtain ⟨t5, ht6, h⟩ := opt_bind h
  refine SO.b1 ?_
  refine SO.b2 ?_
  refine SO.call (pre := [Box _ _, OwnO _ _ _ _ _ _, OwnO _ _ _ _ _ _]) rfl Try.call52 rfl rfl rfl (ref10_State_is.ct bp0 v0_Slots v0_Objs raws_v0_Slots A_v0_Slots raws_v0_Objs A_v0_Objs _ _ _ _ ht6) trivial ?_
  rintro _ _ ⟨rfl, rfl⟩
  refine SO.v rfl (opv_assign rfl) ?_
  refine SO.nil ?_
  refine S.seq ?_
  refine S.seq ?_
  refine S.region ?_
  refine SO.v rfl (opv_move rfl) ?_
  refine SO.v rfl (opv_not rfl) ?_
  refine SO.nil ?_
  rcases bool_or (!t5) with b7 | b7
  · replace h := cond_t b7 h
    refine S.condT rfl b7 ?_
    refine S.seq ?_
    refine S.region ?_
    refine SO.v rfl (opv_assign rfl) ?_
    refine SO.nil ?_
    refine S.to (ρ' := [(4, .bool false)]) ⟨rfl, trivial⟩ ?_
    cases h
    refine S.b3 ?_
    refine S.b3 ?_
    refine S.b3 ?_
    refine S.b3 ?_
    exact S.ret1 Try.func26 rfl rfl (fun w hs hk => hR w _ _ ⟨rfl, rfl⟩ hs hk)
  · replace h := cond_f b7 h
    refine S.condF rfl b7 ?_
    refine S.skip ?_
    refine S.seq ?_
    refine S.region ?_
    refine SO.v rfl (opv_move rfl) ?_
    refine SO.v rfl (opv_nilCheck rfl) ?_
    refine SO.v rfl (opv_fieldAddr Try.underlying76 rfl Try.sizeOf74 rfl rfl) ?_
    refine SO.load1 rfl Try.isAgg74 rfl rfl ?_
    refine SO.v rfl (opv_move rfl) ?_
    obtain ⟨x8, hx9, h⟩ := opt_bind h
    obtain ⟨r10, hr11, hc12⟩ := relR.at hrel3 hx9
    refine SO.v rfl (opv_idx Try.underlying74 Try.sizeOf72 hR4 rfl rfl hr11) ?_
    refine SO.v rfl (opv_fieldIdx Try.underlying72 rfl Try.sizeOf3 hR4 hr11 rfl rfl) ?_
    refine SO.loadI1 (j := 8) rfl Try.isAgg3 (Rd.tail (Rd.tail (Rd.head hR4))) hr11 rfl rfl rfl (hc12.val rfl) ?_
    refine SO.v rfl (opv_eql rfl rfl) ?_
    refine SO.v rfl (opv_assign rfl) ?_
    refine SO.nil ?_
    refine S.to (ρ' := [(4, .bool (x8.State == 1))]) ⟨rfl, trivial⟩ ?_
    cases h
    refine S.b3 ?_
    refine S.b3 ?_
    refine S.b3 ?_
    refine S.b3 ?_
    exact S.ret1 Try.func26 rfl rfl (fun w hs hk => hR w _ _ ⟨rfl, rfl⟩ hs hk)
end Go.Proofs
namespace Go.Proofs
open Go.Sl Go.RowKit
/-! 62 (*padstone/padstoneref10.State).Block -/
def ref10_State_Block.f (a0 : ref10_State) (a1 : Int) (a2 : Int) (a3 : Int) : Option (ref10_State) :=
  (at_ a0.Objs a1).bind fun x11 => (app ([]) x11.Queue).bind fun zs20 => (app zs20 ([a2])).bind fun zs28 => (at_ a0.Objs a1).bind fun x32 => (at_ (a0.Objs.set a1.toNat ({ x32 with Queue := zs28 } : ref10_Obj)) a2).bind fun x47 => (at_ ((a0.Objs.set a1.toNat ({ x32 with Queue := zs28 } : ref10_Obj)).set a2.toNat ({ x47 with State := a3 } : ref10_Obj)) a2).bind fun x59 => some ({ a0 with Objs := ((a0.Objs.set a1.toNat ({ x32 with Queue := zs28 } : ref10_Obj)).set a2.toNat ({ x47 with State := a3 } : ref10_Obj)).set a2.toNat ({ x59 with On := a1 } : ref10_Obj) } : ref10_State)
set_option maxHeartbeats 8000000 in
set_option maxRecDepth 100000 in
theorem ref10_State_Block.ct (bp0 : Nat) (v0_Slots : Value) (v0_Objs : Value) (a0 : ref10_State) (a1 : Int) (a2 : Int) (a3 : Int) (rp0 : ref10_State) (h : ref10_State_Block.f a0 a1 a2 a3 = some rp0) :
    Ct Try.prog 62 [bp bp0 0, .int .i64 a1, .int .i64 a2, .int .i64 a3] (fun _ => True) [Box bp0 [v0_Slots, v0_Objs, .int .i64 a0.NS, .int .i64 a0.NO], OwnR 81 kr_ref10_Slot v0_Slots a0.Slots, OwnR 72 kr_ref10_Obj v0_Objs a0.Objs] (fun u H' => ∃ rw0_Slots rw0_Objs, u = .tuple #[] ∧ H' = [Box bp0 [rw0_Slots, rw0_Objs, .int .i64 rp0.NS, .int .i64 rp0.NO], OwnR 81 kr_ref10_Slot rw0_Slots rp0.Slots, OwnR 72 kr_ref10_Obj rw0_Objs rp0.Objs]) := by
  unfold ref10_State_Block.f at h
  refine Ct.intro (n := 44) Try.func62 rfl rfl rfl ?_
  intro R w0 F hF hR
  refine S.seq ?_
  refine S.b1 ?_
  refine S.openR fun raws1 A2 hrel3 hR4 => ?_
  refine S.b2 ?_
  refine S.openR fun raws5 A6 hrel7 hR8 => ?_
  obtain ⟨x11, hx12, h⟩ := opt_bind h
  obtain ⟨r13, hr14, hc15⟩ := relR.at hrel7 hx12
  obtain ⟨u16, hu17, hru18⟩ := hc15.sl 6 rfl
  obtain ⟨zs20, hz21, h⟩ := opt_bind h
  obtain ⟨zs28, hz29, h⟩ := opt_bind h
  obtain ⟨x32, hx33, h⟩ := opt_bind h
  obtain ⟨r34, hr35, hc36⟩ := relR.at hrel7 hx33
  refine S.draw' (Z := fun Q => ∀ (_ : Unit) (_ : Unit) (_ : Unit) (_ : Unit) (v24 : Value) (_ : Unit) (_ : Unit) (_ : Unit) (_ : Unit), Q [(0, bp bp0 0), (1, .int .i64 a1), (2, .int .i64 a2), (3, .int .i64 a3), (24, v24)] [Own 3 (ekI .i64) v24 ([a2]), OwnR 72 kr_ref10_Obj v0_Objs (a0.Objs.set a1.toNat ({ x32 with Queue := zs28 } : ref10_Obj)), OwnO 81 kr_ref10_Slot v0_Slots raws1 A2 a0.Slots, Box bp0 [v0_Slots, v0_Objs, .int .i64 a0.NS, .int .i64 a0.NO], F]) (T := [tS 0 (bp bp0 0), tS 1 (.int .i64 a1), tS 2 (.int .i64 a2), tS 3 (.int .i64 a3), tR (OwnO 72 kr_ref10_Obj v0_Objs raws5 A6 a0.Objs), tR (OwnO 81 kr_ref10_Slot v0_Slots raws1 A2 a0.Slots), tR (Box bp0 [v0_Slots, v0_Objs, .int .i64 a0.NS, .int .i64 a0.NO]), tR (F), tS 8 (bp bp0 0), tS 9 (bp bp0 0), tS 10 (bp bp0 1), tS 11 (v0_Objs), tS 12 (.int .i64 a1), ⟨Value, [13], (fun v9 => [(13, v9)]), (fun v9 => [Own 3 (ekI .i64) v9 ([])]), fun _ => rfl⟩, tS 14 (bp bp0 0), tS 15 (bp bp0 0), tS 16 (bp bp0 1), tS 17 (v0_Objs), tS 18 (.int .i64 a1), tS 19 (idxp v0_Objs (a1.toNat * kr_ref10_Obj.sz)), tS 20 (idxp v0_Objs (a1.toNat * kr_ref10_Obj.sz + 6)), tS 21 (u16), ⟨Value, [22], (fun v22 => [(22, v22)]), (fun v22 => [Own 3 (ekI .i64) v22 zs20]), fun _ => rfl⟩, tS 23 (.int .i64 a2), ⟨Value, [24], (fun v24 => [(24, v24)]), (fun v24 => [Own 3 (ekI .i64) v24 ([a2])]), fun _ => rfl⟩, ⟨Value, [25], (fun v30 => [(25, v30)]), (fun v30 => [Own 3 (ekI .i64) v30 zs28]), fun _ => rfl⟩, tS 26 (idxp v0_Objs (a1.toNat * kr_ref10_Obj.sz)), tS 27 (idxp v0_Objs (a1.toNat * kr_ref10_Obj.sz + 6)), tR (OwnR 72 kr_ref10_Obj v0_Objs (a0.Objs.set a1.toNat ({ x32 with Queue := zs28 } : ref10_Obj)))]) (D := [⟨[0], [], [8]⟩, ⟨[8], [], [9]⟩, ⟨[9], [], [10]⟩, ⟨[10, 6], [], [11]⟩, ⟨[1], [], [12]⟩, ⟨[], [], [13]⟩, ⟨[0], [], [14]⟩, ⟨[14], [], [15]⟩, ⟨[15], [], [16]⟩, ⟨[16, 6], [], [17]⟩, ⟨[1], [], [18]⟩, ⟨[17, 18, 4], [], [19]⟩, ⟨[19, 4], [], [20]⟩, ⟨[20, 4], [], [21]⟩, ⟨[21, 4], [13], [22]⟩, ⟨[2], [], [23]⟩, ⟨[23], [], [24]⟩, ⟨[24], [22], [25]⟩, ⟨[11, 12, 4], [], [26]⟩, ⟨[26, 4], [], [27]⟩, ⟨[27], [25, 4], [28]⟩]) (ini := [0, 1, 2, 3, 4, 5, 6, 7]) (fin := [0, 1, 2, 3, 24, 28, 5, 6, 7]) (bf := [[], [0], [0, 1], [0, 1, 2], [], [], [], [6], [6, 7], [6, 7, 8], [], [6, 7, 8, 9, 10], [6, 7, 8, 9, 10, 11], [6, 7, 8, 9, 10, 11, 12], [5, 6, 7, 8, 9, 10, 11, 12, 13], [], [15], [5, 6, 7, 8, 9, 10, 11, 12, 13, 14, 15, 16], [0, 1, 2, 3, 4, 5, 6, 7, 8, 9, 10, 11, 12, 13, 14, 15, 16, 17], [0, 1, 2, 3, 4, 5, 6, 7, 8, 9, 10, 11, 12, 13, 14, 15, 16, 17, 18], [0, 1, 2, 3, 4, 5, 6, 7, 8, 9, 10, 11, 12, 13, 14, 15, 16, 17, 18, 19]]) (by kernel_rfl) (by kernel_rfl) (fun x w h1 h2 => (.cons () (.cons () (.cons () (.cons () (.cons () (.cons () (.cons () (.cons () (.nil ⟨EnvAll.of h1 ⟨rfl, rfl, rfl, rfl, trivial⟩, h2⟩)))))))))) (fun Q => by kernel_rfl) ⟨?_, ?_, ?_, ?_, ?_, ?_, ?_, ?_, ?_, ?_, ?_, ?_, ?_, ?_, ?_, ?_, ?_, ?_, ?_, ?_, ?_, trivial⟩ ?_
  · rintro Fr _
    refine SO.v rfl (opv_move rfl) ?_
    exact SO.nilZ fun a w h1 h2 h3 h4 h5 => PZ.of h1 h3 h5 (.cons () (.cons () (.nil ⟨EnvAll.of h2 ⟨rfl, rfl, trivial⟩, h4⟩)))
  · rintro Fr _
    refine SO.v rfl (opv_nilCheck rfl) ?_
    exact SO.nilZ fun a w h1 h2 h3 h4 h5 => PZ.of h1 h3 h5 (.cons () (.cons () (.nil ⟨EnvAll.of h2 ⟨rfl, rfl, trivial⟩, h4⟩)))
  · rintro Fr _
    refine SO.v rfl (opv_fieldAddr Try.underlying76 rfl Try.sizeOf74 rfl rfl) ?_
    exact SO.nilZ fun a w h1 h2 h3 h4 h5 => PZ.of h1 h3 h5 (.cons () (.cons () (.nil ⟨EnvAll.of h2 ⟨rfl, rfl, trivial⟩, h4⟩)))
  · rintro Fr _ _
    refine SO.load1 rfl Try.isAgg74 rfl rfl ?_
    exact SO.nilZ fun a w h1 h2 h3 h4 h5 => PZ.of h1 h3 h5 (.cons () (.cons () (.cons () (.nil ⟨EnvAll.of h2 ⟨rfl, rfl, trivial⟩, h4⟩))))
  · rintro Fr _
    refine SO.v rfl (opv_move rfl) ?_
    exact SO.nilZ fun a w h1 h2 h3 h4 h5 => PZ.of h1 h3 h5 (.cons () (.cons () (.nil ⟨EnvAll.of h2 ⟨rfl, rfl, trivial⟩, h4⟩)))
  · rintro Fr 
    refine SO.buildSlice0 (ekI .i64) rfl Try.underlying29 Try.sizeOf3 (fun v9 hr10 => ?_)
    exact SO.nilZ fun a w h1 h2 h3 h4 h5 => PZ.of h1 h3 h5 (.cons v9 (.nil ⟨EnvAll.of h2 ⟨rfl, trivial⟩, h4⟩))
  · rintro Fr _
    refine SO.v rfl (opv_move rfl) ?_
    exact SO.nilZ fun a w h1 h2 h3 h4 h5 => PZ.of h1 h3 h5 (.cons () (.cons () (.nil ⟨EnvAll.of h2 ⟨rfl, rfl, trivial⟩, h4⟩)))
  · rintro Fr _
    refine SO.v rfl (opv_nilCheck rfl) ?_
    exact SO.nilZ fun a w h1 h2 h3 h4 h5 => PZ.of h1 h3 h5 (.cons () (.cons () (.nil ⟨EnvAll.of h2 ⟨rfl, rfl, trivial⟩, h4⟩)))
  · rintro Fr _
    refine SO.v rfl (opv_fieldAddr Try.underlying76 rfl Try.sizeOf74 rfl rfl) ?_
    exact SO.nilZ fun a w h1 h2 h3 h4 h5 => PZ.of h1 h3 h5 (.cons () (.cons () (.nil ⟨EnvAll.of h2 ⟨rfl, rfl, trivial⟩, h4⟩)))
  · rintro Fr _ _
    refine SO.load1 rfl Try.isAgg74 rfl rfl ?_
    exact SO.nilZ fun a w h1 h2 h3 h4 h5 => PZ.of h1 h3 h5 (.cons () (.cons () (.cons () (.nil ⟨EnvAll.of h2 ⟨rfl, rfl, trivial⟩, h4⟩))))
  · rintro Fr _
    refine SO.v rfl (opv_move rfl) ?_
    exact SO.nilZ fun a w h1 h2 h3 h4 h5 => PZ.of h1 h3 h5 (.cons () (.cons () (.nil ⟨EnvAll.of h2 ⟨rfl, rfl, trivial⟩, h4⟩)))
  · rintro Fr _ _ _
    refine SO.v rfl (opv_idx Try.underlying74 Try.sizeOf72 hR8 rfl rfl hr14) ?_
    exact SO.nilZ fun a w h1 h2 h3 h4 h5 => PZ.of h1 h3 h5 (.cons () (.cons () (.cons () (.cons () (.nil ⟨EnvAll.of h2 ⟨rfl, rfl, rfl, trivial⟩, h4⟩)))))
  · rintro Fr _ _
    refine SO.v rfl (opv_fieldIdx Try.underlying72 rfl Try.sizeOf29 hR8 hr14 rfl rfl) ?_
    exact SO.nilZ fun a w h1 h2 h3 h4 h5 => PZ.of h1 h3 h5 (.cons () (.cons () (.cons () (.nil ⟨EnvAll.of h2 ⟨rfl, rfl, trivial⟩, h4⟩))))
  · rintro Fr _ _
    refine SO.loadI1 (j := 6) rfl Try.isAgg29 (Rd.head hR8) hr14 rfl rfl rfl hu17 ?_
    exact SO.nilZ fun a w h1 h2 h3 h4 h5 => PZ.of h1 h3 h5 (.cons () (.cons () (.cons () (.nil ⟨EnvAll.of h2 ⟨rfl, rfl, trivial⟩, h4⟩))))
  · rintro Fr _ _ v9
    refine SO.b1 ?_
    refine SO.rd fun hr19 => ?_
    refine SO.append rfl Try.underlying29 Try.underlying29 inf3 rfl rfl rfl (by decide) rfl rfl rfl (Rd.head (Rd.pool hru18)) hz21 (fun v22 => ?_)
    refine SO.rd fun hr23 => ?_
    refine SO.b1 ?_
    exact SO.nilZ fun a w h1 h2 h3 h4 h5 => PZ.of h1 h3 h5 (.cons () (.cons () (.cons v22 (.nil ⟨EnvAll.of h2 ⟨rfl, rfl, trivial⟩, h4⟩))))
  · rintro Fr _
    refine SO.v rfl (opv_move rfl) ?_
    exact SO.nilZ fun a w h1 h2 h3 h4 h5 => PZ.of h1 h3 h5 (.cons () (.cons () (.nil ⟨EnvAll.of h2 ⟨rfl, rfl, trivial⟩, h4⟩)))
  · rintro Fr _
    refine SO.buildSlice (K := ekI .i64) (xs := [a2]) (cs := [.int .i64 a2]) rfl Try.underlying29 Try.sizeOf3 Try.zeroValue3 rfl rfl rfl (by kernel_rfl) rfl rfl rfl (fun v24 hr25 => ?_)
    exact SO.nilZ fun a w h1 h2 h3 h4 h5 => PZ.of h1 h3 h5 (.cons () (.cons v24 (.nil ⟨EnvAll.of h2 ⟨rfl, rfl, trivial⟩, h4⟩)))
  · rintro Fr v24 v22
    refine SO.rd fun hr26 => ?_
    refine SO.b1 ?_
    refine SO.rd fun hr27 => ?_
    refine SO.append rfl Try.underlying29 Try.underlying29 inf3 rfl rfl rfl (by decide) rfl rfl rfl (Rd.head hr26) hz29 (fun v30 => ?_)
    refine SO.rd fun hr31 => ?_
    refine SO.b1 ?_
    exact SO.nilZ fun a w h1 h2 h3 h4 h5 => PZ.of h1 h3 h5 (.cons v24 (.cons v30 (.nil ⟨EnvAll.of h2 ⟨rfl, rfl, trivial⟩, h4⟩)))
  · rintro Fr _ _ _
    refine SO.v rfl (opv_idx Try.underlying74 Try.sizeOf72 hR8 rfl rfl hr35) ?_
    exact SO.nilZ fun a w h1 h2 h3 h4 h5 => PZ.of h1 h3 h5 (.cons () (.cons () (.cons () (.cons () (.nil ⟨EnvAll.of h2 ⟨rfl, rfl, rfl, trivial⟩, h4⟩)))))
  · rintro Fr _ _
    refine SO.v rfl (opv_fieldIdx Try.underlying72 rfl Try.sizeOf29 hR8 hr35 rfl rfl) ?_
    exact SO.nilZ fun a w h1 h2 h3 h4 h5 => PZ.of h1 h3 h5 (.cons () (.cons () (.cons () (.nil ⟨EnvAll.of h2 ⟨rfl, rfl, trivial⟩, h4⟩))))
  · rintro Fr _ v30 _
    refine SO.rd fun hr37 => ?_
    refine SO.b1 ?_
    refine SO.b1 ?_
    refine SO.freeze hrel7 fun A38 hcov39 hru40 hrel41 hR42 => ?_
    refine SO.storeO1 (j := 6) (q := .sl (ekI .i64) zs28) (z' := ({ x32 with Queue := zs28 } : ref10_Obj)) Try.sizeOf29 hrel41 hx33 rfl rfl (Rd.one hru40) rfl rfl rfl hru40 (fun raws43 hrel44 hR45 => ?_)
    refine SO.closeR ?_
    exact SO.nilZ fun a w h1 h2 h3 h4 h5 => PZ.of h1 h3 h5 (.cons () (.cons () (.nil ⟨EnvAll.of h2 ⟨rfl, trivial⟩, h4⟩)))
  rintro _ _ _ _ v24 _ _ _ _
  refine S.to (ρ' := [(0, bp bp0 0), (1, .int .i64 a1), (2, .int .i64 a2), (3, .int .i64 a3)]) ⟨rfl, rfl, rfl, rfl, trivial⟩ ?_
  refine S.rd fun hr46 => ?_
  refine S.seq ?_
  refine S.region ?_
  refine SO.v rfl (opv_move rfl) ?_
  refine SO.v rfl (opv_nilCheck rfl) ?_
  refine SO.v rfl (opv_fieldAddr Try.underlying76 rfl Try.sizeOf74 rfl rfl) ?_
  refine SO.b3 ?_
  refine SO.load1 rfl Try.isAgg74 rfl rfl ?_
  refine SO.v rfl (opv_move rfl) ?_
  refine SO.v rfl (opv_move rfl) ?_
  refine SO.b2 ?_
  refine SO.openR fun raws52 A53 hrel54 hR55 => ?_
  obtain ⟨x47, hx48, h⟩ := opt_bind h
  obtain ⟨r49, hr50, hc51⟩ := relR.at hrel54 hx48
  refine SO.v rfl (opv_idx Try.underlying74 Try.sizeOf72 hR55 rfl rfl hr50) ?_
  refine SO.v rfl (opv_fieldIdx Try.underlying72 rfl Try.sizeOf3 hR55 hr50 rfl rfl) ?_
  refine SO.storeO1 (j := 8) (q := .val (.int .i64 a3)) (z' := ({ x47 with State := a3 } : ref10_Obj)) Try.sizeOf3 hrel54 hx48 rfl rfl rfl rfl rfl rfl rfl (fun raws56 hrel57 hR58 => ?_)
  refine SO.nil ?_
  refine S.to (ρ' := [(0, bp bp0 0), (1, .int .i64 a1), (2, .int .i64 a2)]) ⟨rfl, rfl, rfl, trivial⟩ ?_
  refine S.region ?_
  refine SO.v rfl (opv_move rfl) ?_
  refine SO.v rfl (opv_nilCheck rfl) ?_
  refine SO.v rfl (opv_fieldAddr Try.underlying76 rfl Try.sizeOf74 rfl rfl) ?_
  refine SO.b1 ?_
  refine SO.load1 rfl Try.isAgg74 rfl rfl ?_
  refine SO.v rfl (opv_move rfl) ?_
  refine SO.v rfl (opv_move rfl) ?_
  obtain ⟨x59, hx60, h⟩ := opt_bind h
  obtain ⟨r61, hr62, hc63⟩ := relR.at hrel57 hx60
  refine SO.v rfl (opv_idx Try.underlying74 Try.sizeOf72 hR58 rfl rfl hr62) ?_
  refine SO.v rfl (opv_fieldIdx Try.underlying72 rfl Try.sizeOf3 hR58 hr62 rfl rfl) ?_
  refine SO.b1 ?_
  refine SO.storeO1 (j := 12) (q := .val (.int .i64 a1)) (z' := ({ x59 with On := a1 } : ref10_Obj)) Try.sizeOf3 hrel57 hx60 rfl rfl rfl rfl rfl rfl rfl (fun raws64 hrel65 hR66 => ?_)
  refine SO.nil ?_
  refine S.to (ρ' := []) trivial ?_
  cases h
  refine S.closeR ?_
  refine S.b3 ?_
  refine S.closeR ?_
  refine S.b3 ?_
  refine S.drop ?_
  refine S.b3 ?_
  refine S.b2 ?_
  refine S.b2 ?_
  refine S.b3 ?_
  exact S.fin0 Try.func62 rfl (fun w hs hk => hR w _ _ ⟨v0_Slots, v0_Objs, rfl, rfl⟩ hs hk)
end Go.Proofs
namespace Go.Proofs
open Go.Sl Go.RowKit
/-! 54 (*padstone/padstoneref10.State).Wake -/
def ref10_State_Wake.f (a0 : ref10_State) (a1 : Int) (a2 : Int) (a3 : Int) : Option (ref10_State) :=
  (at_ a0.Objs a1).bind fun x1 => (at_ (a0.Objs.set a1.toNat ({ x1 with State := 1 } : ref10_Obj)) a1).bind fun x13 => (at_ ((a0.Objs.set a1.toNat ({ x1 with State := 1 } : ref10_Obj)).set a1.toNat ({ x13 with Word := a2 } : ref10_Obj)) a1).bind fun x21 => (at_ (((a0.Objs.set a1.toNat ({ x1 with State := 1 } : ref10_Obj)).set a1.toNat ({ x13 with Word := a2 } : ref10_Obj)).set a1.toNat ({ x21 with Badge := a3 } : ref10_Obj)) a1).bind fun x29 => some ({ a0 with Objs := (((a0.Objs.set a1.toNat ({ x1 with State := 1 } : ref10_Obj)).set a1.toNat ({ x13 with Word := a2 } : ref10_Obj)).set a1.toNat ({ x21 with Badge := a3 } : ref10_Obj)).set a1.toNat ({ x29 with On := -1 } : ref10_Obj) } : ref10_State)
set_option maxHeartbeats 8000000 in
set_option maxRecDepth 100000 in
theorem ref10_State_Wake.ct (bp0 : Nat) (v0_Slots : Value) (v0_Objs : Value) (a0 : ref10_State) (a1 : Int) (a2 : Int) (a3 : Int) (rp0 : ref10_State) (h : ref10_State_Wake.f a0 a1 a2 a3 = some rp0) :
    Ct Try.prog 54 [bp bp0 0, .int .i64 a1, .int .i64 a2, .int .i64 a3] (fun _ => True) [Box bp0 [v0_Slots, v0_Objs, .int .i64 a0.NS, .int .i64 a0.NO], OwnR 81 kr_ref10_Slot v0_Slots a0.Slots, OwnR 72 kr_ref10_Obj v0_Objs a0.Objs] (fun u H' => ∃ rw0_Slots rw0_Objs, u = .tuple #[] ∧ H' = [Box bp0 [rw0_Slots, rw0_Objs, .int .i64 rp0.NS, .int .i64 rp0.NO], OwnR 81 kr_ref10_Slot rw0_Slots rp0.Slots, OwnR 72 kr_ref10_Obj rw0_Objs rp0.Objs]) := by
  unfold ref10_State_Wake.f at h
  refine Ct.intro (n := 38) Try.func54 rfl rfl rfl ?_
  intro R w0 F hF hR
  refine S.seq ?_
  refine S.region ?_
  refine SO.v rfl (opv_move rfl) ?_
  refine SO.v rfl (opv_nilCheck rfl) ?_
  refine SO.v rfl (opv_fieldAddr Try.underlying76 rfl Try.sizeOf74 rfl rfl) ?_
  refine SO.load1 rfl Try.isAgg74 rfl rfl ?_
  refine SO.v rfl (opv_move rfl) ?_
  refine SO.b2 ?_
  refine SO.openR fun raws6 A7 hrel8 hR9 => ?_
  obtain ⟨x1, hx2, h⟩ := opt_bind h
  obtain ⟨r3, hr4, hc5⟩ := relR.at hrel8 hx2
  refine SO.v rfl (opv_idx Try.underlying74 Try.sizeOf72 hR9 rfl rfl hr4) ?_
  refine SO.v rfl (opv_fieldIdx Try.underlying72 rfl Try.sizeOf3 hR9 hr4 rfl rfl) ?_
  refine SO.storeO1 (j := 8) (q := .val (.int .i64 1)) (z' := ({ x1 with State := 1 } : ref10_Obj)) Try.sizeOf3 hrel8 hx2 rfl rfl rfl rfl rfl rfl rfl (fun raws10 hrel11 hR12 => ?_)
  refine SO.nil ?_
  refine S.to (ρ' := [(0, bp bp0 0), (1, .int .i64 a1), (2, .int .i64 a2), (3, .int .i64 a3)]) ⟨rfl, rfl, rfl, rfl, trivial⟩ ?_
  refine S.seq ?_
  refine S.region ?_
  refine SO.v rfl (opv_move rfl) ?_
  refine SO.v rfl (opv_nilCheck rfl) ?_
  refine SO.v rfl (opv_fieldAddr Try.underlying76 rfl Try.sizeOf74 rfl rfl) ?_
  refine SO.b1 ?_
  refine SO.load1 rfl Try.isAgg74 rfl rfl ?_
  refine SO.v rfl (opv_move rfl) ?_
  refine SO.v rfl (opv_move rfl) ?_
  obtain ⟨x13, hx14, h⟩ := opt_bind h
  obtain ⟨r15, hr16, hc17⟩ := relR.at hrel11 hx14
  refine SO.v rfl (opv_idx Try.underlying74 Try.sizeOf72 hR12 rfl rfl hr16) ?_
  refine SO.v rfl (opv_fieldIdx Try.underlying72 rfl Try.sizeOf3 hR12 hr16 rfl rfl) ?_
  refine SO.b1 ?_
  refine SO.storeO1 (j := 7) (q := .val (.int .i64 a2)) (z' := ({ x13 with Word := a2 } : ref10_Obj)) Try.sizeOf3 hrel11 hx14 rfl rfl rfl rfl rfl rfl rfl (fun raws18 hrel19 hR20 => ?_)
  refine SO.nil ?_
  refine S.to (ρ' := [(0, bp bp0 0), (1, .int .i64 a1), (3, .int .i64 a3)]) ⟨rfl, rfl, rfl, trivial⟩ ?_
  refine S.seq ?_
  refine S.region ?_
  refine SO.v rfl (opv_move rfl) ?_
  refine SO.v rfl (opv_nilCheck rfl) ?_
  refine SO.v rfl (opv_fieldAddr Try.underlying76 rfl Try.sizeOf74 rfl rfl) ?_
  refine SO.b1 ?_
  refine SO.load1 rfl Try.isAgg74 rfl rfl ?_
  refine SO.v rfl (opv_move rfl) ?_
  refine SO.v rfl (opv_move rfl) ?_
  obtain ⟨x21, hx22, h⟩ := opt_bind h
  obtain ⟨r23, hr24, hc25⟩ := relR.at hrel19 hx22
  refine SO.v rfl (opv_idx Try.underlying74 Try.sizeOf72 hR20 rfl rfl hr24) ?_
  refine SO.v rfl (opv_fieldIdx Try.underlying72 rfl Try.sizeOf3 hR20 hr24 rfl rfl) ?_
  refine SO.b1 ?_
  refine SO.storeO1 (j := 10) (q := .val (.int .i64 a3)) (z' := ({ x21 with Badge := a3 } : ref10_Obj)) Try.sizeOf3 hrel19 hx22 rfl rfl rfl rfl rfl rfl rfl (fun raws26 hrel27 hR28 => ?_)
  refine SO.nil ?_
  refine S.to (ρ' := [(0, bp bp0 0), (1, .int .i64 a1)]) ⟨rfl, rfl, trivial⟩ ?_
  refine S.region ?_
  refine SO.v rfl (opv_move rfl) ?_
  refine SO.v rfl (opv_nilCheck rfl) ?_
  refine SO.v rfl (opv_fieldAddr Try.underlying76 rfl Try.sizeOf74 rfl rfl) ?_
  refine SO.b1 ?_
  refine SO.load1 rfl Try.isAgg74 rfl rfl ?_
  refine SO.v rfl (opv_move rfl) ?_
  obtain ⟨x29, hx30, h⟩ := opt_bind h
  obtain ⟨r31, hr32, hc33⟩ := relR.at hrel27 hx30
  refine SO.v rfl (opv_idx Try.underlying74 Try.sizeOf72 hR28 rfl rfl hr32) ?_
  refine SO.v rfl (opv_fieldIdx Try.underlying72 rfl Try.sizeOf3 hR28 hr32 rfl rfl) ?_
  refine SO.b1 ?_
  refine SO.storeO1 (j := 12) (q := .val (.int .i64 (-1))) (z' := ({ x29 with On := -1 } : ref10_Obj)) Try.sizeOf3 hrel27 hx30 rfl rfl rfl rfl rfl rfl rfl (fun raws34 hrel35 hR36 => ?_)
  refine SO.nil ?_
  refine S.to (ρ' := []) trivial ?_
  cases h
  refine S.closeR ?_
  refine S.b3 ?_
  refine S.b1 ?_
  refine S.b3 ?_
  refine S.b3 ?_
  exact S.fin0 Try.func54 rfl (fun w hs hk => hR w _ _ ⟨v0_Slots, v0_Objs, rfl, rfl⟩ hs hk)
end Go.Proofs
namespace Go.Proofs
open Go.Sl Go.RowKit
/-! 61 (*padstone/padstoneref10.State).owe -/
def ref10_State_owe.f (a0 : ref10_State) (a1 : Int) (a2 : Int) : Option (ref10_State) :=
  (at_ a0.Objs a2).bind fun x1 => (at_ (a0.Objs.set a2.toNat ({ x1 with State := 4 } : ref10_Obj)) a2).bind fun x13 => (at_ ((a0.Objs.set a2.toNat ({ x1 with State := 4 } : ref10_Obj)).set a2.toNat ({ x13 with On := -1 } : ref10_Obj)) a2).bind fun x21 => (at_ (((a0.Objs.set a2.toNat ({ x1 with State := 4 } : ref10_Obj)).set a2.toNat ({ x13 with On := -1 } : ref10_Obj)).set a2.toNat ({ x21 with Owing := a1 } : ref10_Obj)) a1).bind fun x29 => some ({ a0 with Objs := (((a0.Objs.set a2.toNat ({ x1 with State := 4 } : ref10_Obj)).set a2.toNat ({ x13 with On := -1 } : ref10_Obj)).set a2.toNat ({ x21 with Owing := a1 } : ref10_Obj)).set a1.toNat ({ x29 with Owes := a2 } : ref10_Obj) } : ref10_State)
set_option maxHeartbeats 8000000 in
set_option maxRecDepth 100000 in
theorem ref10_State_owe.ct (bp0 : Nat) (v0_Slots : Value) (v0_Objs : Value) (a0 : ref10_State) (a1 : Int) (a2 : Int) (rp0 : ref10_State) (h : ref10_State_owe.f a0 a1 a2 = some rp0) :
    Ct Try.prog 61 [bp bp0 0, .int .i64 a1, .int .i64 a2] (fun _ => True) [Box bp0 [v0_Slots, v0_Objs, .int .i64 a0.NS, .int .i64 a0.NO], OwnR 81 kr_ref10_Slot v0_Slots a0.Slots, OwnR 72 kr_ref10_Obj v0_Objs a0.Objs] (fun u H' => ∃ rw0_Slots rw0_Objs, u = .tuple #[] ∧ H' = [Box bp0 [rw0_Slots, rw0_Objs, .int .i64 rp0.NS, .int .i64 rp0.NO], OwnR 81 kr_ref10_Slot rw0_Slots rp0.Slots, OwnR 72 kr_ref10_Obj rw0_Objs rp0.Objs]) := by
  unfold ref10_State_owe.f at h
  refine Ct.intro (n := 36) Try.func61 rfl rfl rfl ?_
  intro R w0 F hF hR
  refine S.seq ?_
  refine S.region ?_
  refine SO.v rfl (opv_move rfl) ?_
  refine SO.v rfl (opv_nilCheck rfl) ?_
  refine SO.v rfl (opv_fieldAddr Try.underlying76 rfl Try.sizeOf74 rfl rfl) ?_
  refine SO.load1 rfl Try.isAgg74 rfl rfl ?_
  refine SO.v rfl (opv_move rfl) ?_
  refine SO.b2 ?_
  refine SO.openR fun raws6 A7 hrel8 hR9 => ?_
  obtain ⟨x1, hx2, h⟩ := opt_bind h
  obtain ⟨r3, hr4, hc5⟩ := relR.at hrel8 hx2
  refine SO.v rfl (opv_idx Try.underlying74 Try.sizeOf72 hR9 rfl rfl hr4) ?_
  refine SO.v rfl (opv_fieldIdx Try.underlying72 rfl Try.sizeOf3 hR9 hr4 rfl rfl) ?_
  refine SO.storeO1 (j := 8) (q := .val (.int .i64 4)) (z' := ({ x1 with State := 4 } : ref10_Obj)) Try.sizeOf3 hrel8 hx2 rfl rfl rfl rfl rfl rfl rfl (fun raws10 hrel11 hR12 => ?_)
  refine SO.nil ?_
  refine S.to (ρ' := [(0, bp bp0 0), (1, .int .i64 a1), (2, .int .i64 a2)]) ⟨rfl, rfl, rfl, trivial⟩ ?_
  refine S.seq ?_
  refine S.region ?_
  refine SO.v rfl (opv_move rfl) ?_
  refine SO.v rfl (opv_nilCheck rfl) ?_
  refine SO.v rfl (opv_fieldAddr Try.underlying76 rfl Try.sizeOf74 rfl rfl) ?_
  refine SO.b1 ?_
  refine SO.load1 rfl Try.isAgg74 rfl rfl ?_
  refine SO.v rfl (opv_move rfl) ?_
  obtain ⟨x13, hx14, h⟩ := opt_bind h
  obtain ⟨r15, hr16, hc17⟩ := relR.at hrel11 hx14
  refine SO.v rfl (opv_idx Try.underlying74 Try.sizeOf72 hR12 rfl rfl hr16) ?_
  refine SO.v rfl (opv_fieldIdx Try.underlying72 rfl Try.sizeOf3 hR12 hr16 rfl rfl) ?_
  refine SO.b1 ?_
  refine SO.storeO1 (j := 12) (q := .val (.int .i64 (-1))) (z' := ({ x13 with On := -1 } : ref10_Obj)) Try.sizeOf3 hrel11 hx14 rfl rfl rfl rfl rfl rfl rfl (fun raws18 hrel19 hR20 => ?_)
  refine SO.nil ?_
  refine S.to (ρ' := [(0, bp bp0 0), (1, .int .i64 a1), (2, .int .i64 a2)]) ⟨rfl, rfl, rfl, trivial⟩ ?_
  refine S.seq ?_
  refine S.region ?_
  refine SO.v rfl (opv_move rfl) ?_
  refine SO.v rfl (opv_nilCheck rfl) ?_
  refine SO.v rfl (opv_fieldAddr Try.underlying76 rfl Try.sizeOf74 rfl rfl) ?_
  refine SO.b1 ?_
  refine SO.load1 rfl Try.isAgg74 rfl rfl ?_
  refine SO.v rfl (opv_move rfl) ?_
  refine SO.v rfl (opv_move rfl) ?_
  obtain ⟨x21, hx22, h⟩ := opt_bind h
  obtain ⟨r23, hr24, hc25⟩ := relR.at hrel19 hx22
  refine SO.v rfl (opv_idx Try.underlying74 Try.sizeOf72 hR20 rfl rfl hr24) ?_
  refine SO.v rfl (opv_fieldIdx Try.underlying72 rfl Try.sizeOf3 hR20 hr24 rfl rfl) ?_
  refine SO.b1 ?_
  refine SO.storeO1 (j := 9) (q := .val (.int .i64 a1)) (z' := ({ x21 with Owing := a1 } : ref10_Obj)) Try.sizeOf3 hrel19 hx22 rfl rfl rfl rfl rfl rfl rfl (fun raws26 hrel27 hR28 => ?_)
  refine SO.nil ?_
  refine S.to (ρ' := [(0, bp bp0 0), (1, .int .i64 a1), (2, .int .i64 a2)]) ⟨rfl, rfl, rfl, trivial⟩ ?_
  refine S.region ?_
  refine SO.v rfl (opv_move rfl) ?_
  refine SO.v rfl (opv_nilCheck rfl) ?_
  refine SO.v rfl (opv_fieldAddr Try.underlying76 rfl Try.sizeOf74 rfl rfl) ?_
  refine SO.b1 ?_
  refine SO.load1 rfl Try.isAgg74 rfl rfl ?_
  refine SO.v rfl (opv_move rfl) ?_
  refine SO.v rfl (opv_move rfl) ?_
  obtain ⟨x29, hx30, h⟩ := opt_bind h
  obtain ⟨r31, hr32, hc33⟩ := relR.at hrel27 hx30
  refine SO.v rfl (opv_idx Try.underlying74 Try.sizeOf72 hR28 rfl rfl hr32) ?_
  refine SO.v rfl (opv_fieldIdx Try.underlying72 rfl Try.sizeOf3 hR28 hr32 rfl rfl) ?_
  refine SO.b1 ?_
  refine SO.storeO1 (j := 13) (q := .val (.int .i64 a2)) (z' := ({ x29 with Owes := a2 } : ref10_Obj)) Try.sizeOf3 hrel27 hx30 rfl rfl rfl rfl rfl rfl rfl (fun raws34 hrel35 hR36 => ?_)
  refine SO.nil ?_
  refine S.to (ρ' := []) trivial ?_
  cases h
  refine S.closeR ?_
  refine S.b3 ?_
  refine S.b1 ?_
  refine S.b3 ?_
  refine S.b3 ?_
  exact S.fin0 Try.func61 rfl (fun w hs hk => hR w _ _ ⟨v0_Slots, v0_Objs, rfl, rfl⟩ hs hk)
end Go.Proofs
namespace Go.Proofs
open Go.Sl Go.RowKit
/-! 59 (*padstone/padstoneref10.State).pop -/
def ref10_State_pop.f (a0 : ref10_State) (a1 : Int) : Option ((Int × ref10_State)) :=
  (at_ a0.Objs a1).bind fun x1 => bif (x1.Queue.length : Int) == 0 then (some (-1, a0)) else ((at_ a0.Objs a1).bind fun x14 => (at_ x14.Queue 0).bind fun x22 => (at_ a0.Objs a1).bind fun x30 => (slcF x30.Queue 1).bind fun zs38 => (app ([]) zs38).bind fun zs42 => (at_ a0.Objs a1).bind fun x46 => some (x22, ({ a0 with Objs := a0.Objs.set a1.toNat ({ x46 with Queue := zs42 } : ref10_Obj) } : ref10_State)))
set_option maxHeartbeats 8000000 in
set_option maxRecDepth 100000 in
theorem ref10_State_pop.ct (bp0 : Nat) (v0_Slots : Value) (v0_Objs : Value) (a0 : ref10_State) (a1 : Int) (r0 : Int) (rp0 : ref10_State) (h : ref10_State_pop.f a0 a1 = some (r0, rp0)) :
    Ct Try.prog 59 [bp bp0 0, .int .i64 a1] (fun _ => True) [Box bp0 [v0_Slots, v0_Objs, .int .i64 a0.NS, .int .i64 a0.NO], OwnR 81 kr_ref10_Slot v0_Slots a0.Slots, OwnR 72 kr_ref10_Obj v0_Objs a0.Objs] (fun u H' => ∃ rw0_Slots rw0_Objs, u = .int .i64 r0 ∧ H' = [Box bp0 [rw0_Slots, rw0_Objs, .int .i64 rp0.NS, .int .i64 rp0.NO], OwnR 81 kr_ref10_Slot rw0_Slots rp0.Slots, OwnR 72 kr_ref10_Obj rw0_Objs rp0.Objs]) := by
  unfold ref10_State_pop.f at h
  refine Ct.intro (n := 45) Try.func59 rfl rfl rfl ?_
  intro R w0 F hF hR
  refine S.seq ?_
  refine S.region ?_
  refine SO.v rfl (opv_assign rfl) ?_
  refine SO.nil ?_
  refine S.seq ?_
  refine S.seq ?_
  refine S.region ?_
  refine SO.v rfl (opv_move rfl) ?_
  refine SO.v rfl (opv_nilCheck rfl) ?_
  refine SO.v rfl (opv_fieldAddr Try.underlying76 rfl Try.sizeOf74 rfl rfl) ?_
  refine SO.load1 rfl Try.isAgg74 rfl rfl ?_
  refine SO.v rfl (opv_move rfl) ?_
  refine SO.b2 ?_
  refine SO.openR fun raws6 A7 hrel8 hR9 => ?_
  obtain ⟨x1, hx2, h⟩ := opt_bind h
  obtain ⟨r3, hr4, hc5⟩ := relR.at hrel8 hx2
  refine SO.v rfl (opv_idx Try.underlying74 Try.sizeOf72 hR9 rfl rfl hr4) ?_
  refine SO.v rfl (opv_fieldIdx Try.underlying72 rfl Try.sizeOf29 hR9 hr4 rfl rfl) ?_
  obtain ⟨u10, hu11, hru12⟩ := hc5.sl 6 rfl
  refine SO.loadI1 (j := 6) rfl Try.isAgg29 (Rd.head hR9) hr4 rfl rfl rfl hu11 ?_
  refine SO.v rfl (opv_lenR rfl Try.underlying29 hru12 rfl) ?_
  refine SO.v rfl (opv_eql rfl rfl) ?_
  refine SO.nil ?_
  refine S.to (ρ' := [(0, bp bp0 0), (1, .int .i64 a1), (4, .int .i64 0), (15, .bool ((x1.Queue.length : Int) == 0))]) ⟨rfl, rfl, rfl, rfl, trivial⟩ ?_
  rcases bool_or ((x1.Queue.length : Int) == 0) with b13 | b13
  · replace h := cond_t b13 h
    refine S.condT rfl b13 ?_
    refine S.seq ?_
    refine S.region ?_
    refine SO.v rfl (opv_assign rfl) ?_
    refine SO.nil ?_
    cases h
    refine S.closeR ?_
    refine S.b3 ?_
    refine S.b1 ?_
    refine S.b3 ?_
    refine S.b3 ?_
    exact S.ret1 Try.func59 rfl rfl (fun w hs hk => hR w _ _ ⟨v0_Slots, v0_Objs, rfl, rfl⟩ hs hk)
  · replace h := cond_f b13 h
    refine S.condF rfl b13 ?_
    refine S.skip ?_
    refine S.seq ?_
    refine S.region ?_
    refine SO.v rfl (opv_move rfl) ?_
    refine SO.v rfl (opv_nilCheck rfl) ?_
    refine SO.v rfl (opv_fieldAddr Try.underlying76 rfl Try.sizeOf74 rfl rfl) ?_
    refine SO.b1 ?_
    refine SO.load1 rfl Try.isAgg74 rfl rfl ?_
    refine SO.v rfl (opv_move rfl) ?_
    obtain ⟨x14, hx15, h⟩ := opt_bind h
    obtain ⟨r16, hr17, hc18⟩ := relR.at hrel8 hx15
    refine SO.v rfl (opv_idx Try.underlying74 Try.sizeOf72 hR9 rfl rfl hr17) ?_
    refine SO.v rfl (opv_fieldIdx Try.underlying72 rfl Try.sizeOf29 hR9 hr17 rfl rfl) ?_
    obtain ⟨u19, hu20, hru21⟩ := hc18.sl 6 rfl
    refine SO.loadI1 (j := 6) rfl Try.isAgg29 (Rd.tail (Rd.head hR9)) hr17 rfl rfl rfl hu20 ?_
    obtain ⟨x22, hx23, h⟩ := opt_bind h
    refine SO.v rfl (opv_idx Try.underlying29 Try.sizeOf3 hru21 rfl rfl hx23) ?_
    refine SO.loadI1 (j := 0) rfl Try.isAgg3 (Rd.tail (Rd.head (Rd.pool hru21))) hx23 rfl rfl rfl rfl ?_
    refine SO.v rfl (opv_assign rfl) ?_
    refine SO.nil ?_
    refine S.to (ρ' := [(0, bp bp0 0), (1, .int .i64 a1), (4, .int .i64 0), (5, .int .i64 x22)]) ⟨rfl, rfl, rfl, rfl, trivial⟩ ?_
    refine S.seq ?_
    refine S.b2 ?_
    refine S.openR fun raws24 A25 hrel26 hR27 => ?_
    obtain ⟨x30, hx31, h⟩ := opt_bind h
    obtain ⟨r32, hr33, hc34⟩ := relR.at hrel8 hx31
    obtain ⟨u35, hu36, hru37⟩ := hc34.sl 6 rfl
    obtain ⟨zs38, hz39, h⟩ := opt_bind h
    have hru40 := Rd.slc hru37 hz39
    obtain ⟨zs42, hz43, h⟩ := opt_bind h
    obtain ⟨x46, hx47, h⟩ := opt_bind h
    obtain ⟨r48, hr49, hc50⟩ := relR.at hrel8 hx47
    refine S.draw' (Z := fun Q => ∀ (_ : Unit) (_ : Unit) (_ : Unit) (_ : Unit) (_ : Unit), Q [(4, .int .i64 0), (5, .int .i64 x22)] [OwnO 81 kr_ref10_Slot v0_Slots raws24 A25 a0.Slots, Box bp0 [v0_Slots, v0_Objs, .int .i64 a0.NS, .int .i64 a0.NO], OwnR 72 kr_ref10_Obj v0_Objs (a0.Objs.set a1.toNat ({ x46 with Queue := zs42 } : ref10_Obj)), F]) (T := [tS 0 (bp bp0 0), tS 1 (.int .i64 a1), tE [(4, .int .i64 0), (5, .int .i64 x22)], tR (OwnO 81 kr_ref10_Slot v0_Slots raws24 A25 a0.Slots), tR (Box bp0 [v0_Slots, v0_Objs, .int .i64 a0.NS, .int .i64 a0.NO]), tR (OwnO 72 kr_ref10_Obj v0_Objs raws6 A7 a0.Objs), tR (F), tS 26 (bp bp0 0), tS 27 (bp bp0 0), tS 28 (bp bp0 1), tS 29 (v0_Objs), tS 30 (.int .i64 a1), ⟨Value, [31], (fun v28 => [(31, v28)]), (fun v28 => [Own 3 (ekI .i64) v28 ([])]), fun _ => rfl⟩, tS 32 (bp bp0 0), tS 33 (bp bp0 0), tS 34 (bp bp0 1), tS 35 (v0_Objs), tS 36 (.int .i64 a1), tS 37 (idxp v0_Objs (a1.toNat * kr_ref10_Obj.sz)), tS 38 (idxp v0_Objs (a1.toNat * kr_ref10_Obj.sz + 6)), tS 39 (u35), tS 40 ((slcV u35 (1 : Int).toNat (ekI .i64).sz)), ⟨Value, [41], (fun v44 => [(41, v44)]), (fun v44 => [Own 3 (ekI .i64) v44 zs42]), fun _ => rfl⟩, tS 42 (idxp v0_Objs (a1.toNat * kr_ref10_Obj.sz)), tS 43 (idxp v0_Objs (a1.toNat * kr_ref10_Obj.sz + 6)), tR (OwnR 72 kr_ref10_Obj v0_Objs (a0.Objs.set a1.toNat ({ x46 with Queue := zs42 } : ref10_Obj)))]) (D := [⟨[0], [], [7]⟩, ⟨[7], [], [8]⟩, ⟨[8], [], [9]⟩, ⟨[9, 4], [], [10]⟩, ⟨[1], [], [11]⟩, ⟨[], [], [12]⟩, ⟨[0], [], [13]⟩, ⟨[13], [], [14]⟩, ⟨[14], [], [15]⟩, ⟨[15, 4], [], [16]⟩, ⟨[1], [], [17]⟩, ⟨[16, 17, 5], [], [18]⟩, ⟨[18, 5], [], [19]⟩, ⟨[19, 5], [], [20]⟩, ⟨[20, 5], [], [21]⟩, ⟨[21, 5], [12], [22]⟩, ⟨[10, 11, 5], [], [23]⟩, ⟨[23, 5], [], [24]⟩, ⟨[24], [22, 5], [25]⟩]) (ini := [0, 1, 2, 3, 4, 5, 6]) (fin := [2, 3, 4, 25, 6]) (bf := [[], [0], [0, 1], [0, 1, 2], [], [], [], [6], [6, 7], [6, 7, 8], [], [6, 7, 8, 9, 10], [6, 7, 8, 9, 10, 11], [6, 7, 8, 9, 10, 11, 12], [6, 7, 8, 9, 10, 11, 12, 13], [5, 6, 7, 8, 9, 10, 11, 12, 13, 14], [0, 1, 2, 3, 4, 5, 6, 7, 8, 9, 10, 11, 12, 13, 14, 15], [0, 1, 2, 3, 4, 5, 6, 7, 8, 9, 10, 11, 12, 13, 14, 15, 16], [0, 1, 2, 3, 4, 5, 6, 7, 8, 9, 10, 11, 12, 13, 14, 15, 16, 17]]) (by kernel_rfl) (by kernel_rfl) (fun x w h1 h2 => (.cons () (.cons () (.cons () (.cons () (.cons () (.cons () (.cons () (.nil ⟨EnvAll.of h1 ⟨rfl, rfl, rfl, rfl, trivial⟩, h2⟩))))))))) (fun Q => by kernel_rfl) ⟨?_, ?_, ?_, ?_, ?_, ?_, ?_, ?_, ?_, ?_, ?_, ?_, ?_, ?_, ?_, ?_, ?_, ?_, ?_, trivial⟩ ?_
    · rintro Fr _
      refine SO.v rfl (opv_move rfl) ?_
      exact SO.nilZ fun a w h1 h2 h3 h4 h5 => PZ.of h1 h3 h5 (.cons () (.cons () (.nil ⟨EnvAll.of h2 ⟨rfl, rfl, trivial⟩, h4⟩)))
    · rintro Fr _
      refine SO.v rfl (opv_nilCheck rfl) ?_
      exact SO.nilZ fun a w h1 h2 h3 h4 h5 => PZ.of h1 h3 h5 (.cons () (.cons () (.nil ⟨EnvAll.of h2 ⟨rfl, rfl, trivial⟩, h4⟩)))
    · rintro Fr _
      refine SO.v rfl (opv_fieldAddr Try.underlying76 rfl Try.sizeOf74 rfl rfl) ?_
      exact SO.nilZ fun a w h1 h2 h3 h4 h5 => PZ.of h1 h3 h5 (.cons () (.cons () (.nil ⟨EnvAll.of h2 ⟨rfl, rfl, trivial⟩, h4⟩)))
    · rintro Fr _ _
      refine SO.load1 rfl Try.isAgg74 rfl rfl ?_
      exact SO.nilZ fun a w h1 h2 h3 h4 h5 => PZ.of h1 h3 h5 (.cons () (.cons () (.cons () (.nil ⟨EnvAll.of h2 ⟨rfl, rfl, trivial⟩, h4⟩))))
    · rintro Fr _
      refine SO.v rfl (opv_move rfl) ?_
      exact SO.nilZ fun a w h1 h2 h3 h4 h5 => PZ.of h1 h3 h5 (.cons () (.cons () (.nil ⟨EnvAll.of h2 ⟨rfl, rfl, trivial⟩, h4⟩)))
    · rintro Fr 
      refine SO.buildSlice0 (ekI .i64) rfl Try.underlying29 Try.sizeOf3 (fun v28 hr29 => ?_)
      exact SO.nilZ fun a w h1 h2 h3 h4 h5 => PZ.of h1 h3 h5 (.cons v28 (.nil ⟨EnvAll.of h2 ⟨rfl, trivial⟩, h4⟩))
    · rintro Fr _
      refine SO.v rfl (opv_move rfl) ?_
      exact SO.nilZ fun a w h1 h2 h3 h4 h5 => PZ.of h1 h3 h5 (.cons () (.cons () (.nil ⟨EnvAll.of h2 ⟨rfl, rfl, trivial⟩, h4⟩)))
    · rintro Fr _
      refine SO.v rfl (opv_nilCheck rfl) ?_
      exact SO.nilZ fun a w h1 h2 h3 h4 h5 => PZ.of h1 h3 h5 (.cons () (.cons () (.nil ⟨EnvAll.of h2 ⟨rfl, rfl, trivial⟩, h4⟩)))
    · rintro Fr _
      refine SO.v rfl (opv_fieldAddr Try.underlying76 rfl Try.sizeOf74 rfl rfl) ?_
      exact SO.nilZ fun a w h1 h2 h3 h4 h5 => PZ.of h1 h3 h5 (.cons () (.cons () (.nil ⟨EnvAll.of h2 ⟨rfl, rfl, trivial⟩, h4⟩)))
    · rintro Fr _ _
      refine SO.load1 rfl Try.isAgg74 rfl rfl ?_
      exact SO.nilZ fun a w h1 h2 h3 h4 h5 => PZ.of h1 h3 h5 (.cons () (.cons () (.cons () (.nil ⟨EnvAll.of h2 ⟨rfl, rfl, trivial⟩, h4⟩))))
    · rintro Fr _
      refine SO.v rfl (opv_move rfl) ?_
      exact SO.nilZ fun a w h1 h2 h3 h4 h5 => PZ.of h1 h3 h5 (.cons () (.cons () (.nil ⟨EnvAll.of h2 ⟨rfl, rfl, trivial⟩, h4⟩)))
    · rintro Fr _ _ _
      refine SO.v rfl (opv_idx Try.underlying74 Try.sizeOf72 hR9 rfl rfl hr33) ?_
      exact SO.nilZ fun a w h1 h2 h3 h4 h5 => PZ.of h1 h3 h5 (.cons () (.cons () (.cons () (.cons () (.nil ⟨EnvAll.of h2 ⟨rfl, rfl, rfl, trivial⟩, h4⟩)))))
    · rintro Fr _ _
      refine SO.v rfl (opv_fieldIdx Try.underlying72 rfl Try.sizeOf29 hR9 hr33 rfl rfl) ?_
      exact SO.nilZ fun a w h1 h2 h3 h4 h5 => PZ.of h1 h3 h5 (.cons () (.cons () (.cons () (.nil ⟨EnvAll.of h2 ⟨rfl, rfl, trivial⟩, h4⟩))))
    · rintro Fr _ _
      refine SO.loadI1 (j := 6) rfl Try.isAgg29 (Rd.head hR9) hr33 rfl rfl rfl hu36 ?_
      exact SO.nilZ fun a w h1 h2 h3 h4 h5 => PZ.of h1 h3 h5 (.cons () (.cons () (.cons () (.nil ⟨EnvAll.of h2 ⟨rfl, rfl, trivial⟩, h4⟩))))
    · rintro Fr _ _
      refine SO.v rfl (opv_slcLo Try.underlying29 Try.sizeOf3 hru37 hz39 rfl rfl) ?_
      exact SO.nilZ fun a w h1 h2 h3 h4 h5 => PZ.of h1 h3 h5 (.cons () (.cons () (.cons () (.nil ⟨EnvAll.of h2 ⟨rfl, rfl, trivial⟩, h4⟩))))
    · rintro Fr _ _ v28
      refine SO.b1 ?_
      refine SO.rd fun hr41 => ?_
      refine SO.append rfl Try.underlying29 Try.underlying29 inf3 rfl rfl rfl (by decide) rfl rfl rfl (Rd.head (Rd.pool hru40)) hz43 (fun v44 => ?_)
      refine SO.rd fun hr45 => ?_
      refine SO.b1 ?_
      exact SO.nilZ fun a w h1 h2 h3 h4 h5 => PZ.of h1 h3 h5 (.cons () (.cons () (.cons v44 (.nil ⟨EnvAll.of h2 ⟨rfl, rfl, trivial⟩, h4⟩))))
    · rintro Fr _ _ _
      refine SO.v rfl (opv_idx Try.underlying74 Try.sizeOf72 hR9 rfl rfl hr49) ?_
      exact SO.nilZ fun a w h1 h2 h3 h4 h5 => PZ.of h1 h3 h5 (.cons () (.cons () (.cons () (.cons () (.nil ⟨EnvAll.of h2 ⟨rfl, rfl, rfl, trivial⟩, h4⟩)))))
    · rintro Fr _ _
      refine SO.v rfl (opv_fieldIdx Try.underlying72 rfl Try.sizeOf29 hR9 hr49 rfl rfl) ?_
      exact SO.nilZ fun a w h1 h2 h3 h4 h5 => PZ.of h1 h3 h5 (.cons () (.cons () (.cons () (.nil ⟨EnvAll.of h2 ⟨rfl, rfl, trivial⟩, h4⟩))))
    · rintro Fr _ v44 _
      refine SO.rd fun hr51 => ?_
      refine SO.b1 ?_
      refine SO.b1 ?_
      refine SO.freeze hrel8 fun A52 hcov53 hru54 hrel55 hR56 => ?_
      refine SO.storeO1 (j := 6) (q := .sl (ekI .i64) zs42) (z' := ({ x46 with Queue := zs42 } : ref10_Obj)) Try.sizeOf29 hrel55 hx47 rfl rfl (Rd.one hru54) rfl rfl rfl hru54 (fun raws57 hrel58 hR59 => ?_)
      refine SO.closeR ?_
      exact SO.nilZ fun a w h1 h2 h3 h4 h5 => PZ.of h1 h3 h5 (.cons () (.cons () (.nil ⟨EnvAll.of h2 ⟨rfl, trivial⟩, h4⟩)))
    rintro _ _ _ _ _
    refine S.to (ρ' := [(4, .int .i64 0), (5, .int .i64 x22)]) ⟨rfl, rfl, trivial⟩ ?_
    refine S.seq ?_
    refine S.region ?_
    refine SO.v rfl (opv_move rfl) ?_
    refine SO.v rfl (opv_assign rfl) ?_
    refine SO.nil ?_
    cases h
    refine S.closeR ?_
    refine S.b3 ?_
    refine S.b3 ?_
    refine S.b2 ?_
    refine S.b3 ?_
    exact S.ret1 Try.func59 rfl rfl (fun w hs hk => hR w _ _ ⟨v0_Slots, v0_Objs, rfl, rfl⟩ hs hk)
end Go.Proofs
namespace Go.Proofs
open Go.Sl Go.RowKit
/-! 60 (*padstone/padstoneref10.State).rest -/
def ref10_State_rest.f (a0 : ref10_State) (a1 : Int) : Option (ref10_State) :=
  (at_ a0.Objs a1).bind fun x1 => bif (x1.Queue.length : Int) == 0 then ((at_ a0.Objs a1).bind fun x14 => some ({ a0 with Objs := a0.Objs.set a1.toNat ({ x14 with Wait := 0 } : ref10_Obj) } : ref10_State)) else (some a0)
set_option maxHeartbeats 8000000 in
set_option maxRecDepth 100000 in
theorem ref10_State_rest.ct (bp0 : Nat) (v0_Slots : Value) (v0_Objs : Value) (a0 : ref10_State) (a1 : Int) (rp0 : ref10_State) (h : ref10_State_rest.f a0 a1 = some rp0) :
    Ct Try.prog 60 [bp bp0 0, .int .i64 a1] (fun _ => True) [Box bp0 [v0_Slots, v0_Objs, .int .i64 a0.NS, .int .i64 a0.NO], OwnR 81 kr_ref10_Slot v0_Slots a0.Slots, OwnR 72 kr_ref10_Obj v0_Objs a0.Objs] (fun u H' => ∃ rw0_Slots rw0_Objs, u = .tuple #[] ∧ H' = [Box bp0 [rw0_Slots, rw0_Objs, .int .i64 rp0.NS, .int .i64 rp0.NO], OwnR 81 kr_ref10_Slot rw0_Slots rp0.Slots, OwnR 72 kr_ref10_Obj rw0_Objs rp0.Objs]) := by
  unfold ref10_State_rest.f at h
  refine Ct.intro (n := 21) Try.func60 rfl rfl rfl ?_
  intro R w0 F hF hR
  refine S.seq ?_
  refine S.region ?_
  refine SO.v rfl (opv_move rfl) ?_
  refine SO.v rfl (opv_nilCheck rfl) ?_
  refine SO.v rfl (opv_fieldAddr Try.underlying76 rfl Try.sizeOf74 rfl rfl) ?_
  refine SO.load1 rfl Try.isAgg74 rfl rfl ?_
  refine SO.v rfl (opv_move rfl) ?_
  refine SO.b2 ?_
  refine SO.openR fun raws6 A7 hrel8 hR9 => ?_
  obtain ⟨x1, hx2, h⟩ := opt_bind h
  obtain ⟨r3, hr4, hc5⟩ := relR.at hrel8 hx2
  refine SO.v rfl (opv_idx Try.underlying74 Try.sizeOf72 hR9 rfl rfl hr4) ?_
  refine SO.v rfl (opv_fieldIdx Try.underlying72 rfl Try.sizeOf29 hR9 hr4 rfl rfl) ?_
  obtain ⟨u10, hu11, hru12⟩ := hc5.sl 6 rfl
  refine SO.loadI1 (j := 6) rfl Try.isAgg29 (Rd.head hR9) hr4 rfl rfl rfl hu11 ?_
  refine SO.v rfl (opv_lenR rfl Try.underlying29 hru12 rfl) ?_
  refine SO.v rfl (opv_eql rfl rfl) ?_
  refine SO.nil ?_
  refine S.to (ρ' := [(0, bp bp0 0), (1, .int .i64 a1), (13, .bool ((x1.Queue.length : Int) == 0))]) ⟨rfl, rfl, rfl, trivial⟩ ?_
  rcases bool_or ((x1.Queue.length : Int) == 0) with b13 | b13
  · replace h := cond_t b13 h
    refine S.condT rfl b13 ?_
    refine S.region ?_
    refine SO.v rfl (opv_move rfl) ?_
    refine SO.v rfl (opv_nilCheck rfl) ?_
    refine SO.v rfl (opv_fieldAddr Try.underlying76 rfl Try.sizeOf74 rfl rfl) ?_
    refine SO.b1 ?_
    refine SO.load1 rfl Try.isAgg74 rfl rfl ?_
    refine SO.v rfl (opv_move rfl) ?_
    obtain ⟨x14, hx15, h⟩ := opt_bind h
    obtain ⟨r16, hr17, hc18⟩ := relR.at hrel8 hx15
    refine SO.v rfl (opv_idx Try.underlying74 Try.sizeOf72 hR9 rfl rfl hr17) ?_
    refine SO.v rfl (opv_fieldIdx Try.underlying72 rfl Try.sizeOf3 hR9 hr17 rfl rfl) ?_
    refine SO.b1 ?_
    refine SO.storeO1 (j := 5) (q := .val (.int .i64 0)) (z' := ({ x14 with Wait := 0 } : ref10_Obj)) Try.sizeOf3 hrel8 hx15 rfl rfl rfl rfl rfl rfl rfl (fun raws19 hrel20 hR21 => ?_)
    refine SO.nil ?_
    refine S.to (ρ' := []) trivial ?_
    cases h
    refine S.closeR ?_
    refine S.b3 ?_
    refine S.b1 ?_
    refine S.b3 ?_
    refine S.b3 ?_
    exact S.fin0 Try.func60 rfl (fun w hs hk => hR w _ _ ⟨v0_Slots, v0_Objs, rfl, rfl⟩ hs hk)
  · replace h := cond_f b13 h
    refine S.condF rfl b13 ?_
    refine S.skip ?_
    cases h
    refine S.closeR ?_
    refine S.b3 ?_
    refine S.b1 ?_
    refine S.b3 ?_
    refine S.b3 ?_
    exact S.fin0 Try.func60 rfl (fun w hs hk => hR w _ _ ⟨v0_Slots, v0_Objs, rfl, rfl⟩ hs hk)
end Go.Proofs
namespace Go.Proofs
open Go.Sl Go.RowKit
/-! 28 (*padstone/padstoneref10.State).Recv -/
def ref10_State_Recv.f (a0 : ref10_State) (a1 : Int) (a2 : Int) : Option ((api_Reply × Bool × Int × ref10_State)) :=
  (at_ a0.Objs a2).bind fun x2 => bif decide (0 ≤ x2.Owes) then (some ((⟨0, 0, 0⟩ : api_Reply), false, 10, a0)) else ((at_ a0.Objs a1).bind fun x12 => bif x12.Wait == 1 then ((ref10_State_pop.f a0 a1).bind fun (t18, p19) => (at_ p19.Objs t18).bind fun x26 => (at_ p19.Objs t18).bind fun x31 => (at_ p19.Objs t18).bind fun x37 => (bif x37.State == 6 then ((ref10_State_owe.f p19 a2 t18).bind fun p43 => some (p43.Slots, p43.Objs, p43.NS, p43.NO)) else ((ref10_State_Wake.f p19 t18 0 0).bind fun p46 => some (p46.Slots, p46.Objs, p46.NS, p46.NO))).bind fun (yp0_0_1, yp0_1_1, yp0_2_1, yp0_3_1) => (ref10_State_rest.f (⟨yp0_0_1, yp0_1_1, yp0_2_1, yp0_3_1⟩ : ref10_State) a1).bind fun p49 => some ((⟨0, x26.Word, x31.Badge⟩ : api_Reply), true, 0, p49)) else ((ref10_State_Block.f a0 a1 a2 3).bind fun p53 => (at_ p53.Objs a1).bind fun x56 => some ((⟨0, 0, 0⟩ : api_Reply), false, 0, ({ p53 with Objs := p53.Objs.set a1.toNat ({ x56 with Wait := 2 } : ref10_Obj) } : ref10_State))))
set_option maxHeartbeats 8000000 in
set_option maxRecDepth 100000 in
theorem ref10_State_Recv.ct (bp0 : Nat) (v0_Slots : Value) (v0_Objs : Value) (a0 : ref10_State) (a1 : Int) (a2 : Int) (r0 : api_Reply) (r1 : Bool) (r2 : Int) (rp0 : ref10_State) (h : ref10_State_Recv.f a0 a1 a2 = some (r0, r1, r2, rp0)) :
    Ct Try.prog 28 [bp bp0 0, .int .i64 a1, .int .i64 a2] (fun _ => True) [Box bp0 [v0_Slots, v0_Objs, .int .i64 a0.NS, .int .i64 a0.NO], OwnR 81 kr_ref10_Slot v0_Slots a0.Slots, OwnR 72 kr_ref10_Obj v0_Objs a0.Objs] (fun u H' => ∃ rw0_Slots rw0_Objs, u = .tuple #[.agg #[.int .i64 r0.Code, .int .i64 r0.Word, .int .i64 r0.Badge], .bool r1, .int .i64 r2] ∧ H' = [Box bp0 [rw0_Slots, rw0_Objs, .int .i64 rp0.NS, .int .i64 rp0.NO], OwnR 81 kr_ref10_Slot rw0_Slots rp0.Slots, OwnR 72 kr_ref10_Obj rw0_Objs rp0.Objs]) := by
  unfold ref10_State_Recv.f at h
  refine Ct.intro (n := 82) Try.func28 rfl rfl rfl ?_
  intro R w0 F hF hR
  refine S.seq ?_
  refine S.region ?_
  refine SO.alloc rfl Try.zeroValue41 rfl (fun b1 => ?_)
  refine SO.v rfl (opv_assign rfl) ?_
  refine SO.v rfl (opv_assign rfl) ?_
  refine SO.nil ?_
  refine S.seq ?_
  refine S.seq ?_
  refine S.region ?_
  refine SO.v rfl (opv_move rfl) ?_
  refine SO.v rfl (opv_nilCheck rfl) ?_
  refine SO.v rfl (opv_fieldAddr Try.underlying76 rfl Try.sizeOf74 rfl rfl) ?_
  refine SO.b1 ?_
  refine SO.load1 rfl Try.isAgg74 rfl rfl ?_
  refine SO.v rfl (opv_move rfl) ?_
  refine SO.b3 ?_
  refine SO.openR fun raws7 A8 hrel9 hR10 => ?_
  obtain ⟨x2, hx3, h⟩ := opt_bind h
  obtain ⟨r4, hr5, hc6⟩ := relR.at hrel9 hx3
  refine SO.v rfl (opv_idx Try.underlying74 Try.sizeOf72 hR10 rfl rfl hr5) ?_
  refine SO.v rfl (opv_fieldIdx Try.underlying72 rfl Try.sizeOf3 hR10 hr5 rfl rfl) ?_
  refine SO.loadI1 (j := 13) rfl Try.isAgg3 (Rd.head hR10) hr5 rfl rfl rfl (hc6.val rfl) ?_
  refine SO.v rfl (opv_geq rfl rfl) ?_
  refine SO.nil ?_
  refine S.to (ρ' := [(0, bp bp0 0), (1, .int .i64 a1), (2, .int .i64 a2), (6, bp b1 0), (7, .bool false), (8, .int .i64 0), (19, .bool (decide (0 ≤ x2.Owes)))]) ⟨rfl, rfl, rfl, rfl, rfl, rfl, rfl, trivial⟩ ?_
  rcases bool_or (decide (0 ≤ x2.Owes)) with b11 | b11
  · replace h := cond_t b11 h
    refine S.condT rfl b11 ?_
    refine S.seq ?_
    refine S.region ?_
    refine SO.v rfl (opv_build (v := .agg #[.int .i64 0, .int .i64 0, .int .i64 0]) rfl (by intro w; kernel_rfl)) ?_
    refine SO.b2 ?_
    refine SO.storeN Try.sizeOf41 rfl rfl rfl rfl rfl rfl ?_
    refine SO.v rfl (opv_assign rfl) ?_
    refine SO.v rfl (opv_assign rfl) ?_
    refine SO.nil ?_
    cases h
    refine S.b1 ?_
    refine S.closeR ?_
    refine S.b4 ?_
    refine S.b1 ?_
    refine S.b4 ?_
    refine S.b4 ?_
    refine S.b4 ?_
    exact S.retC2 Try.func28 rfl rfl rfl rfl Try.isAgg41 Try.sizeOf41 rfl rfl (fun w hs hk => hR w _ _ ⟨v0_Slots, v0_Objs, rfl, rfl⟩ hs.drop hk)
  · replace h := cond_f b11 h
    refine S.condF rfl b11 ?_
    refine S.skip ?_
    refine S.seq ?_
    refine S.seq ?_
    refine S.region ?_
    refine SO.v rfl (opv_move rfl) ?_
    refine SO.v rfl (opv_nilCheck rfl) ?_
    refine SO.v rfl (opv_fieldAddr Try.underlying76 rfl Try.sizeOf74 rfl rfl) ?_
    refine SO.b1 ?_
    refine SO.load1 rfl Try.isAgg74 rfl rfl ?_
    refine SO.v rfl (opv_move rfl) ?_
    obtain ⟨x12, hx13, h⟩ := opt_bind h
    obtain ⟨r14, hr15, hc16⟩ := relR.at hrel9 hx13
    refine SO.v rfl (opv_idx Try.underlying74 Try.sizeOf72 hR10 rfl rfl hr15) ?_
    refine SO.v rfl (opv_fieldIdx Try.underlying72 rfl Try.sizeOf3 hR10 hr15 rfl rfl) ?_
    refine SO.loadI1 (j := 5) rfl Try.isAgg3 (Rd.tail (Rd.head hR10)) hr15 rfl rfl rfl (hc16.val rfl) ?_
    refine SO.v rfl (opv_eql rfl rfl) ?_
    refine SO.nil ?_
    refine S.to (ρ' := [(0, bp bp0 0), (1, .int .i64 a1), (2, .int .i64 a2), (6, bp b1 0), (7, .bool false), (8, .int .i64 0), (29, .bool (x12.Wait == 1))]) ⟨rfl, rfl, rfl, rfl, rfl, rfl, rfl, trivial⟩ ?_
    rcases bool_or (x12.Wait == 1) with b17 | b17
    · replace h := cond_t b17 h
      refine S.condT rfl b17 ?_
      refine S.seq ?_
      refine S.region ?_
      refine SO.v rfl (opv_move rfl) ?_
      refine SO.v rfl (opv_move rfl) ?_
      obtain ⟨⟨t18, p19⟩, ht20, h⟩ := opt_bind h
      refine SO.b1 ?_
      refine SO.closeR ?_
      refine SO.b3 ?_
      refine SO.b2 ?_
      refine SO.call (pre := [Box _ _, OwnR _ _ _ _, OwnR _ _ _ _]) rfl Try.call59 rfl rfl rfl (ref10_State_pop.ct bp0 v0_Slots v0_Objs _ _ _ _ ht20) trivial ?_
      rintro _ _ ⟨u21_Slots, u21_Objs, rfl, rfl⟩
      refine SO.v rfl (opv_assign rfl) ?_
      refine SO.nil ?_
      refine S.seq ?_
      refine S.b2 ?_
      refine S.openR fun raws22 A23 hrel24 hR25 => ?_
      obtain ⟨x26, hx27, h⟩ := opt_bind h
      obtain ⟨r28, hr29, hc30⟩ := relR.at hrel24 hx27
      obtain ⟨x31, hx32, h⟩ := opt_bind h
      obtain ⟨r33, hr34, hc35⟩ := relR.at hrel24 hx32
      refine S.draw' (Z := fun Q => ∀ (_ : Unit) (_ : Unit) (_ : Unit) (b36 : Nat) (_ : Unit) (_ : Unit) (_ : Unit) (_ : Unit) (_ : Unit), Q [(0, bp bp0 0), (1, .int .i64 a1), (2, .int .i64 a2), (6, bp b1 0), (7, .bool false), (8, .int .i64 0), (9, .int .i64 t18), (10, bp b36 0)] [Box b36 [.int .i64 0, .int .i64 x26.Word, .int .i64 x31.Badge], OwnO 72 kr_ref10_Obj u21_Objs raws22 A23 p19.Objs, Box bp0 [u21_Slots, u21_Objs, .int .i64 p19.NS, .int .i64 p19.NO], OwnR 81 kr_ref10_Slot u21_Slots p19.Slots, Box b1 [.int .i64 0, .int .i64 0, .int .i64 0], F]) (T := [tS 0 (bp bp0 0), tS 9 (.int .i64 t18), tE [(1, .int .i64 a1), (2, .int .i64 a2), (6, bp b1 0), (7, .bool false), (8, .int .i64 0)], tR (OwnO 72 kr_ref10_Obj u21_Objs raws22 A23 p19.Objs), tR (Box bp0 [u21_Slots, u21_Objs, .int .i64 p19.NS, .int .i64 p19.NO]), tR (OwnR 81 kr_ref10_Slot u21_Slots p19.Slots), tR (Box b1 [.int .i64 0, .int .i64 0, .int .i64 0]), tR (F), tS 33 (bp bp0 0), tS 34 (bp bp0 0), tS 35 (bp bp0 1), tS 36 (u21_Objs), tS 37 (.int .i64 t18), tS 38 (idxp u21_Objs (t18.toNat * kr_ref10_Obj.sz)), tS 39 (idxp u21_Objs (t18.toNat * kr_ref10_Obj.sz + 7)), tS 40 (.int .i64 x26.Word), tS 41 (bp bp0 0), tS 42 (bp bp0 0), tS 43 (bp bp0 1), tS 44 (u21_Objs), tS 45 (.int .i64 t18), tS 46 (idxp u21_Objs (t18.toNat * kr_ref10_Obj.sz)), tS 47 (idxp u21_Objs (t18.toNat * kr_ref10_Obj.sz + 10)), tS 48 (.int .i64 x31.Badge), tS 49 (.agg #[.int .i64 0, .int .i64 x26.Word, .int .i64 x31.Badge]), ⟨Nat, [10], (fun b36 => [(10, bp b36 0)]), (fun b36 => [Box b36 [.int .i64 0, .int .i64 0, .int .i64 0]]), fun _ => rfl⟩, ⟨Nat, [10], (fun b36 => [(10, bp b36 0)]), (fun b36 => [Box b36 [.int .i64 0, .int .i64 x26.Word, .int .i64 x31.Badge]]), fun _ => rfl⟩]) (D := [⟨[0], [], [8]⟩, ⟨[8], [], [9]⟩, ⟨[9], [], [10]⟩, ⟨[10, 4], [], [11]⟩, ⟨[1], [], [12]⟩, ⟨[11, 12, 3], [], [13]⟩, ⟨[13, 3], [], [14]⟩, ⟨[14, 3], [], [15]⟩, ⟨[0], [], [16]⟩, ⟨[16], [], [17]⟩, ⟨[17], [], [18]⟩, ⟨[18, 4], [], [19]⟩, ⟨[1], [], [20]⟩, ⟨[19, 20, 3], [], [21]⟩, ⟨[21, 3], [], [22]⟩, ⟨[22, 3], [], [23]⟩, ⟨[15, 23], [], [24]⟩, ⟨[], [], [25]⟩, ⟨[24], [25], [26]⟩]) (ini := [0, 1, 2, 3, 4, 5, 6, 7]) (fin := [0, 2, 1, 26, 3, 4, 5, 6, 7]) (bf := [[], [0], [0, 1], [0, 1, 2], [], [0, 1, 2, 3, 4], [0, 1, 2, 3, 4, 5], [0, 1, 2, 3, 4, 5, 6], [], [8], [8, 9], [8, 9, 10], [], [8, 9, 10, 11, 12], [8, 9, 10, 11, 12, 13], [8, 9, 10, 11, 12, 13, 14], [0, 1, 2, 3, 4, 5, 6, 7, 8, 9, 10, 11, 12, 13, 14, 15], [], [0, 1, 2, 3, 4, 5, 6, 7, 8, 9, 10, 11, 12, 13, 14, 15, 16, 17]]) (by kernel_rfl) (by kernel_rfl) (fun x w h1 h2 => (.cons () (.cons () (.cons () (.cons () (.cons () (.cons () (.cons () (.cons () (.nil ⟨EnvAll.of h1 ⟨rfl, rfl, rfl, rfl, rfl, rfl, rfl, trivial⟩, h2⟩)))))))))) (fun Q => by kernel_rfl) ⟨?_, ?_, ?_, ?_, ?_, ?_, ?_, ?_, ?_, ?_, ?_, ?_, ?_, ?_, ?_, ?_, ?_, ?_, ?_, trivial⟩ ?_
      · rintro Fr _
        refine SO.v rfl (opv_move rfl) ?_
        exact SO.nilZ fun a w h1 h2 h3 h4 h5 => PZ.of h1 h3 h5 (.cons () (.cons () (.nil ⟨EnvAll.of h2 ⟨rfl, rfl, trivial⟩, h4⟩)))
      · rintro Fr _
        refine SO.v rfl (opv_nilCheck rfl) ?_
        exact SO.nilZ fun a w h1 h2 h3 h4 h5 => PZ.of h1 h3 h5 (.cons () (.cons () (.nil ⟨EnvAll.of h2 ⟨rfl, rfl, trivial⟩, h4⟩)))
      · rintro Fr _
        refine SO.v rfl (opv_fieldAddr Try.underlying76 rfl Try.sizeOf74 rfl rfl) ?_
        exact SO.nilZ fun a w h1 h2 h3 h4 h5 => PZ.of h1 h3 h5 (.cons () (.cons () (.nil ⟨EnvAll.of h2 ⟨rfl, rfl, trivial⟩, h4⟩)))
      · rintro Fr _ _
        refine SO.load1 rfl Try.isAgg74 rfl rfl ?_
        exact SO.nilZ fun a w h1 h2 h3 h4 h5 => PZ.of h1 h3 h5 (.cons () (.cons () (.cons () (.nil ⟨EnvAll.of h2 ⟨rfl, rfl, trivial⟩, h4⟩))))
      · rintro Fr _
        refine SO.v rfl (opv_move rfl) ?_
        exact SO.nilZ fun a w h1 h2 h3 h4 h5 => PZ.of h1 h3 h5 (.cons () (.cons () (.nil ⟨EnvAll.of h2 ⟨rfl, rfl, trivial⟩, h4⟩)))
      · rintro Fr _ _ _
        refine SO.v rfl (opv_idx Try.underlying74 Try.sizeOf72 hR25 rfl rfl hr29) ?_
        exact SO.nilZ fun a w h1 h2 h3 h4 h5 => PZ.of h1 h3 h5 (.cons () (.cons () (.cons () (.cons () (.nil ⟨EnvAll.of h2 ⟨rfl, rfl, rfl, trivial⟩, h4⟩)))))
      · rintro Fr _ _
        refine SO.v rfl (opv_fieldIdx Try.underlying72 rfl Try.sizeOf3 hR25 hr29 rfl rfl) ?_
        exact SO.nilZ fun a w h1 h2 h3 h4 h5 => PZ.of h1 h3 h5 (.cons () (.cons () (.cons () (.nil ⟨EnvAll.of h2 ⟨rfl, rfl, trivial⟩, h4⟩))))
      · rintro Fr _ _
        refine SO.loadI1 (j := 7) rfl Try.isAgg3 (Rd.head hR25) hr29 rfl rfl rfl (hc30.val rfl) ?_
        exact SO.nilZ fun a w h1 h2 h3 h4 h5 => PZ.of h1 h3 h5 (.cons () (.cons () (.cons () (.nil ⟨EnvAll.of h2 ⟨rfl, rfl, trivial⟩, h4⟩))))
      · rintro Fr _
        refine SO.v rfl (opv_move rfl) ?_
        exact SO.nilZ fun a w h1 h2 h3 h4 h5 => PZ.of h1 h3 h5 (.cons () (.cons () (.nil ⟨EnvAll.of h2 ⟨rfl, rfl, trivial⟩, h4⟩)))
      · rintro Fr _
        refine SO.v rfl (opv_nilCheck rfl) ?_
        exact SO.nilZ fun a w h1 h2 h3 h4 h5 => PZ.of h1 h3 h5 (.cons () (.cons () (.nil ⟨EnvAll.of h2 ⟨rfl, rfl, trivial⟩, h4⟩)))
      · rintro Fr _
        refine SO.v rfl (opv_fieldAddr Try.underlying76 rfl Try.sizeOf74 rfl rfl) ?_
        exact SO.nilZ fun a w h1 h2 h3 h4 h5 => PZ.of h1 h3 h5 (.cons () (.cons () (.nil ⟨EnvAll.of h2 ⟨rfl, rfl, trivial⟩, h4⟩)))
      · rintro Fr _ _
        refine SO.load1 rfl Try.isAgg74 rfl rfl ?_
        exact SO.nilZ fun a w h1 h2 h3 h4 h5 => PZ.of h1 h3 h5 (.cons () (.cons () (.cons () (.nil ⟨EnvAll.of h2 ⟨rfl, rfl, trivial⟩, h4⟩))))
      · rintro Fr _
        refine SO.v rfl (opv_move rfl) ?_
        exact SO.nilZ fun a w h1 h2 h3 h4 h5 => PZ.of h1 h3 h5 (.cons () (.cons () (.nil ⟨EnvAll.of h2 ⟨rfl, rfl, trivial⟩, h4⟩)))
      · rintro Fr _ _ _
        refine SO.v rfl (opv_idx Try.underlying74 Try.sizeOf72 hR25 rfl rfl hr34) ?_
        exact SO.nilZ fun a w h1 h2 h3 h4 h5 => PZ.of h1 h3 h5 (.cons () (.cons () (.cons () (.cons () (.nil ⟨EnvAll.of h2 ⟨rfl, rfl, rfl, trivial⟩, h4⟩)))))
      · rintro Fr _ _
        refine SO.v rfl (opv_fieldIdx Try.underlying72 rfl Try.sizeOf3 hR25 hr34 rfl rfl) ?_
        exact SO.nilZ fun a w h1 h2 h3 h4 h5 => PZ.of h1 h3 h5 (.cons () (.cons () (.cons () (.nil ⟨EnvAll.of h2 ⟨rfl, rfl, trivial⟩, h4⟩))))
      · rintro Fr _ _
        refine SO.loadI1 (j := 10) rfl Try.isAgg3 (Rd.head hR25) hr34 rfl rfl rfl (hc35.val rfl) ?_
        exact SO.nilZ fun a w h1 h2 h3 h4 h5 => PZ.of h1 h3 h5 (.cons () (.cons () (.cons () (.nil ⟨EnvAll.of h2 ⟨rfl, rfl, trivial⟩, h4⟩))))
      · rintro Fr _ _
        refine SO.v rfl (opv_build (v := .agg #[.int .i64 0, .int .i64 x26.Word, .int .i64 x31.Badge]) rfl (by intro w; kernel_rfl)) ?_
        exact SO.nilZ fun a w h1 h2 h3 h4 h5 => PZ.of h1 h3 h5 (.cons () (.cons () (.cons () (.nil ⟨EnvAll.of h2 ⟨rfl, rfl, rfl, trivial⟩, h4⟩))))
      · rintro Fr 
        refine SO.alloc rfl Try.zeroValue41 rfl (fun b36 => ?_)
        exact SO.nilZ fun a w h1 h2 h3 h4 h5 => PZ.of h1 h3 h5 (.cons b36 (.nil ⟨EnvAll.of h2 ⟨rfl, trivial⟩, h4⟩))
      · rintro Fr _ b36
        refine SO.storeN Try.sizeOf41 rfl rfl rfl rfl rfl rfl ?_
        exact SO.nilZ fun a w h1 h2 h3 h4 h5 => PZ.of h1 h3 h5 (.cons () (.cons b36 (.nil ⟨EnvAll.of h2 ⟨rfl, rfl, trivial⟩, h4⟩)))
      rintro _ _ _ b36 _ _ _ _ _
      refine S.to (ρ' := [(0, bp bp0 0), (1, .int .i64 a1), (2, .int .i64 a2), (6, bp b1 0), (7, .bool false), (8, .int .i64 0), (9, .int .i64 t18), (10, bp b36 0)]) ⟨rfl, rfl, rfl, rfl, rfl, rfl, rfl, rfl, trivial⟩ ?_
      refine S.seq ?_
      refine S.seq ?_
      refine S.region ?_
      refine SO.v rfl (opv_move rfl) ?_
      refine SO.v rfl (opv_nilCheck rfl) ?_
      refine SO.v rfl (opv_fieldAddr Try.underlying76 rfl Try.sizeOf74 rfl rfl) ?_
      refine SO.b2 ?_
      refine SO.load1 rfl Try.isAgg74 rfl rfl ?_
      refine SO.v rfl (opv_move rfl) ?_
      obtain ⟨x37, hx38, h⟩ := opt_bind h
      obtain ⟨r39, hr40, hc41⟩ := relR.at hrel24 hx38
      refine SO.v rfl (opv_idx Try.underlying74 Try.sizeOf72 hR25 rfl rfl hr40) ?_
      refine SO.v rfl (opv_fieldIdx Try.underlying72 rfl Try.sizeOf3 hR25 hr40 rfl rfl) ?_
      refine SO.loadI1 (j := 8) rfl Try.isAgg3 (Rd.tail (Rd.tail (Rd.head hR25))) hr40 rfl rfl rfl (hc41.val rfl) ?_
      refine SO.v rfl (opv_eql rfl rfl) ?_
      refine SO.nil ?_
      refine S.to (ρ' := [(0, bp bp0 0), (1, .int .i64 a1), (2, .int .i64 a2), (6, bp b1 0), (7, .bool false), (8, .int .i64 0), (9, .int .i64 t18), (10, bp b36 0), (58, .bool (x37.State == 6))]) ⟨rfl, rfl, rfl, rfl, rfl, rfl, rfl, rfl, rfl, trivial⟩ ?_
      obtain ⟨⟨yp0_0_1, yp0_1_1, yp0_2_1, yp0_3_1⟩, hC1, hJ1⟩ := opt_bind h
      clear h
      refine S.cutP (G := (Value × Value)) (fun _ => True) (fun x => match x with | (vyp0_0_1, vyp0_1_1) => [(0, bp bp0 0), (1, .int .i64 a1), (6, bp b1 0), (7, .bool false), (8, .int .i64 0), (10, bp b36 0)]) (fun x => match x with | (vyp0_0_1, vyp0_1_1) => [OwnR 72 kr_ref10_Obj vyp0_1_1 yp0_1_1, OwnR 81 kr_ref10_Slot vyp0_0_1 yp0_0_1, Box bp0 [vyp0_0_1, vyp0_1_1, .int .i64 yp0_2_1, .int .i64 yp0_3_1], Box b36 [.int .i64 0, .int .i64 x26.Word, .int .i64 x31.Badge], Box b1 [.int .i64 0, .int .i64 0, .int .i64 0], F]) (fun hk1 => ?_) ?_
      · replace h := hC1
        rcases bool_or (x37.State == 6) with b42 | b42
        · replace h := cond_t b42 h
          refine S.condT rfl b42 ?_
          refine S.region ?_
          refine SO.v rfl (opv_move rfl) ?_
          refine SO.v rfl (opv_move rfl) ?_
          refine SO.v rfl (opv_move rfl) ?_
          obtain ⟨p43, ht44, h⟩ := opt_bind h
          refine SO.b2 ?_
          refine SO.closeR ?_
          refine SO.b3 ?_
          refine SO.b2 ?_
          refine SO.call (pre := [Box _ _, OwnR _ _ _ _, OwnR _ _ _ _]) rfl Try.call61 rfl rfl rfl (ref10_State_owe.ct bp0 u21_Slots u21_Objs _ _ _ _ ht44) trivial ?_
          rintro _ _ ⟨u45_Slots, u45_Objs, rfl, rfl⟩
          refine SO.nil ?_
          refine S.to (ρ' := [(0, bp bp0 0), (1, .int .i64 a1), (6, bp b1 0), (7, .bool false), (8, .int .i64 0), (10, bp b36 0)]) ⟨rfl, rfl, rfl, rfl, rfl, rfl, trivial⟩ ?_
          cases h
          refine S.b5 ?_
          refine S.b5 ?_
          refine S.b5 ?_
          refine S.b3 ?_
          refine S.b4 ?_
          refine S.b5 ?_
          refine S.to ?_ (hk1 (u45_Slots, u45_Objs) trivial)
          exact ⟨rfl, rfl, rfl, rfl, rfl, rfl, trivial⟩
        · replace h := cond_f b42 h
          refine S.condF rfl b42 ?_
          refine S.region ?_
          refine SO.v rfl (opv_move rfl) ?_
          refine SO.v rfl (opv_move rfl) ?_
          obtain ⟨p46, ht47, h⟩ := opt_bind h
          refine SO.b2 ?_
          refine SO.closeR ?_
          refine SO.b3 ?_
          refine SO.b2 ?_
          refine SO.call (pre := [Box _ _, OwnR _ _ _ _, OwnR _ _ _ _]) rfl Try.call54 rfl rfl rfl (ref10_State_Wake.ct bp0 u21_Slots u21_Objs _ _ _ _ _ ht47) trivial ?_
          rintro _ _ ⟨u48_Slots, u48_Objs, rfl, rfl⟩
          refine SO.nil ?_
          cases h
          refine S.b5 ?_
          refine S.b5 ?_
          refine S.b5 ?_
          refine S.b3 ?_
          refine S.b4 ?_
          refine S.b5 ?_
          refine S.to ?_ (hk1 (u48_Slots, u48_Objs) trivial)
          exact ⟨rfl, rfl, rfl, rfl, rfl, rfl, trivial⟩
      rintro ⟨vyp0_0_1, vyp0_1_1⟩ -
      replace h := hJ1
      refine S.seq ?_
      refine S.region ?_
      refine SO.v rfl (opv_move rfl) ?_
      refine SO.v rfl (opv_move rfl) ?_
      obtain ⟨p49, ht50, h⟩ := opt_bind h
      refine SO.b1 ?_
      refine SO.b2 ?_
      have ct52 := ref10_State_rest.ct bp0 vyp0_0_1 vyp0_1_1 _ _ _ ht50
      dsimp only at ct52
      refine SO.call (pre := [Box _ _, OwnR _ _ _ _, OwnR _ _ _ _]) rfl Try.call60 rfl rfl rfl ct52 trivial ?_
      rintro _ _ ⟨u51_Slots, u51_Objs, rfl, rfl⟩
      refine SO.nil ?_
      refine S.seq ?_
      refine S.region ?_
      refine SO.b3 ?_
      refine SO.loadN rfl Try.isAgg41 Try.sizeOf41 rfl rfl rfl ?_
      refine SO.b4 ?_
      refine SO.storeN Try.sizeOf41 rfl rfl rfl rfl rfl rfl ?_
      refine SO.v rfl (opv_assign rfl) ?_
      refine SO.v rfl (opv_assign rfl) ?_
      refine SO.nil ?_
      refine S.to (ρ' := [(6, bp b1 0), (7, .bool true), (8, .int .i64 0)]) ⟨rfl, rfl, rfl, trivial⟩ ?_
      cases h
      refine S.b1 ?_
      refine S.drop ?_
      refine S.b4 ?_
      refine S.b4 ?_
      refine S.b4 ?_
      refine S.b4 ?_
      refine S.b4 ?_
      exact S.retC2 Try.func28 rfl rfl rfl rfl Try.isAgg41 Try.sizeOf41 rfl rfl (fun w hs hk => hR w _ _ ⟨u51_Slots, u51_Objs, rfl, rfl⟩ hs.drop hk)
    · replace h := cond_f b17 h
      refine S.condF rfl b17 ?_
      refine S.skip ?_
      refine S.seq ?_
      refine S.region ?_
      refine SO.v rfl (opv_move rfl) ?_
      refine SO.v rfl (opv_move rfl) ?_
      refine SO.v rfl (opv_move rfl) ?_
      obtain ⟨p53, ht54, h⟩ := opt_bind h
      refine SO.b1 ?_
      refine SO.closeR ?_
      refine SO.b3 ?_
      refine SO.b2 ?_
      refine SO.call (pre := [Box _ _, OwnR _ _ _ _, OwnR _ _ _ _]) rfl Try.call62 rfl rfl rfl (ref10_State_Block.ct bp0 v0_Slots v0_Objs _ _ _ _ _ ht54) trivial ?_
      rintro _ _ ⟨u55_Slots, u55_Objs, rfl, rfl⟩
      refine SO.nil ?_
      refine S.seq ?_
      refine S.region ?_
      refine SO.v rfl (opv_move rfl) ?_
      refine SO.v rfl (opv_nilCheck rfl) ?_
      refine SO.v rfl (opv_fieldAddr Try.underlying76 rfl Try.sizeOf74 rfl rfl) ?_
      refine SO.load1 rfl Try.isAgg74 rfl rfl ?_
      refine SO.v rfl (opv_move rfl) ?_
      refine SO.b2 ?_
      refine SO.openR fun raws61 A62 hrel63 hR64 => ?_
      obtain ⟨x56, hx57, h⟩ := opt_bind h
      obtain ⟨r58, hr59, hc60⟩ := relR.at hrel63 hx57
      refine SO.v rfl (opv_idx Try.underlying74 Try.sizeOf72 hR64 rfl rfl hr59) ?_
      refine SO.v rfl (opv_fieldIdx Try.underlying72 rfl Try.sizeOf3 hR64 hr59 rfl rfl) ?_
      refine SO.storeO1 (j := 5) (q := .val (.int .i64 2)) (z' := ({ x56 with Wait := 2 } : ref10_Obj)) Try.sizeOf3 hrel63 hx57 rfl rfl rfl rfl rfl rfl rfl (fun raws65 hrel66 hR67 => ?_)
      refine SO.nil ?_
      refine S.to (ρ' := [(6, bp b1 0), (7, .bool false), (8, .int .i64 0)]) ⟨rfl, rfl, rfl, trivial⟩ ?_
      refine S.seq ?_
      refine S.region ?_
      refine SO.v rfl (opv_build (v := .agg #[.int .i64 0, .int .i64 0, .int .i64 0]) rfl (by intro w; kernel_rfl)) ?_
      refine SO.b3 ?_
      refine SO.storeN Try.sizeOf41 rfl rfl rfl rfl rfl rfl ?_
      refine SO.v rfl (opv_assign rfl) ?_
      refine SO.v rfl (opv_assign rfl) ?_
      refine SO.nil ?_
      cases h
      refine S.b1 ?_
      refine S.closeR ?_
      refine S.b4 ?_
      refine S.b1 ?_
      refine S.b4 ?_
      refine S.b4 ?_
      refine S.b4 ?_
      exact S.retC2 Try.func28 rfl rfl rfl rfl Try.isAgg41 Try.sizeOf41 rfl rfl (fun w hs hk => hR w _ _ ⟨u55_Slots, u55_Objs, rfl, rfl⟩ hs.drop hk)
end Go.Proofs
namespace Go.Proofs
open Go.Sl Go.RowKit
/-! 21 (*padstone/padstoneref10.State).Resume -/
def ref10_State_Resume.f (a0 : ref10_State) (a1 : Int) : Option ((Int × ref10_State)) :=
  (ref10_State_is.f a0 a1 5).bind fun t9 => bif !t9 then (some (2, a0)) else ((at_ a0.Objs a1).bind fun x12 => bif x12.State != 0 then (some (10, a0)) else ((ref10_State_Wake.f a0 a1 0 0).bind fun p18 => some (0, p18)))
set_option maxHeartbeats 8000000 in
set_option maxRecDepth 100000 in
theorem ref10_State_Resume.ct (bp0 : Nat) (v0_Slots : Value) (v0_Objs : Value) (a0 : ref10_State) (a1 : Int) (r0 : Int) (rp0 : ref10_State) (h : ref10_State_Resume.f a0 a1 = some (r0, rp0)) :
    Ct Try.prog 21 [bp bp0 0, .int .i64 a1] (fun _ => True) [Box bp0 [v0_Slots, v0_Objs, .int .i64 a0.NS, .int .i64 a0.NO], OwnR 81 kr_ref10_Slot v0_Slots a0.Slots, OwnR 72 kr_ref10_Obj v0_Objs a0.Objs] (fun u H' => ∃ rw0_Slots rw0_Objs, u = .int .i64 r0 ∧ H' = [Box bp0 [rw0_Slots, rw0_Objs, .int .i64 rp0.NS, .int .i64 rp0.NO], OwnR 81 kr_ref10_Slot rw0_Slots rp0.Slots, OwnR 72 kr_ref10_Obj rw0_Objs rp0.Objs]) := by
  unfold ref10_State_Resume.f at h
  refine Ct.intro (n := 23) Try.func21 rfl rfl rfl ?_
  intro R w0 F hF hR
  refine S.seq ?_
  refine S.region ?_
  refine SO.v rfl (opv_assign rfl) ?_
  refine SO.nil ?_
  refine S.seq ?_
  refine S.region ?_
  refine SO.v rfl (opv_move rfl) ?_
  refine SO.v rfl (opv_move rfl) ?_
  obtain ⟨t9, ht10, h⟩ := opt_bind h
  refine SO.b1 ?_
  refine SO.openR fun raws1 A2 hrel3 hR4 => ?_
  refine SO.b2 ?_
  refine SO.openR fun raws5 A6 hrel7 hR8 => ?_
  refine SO.b1 ?_
  refine SO.b2 ?_
  refine SO.call (pre := [Box _ _, OwnO _ _ _ _ _ _, OwnO _ _ _ _ _ _]) rfl Try.call52 rfl rfl rfl (ref10_State_is.ct bp0 v0_Slots v0_Objs raws1 A2 raws5 A6 _ _ _ _ ht10) trivial ?_
  rintro _ _ ⟨rfl, rfl⟩
  refine SO.v rfl (opv_assign rfl) ?_
  refine SO.nil ?_
  refine S.seq ?_
  refine S.seq ?_
  refine S.region ?_
  refine SO.v rfl (opv_move rfl) ?_
  refine SO.v rfl (opv_not rfl) ?_
  refine SO.nil ?_
  rcases bool_or (!t9) with b11 | b11
  · replace h := cond_t b11 h
    refine S.condT rfl b11 ?_
    refine S.seq ?_
    refine S.region ?_
    refine SO.v rfl (opv_assign rfl) ?_
    refine SO.nil ?_
    refine S.to (ρ' := [(4, .int .i64 2)]) ⟨rfl, trivial⟩ ?_
    cases h
    refine S.b1 ?_
    refine S.closeR ?_
    refine S.b2 ?_
    refine S.closeR ?_
    refine S.b3 ?_
    refine S.b1 ?_
    refine S.b2 ?_
    refine S.b3 ?_
    exact S.ret1 Try.func21 rfl rfl (fun w hs hk => hR w _ _ ⟨v0_Slots, v0_Objs, rfl, rfl⟩ hs hk)
  · replace h := cond_f b11 h
    refine S.condF rfl b11 ?_
    refine S.skip ?_
    refine S.seq ?_
    refine S.seq ?_
    refine S.region ?_
    refine SO.v rfl (opv_move rfl) ?_
    refine SO.v rfl (opv_nilCheck rfl) ?_
    refine SO.v rfl (opv_fieldAddr Try.underlying76 rfl Try.sizeOf74 rfl rfl) ?_
    refine SO.load1 rfl Try.isAgg74 rfl rfl ?_
    refine SO.v rfl (opv_move rfl) ?_
    obtain ⟨x12, hx13, h⟩ := opt_bind h
    obtain ⟨r14, hr15, hc16⟩ := relR.at hrel7 hx13
    refine SO.v rfl (opv_idx Try.underlying74 Try.sizeOf72 hR8 rfl rfl hr15) ?_
    refine SO.v rfl (opv_fieldIdx Try.underlying72 rfl Try.sizeOf3 hR8 hr15 rfl rfl) ?_
    refine SO.loadI1 (j := 8) rfl Try.isAgg3 (Rd.tail (Rd.tail (Rd.head hR8))) hr15 rfl rfl rfl (hc16.val rfl) ?_
    refine SO.v rfl (opv_neq rfl rfl) ?_
    refine SO.nil ?_
    refine S.to (ρ' := [(0, bp bp0 0), (1, .int .i64 a1), (4, .int .i64 0), (19, .bool (x12.State != 0))]) ⟨rfl, rfl, rfl, rfl, trivial⟩ ?_
    rcases bool_or (x12.State != 0) with b17 | b17
    · replace h := cond_t b17 h
      refine S.condT rfl b17 ?_
      refine S.seq ?_
      refine S.region ?_
      refine SO.v rfl (opv_assign rfl) ?_
      refine SO.nil ?_
      cases h
      refine S.b1 ?_
      refine S.closeR ?_
      refine S.b2 ?_
      refine S.closeR ?_
      refine S.b3 ?_
      refine S.b1 ?_
      refine S.b2 ?_
      refine S.b3 ?_
      exact S.ret1 Try.func21 rfl rfl (fun w hs hk => hR w _ _ ⟨v0_Slots, v0_Objs, rfl, rfl⟩ hs hk)
    · replace h := cond_f b17 h
      refine S.condF rfl b17 ?_
      refine S.skip ?_
      refine S.seq ?_
      refine S.region ?_
      refine SO.v rfl (opv_move rfl) ?_
      refine SO.v rfl (opv_move rfl) ?_
      obtain ⟨p18, ht19, h⟩ := opt_bind h
      refine SO.b1 ?_
      refine SO.closeR ?_
      refine SO.b2 ?_
      refine SO.closeR ?_
      refine SO.b1 ?_
      refine SO.b2 ?_
      refine SO.call (pre := [Box _ _, OwnR _ _ _ _, OwnR _ _ _ _]) rfl Try.call54 rfl rfl rfl (ref10_State_Wake.ct bp0 v0_Slots v0_Objs _ _ _ _ _ ht19) trivial ?_
      rintro _ _ ⟨u20_Slots, u20_Objs, rfl, rfl⟩
      refine SO.nil ?_
      refine S.seq ?_
      refine S.region ?_
      refine SO.v rfl (opv_assign rfl) ?_
      refine SO.nil ?_
      cases h
      refine S.b3 ?_
      refine S.b3 ?_
      refine S.b3 ?_
      refine S.b3 ?_
      exact S.ret1 Try.func21 rfl rfl (fun w hs hk => hR w _ _ ⟨u20_Slots, u20_Objs, rfl, rfl⟩ hs hk)
end Go.Proofs
namespace Go.Proofs
open Go.Sl Go.RowKit
/-! 27 (*padstone/padstoneref10.State).Send -/
def ref10_State_Send.f (a0 : ref10_State) (a1 : Int) (a2 : Int) (a3 : Int) (a4 : Int) (a5 : Bool) : Option ((Bool × ref10_State)) :=
  (at_ a0.Objs a1).bind fun x1 => bif x1.Wait == 2 then ((ref10_State_pop.f a0 a1).bind fun (t11, p12) => (ref10_State_Wake.f p12 t11 a4 a3).bind fun p15 => (ref10_State_rest.f p15 a1).bind fun p18 => (bif a5 then ((ref10_State_owe.f p18 t11 a2).bind fun p22 => some (p22.Slots, p22.Objs, p22.NS, p22.NO)) else (some (p18.Slots, p18.Objs, p18.NS, p18.NO))).bind fun (yp0_0_1, yp0_1_1, yp0_2_1, yp0_3_1) => some (a5, (⟨yp0_0_1, yp0_1_1, yp0_2_1, yp0_3_1⟩ : ref10_State))) else ((bif a5 then (some 6) else (some 2)).bind fun j14_2 => (ref10_State_Block.f a0 a1 a2 j14_2).bind fun p26 => (at_ p26.Objs a2).bind fun x29 => (at_ (p26.Objs.set a2.toNat ({ x29 with Word := a4 } : ref10_Obj)) a2).bind fun x41 => (at_ ((p26.Objs.set a2.toNat ({ x29 with Word := a4 } : ref10_Obj)).set a2.toNat ({ x41 with Badge := a3 } : ref10_Obj)) a1).bind fun x49 => some (true, ({ p26 with Objs := ((p26.Objs.set a2.toNat ({ x29 with Word := a4 } : ref10_Obj)).set a2.toNat ({ x41 with Badge := a3 } : ref10_Obj)).set a1.toNat ({ x49 with Wait := 1 } : ref10_Obj) } : ref10_State)))
set_option maxHeartbeats 8000000 in
set_option maxRecDepth 100000 in
theorem ref10_State_Send.ct (bp0 : Nat) (v0_Slots : Value) (v0_Objs : Value) (a0 : ref10_State) (a1 : Int) (a2 : Int) (a3 : Int) (a4 : Int) (a5 : Bool) (r0 : Bool) (rp0 : ref10_State) (h : ref10_State_Send.f a0 a1 a2 a3 a4 a5 = some (r0, rp0)) :
    Ct Try.prog 27 [bp bp0 0, .int .i64 a1, .int .i64 a2, .int .i64 a3, .int .i64 a4, .bool a5] (fun _ => True) [Box bp0 [v0_Slots, v0_Objs, .int .i64 a0.NS, .int .i64 a0.NO], OwnR 81 kr_ref10_Slot v0_Slots a0.Slots, OwnR 72 kr_ref10_Obj v0_Objs a0.Objs] (fun u H' => ∃ rw0_Slots rw0_Objs, u = .bool r0 ∧ H' = [Box bp0 [rw0_Slots, rw0_Objs, .int .i64 rp0.NS, .int .i64 rp0.NO], OwnR 81 kr_ref10_Slot rw0_Slots rp0.Slots, OwnR 72 kr_ref10_Obj rw0_Objs rp0.Objs]) := by
  unfold ref10_State_Send.f at h
  refine Ct.intro (n := 70) Try.func27 rfl rfl rfl ?_
  intro R w0 F hF hR
  refine S.seq ?_
  refine S.region ?_
  refine SO.v rfl (opv_assign rfl) ?_
  refine SO.nil ?_
  refine S.seq ?_
  refine S.seq ?_
  refine S.region ?_
  refine SO.v rfl (opv_move rfl) ?_
  refine SO.v rfl (opv_nilCheck rfl) ?_
  refine SO.v rfl (opv_fieldAddr Try.underlying76 rfl Try.sizeOf74 rfl rfl) ?_
  refine SO.load1 rfl Try.isAgg74 rfl rfl ?_
  refine SO.v rfl (opv_move rfl) ?_
  refine SO.b2 ?_
  refine SO.openR fun raws6 A7 hrel8 hR9 => ?_
  obtain ⟨x1, hx2, h⟩ := opt_bind h
  obtain ⟨r3, hr4, hc5⟩ := relR.at hrel8 hx2
  refine SO.v rfl (opv_idx Try.underlying74 Try.sizeOf72 hR9 rfl rfl hr4) ?_
  refine SO.v rfl (opv_fieldIdx Try.underlying72 rfl Try.sizeOf3 hR9 hr4 rfl rfl) ?_
  refine SO.loadI1 (j := 5) rfl Try.isAgg3 (Rd.head hR9) hr4 rfl rfl rfl (hc5.val rfl) ?_
  refine SO.v rfl (opv_eql rfl rfl) ?_
  refine SO.nil ?_
  refine S.to (ρ' := [(0, bp bp0 0), (1, .int .i64 a1), (2, .int .i64 a2), (3, .int .i64 a3), (4, .int .i64 a4), (5, .bool a5), (12, .bool false), (23, .bool (x1.Wait == 2))]) ⟨rfl, rfl, rfl, rfl, rfl, rfl, rfl, rfl, trivial⟩ ?_
  rcases bool_or (x1.Wait == 2) with b10 | b10
  · replace h := cond_t b10 h
    refine S.condT rfl b10 ?_
    refine S.seq ?_
    refine S.region ?_
    refine SO.v rfl (opv_move rfl) ?_
    refine SO.v rfl (opv_move rfl) ?_
    obtain ⟨⟨t11, p12⟩, ht13, h⟩ := opt_bind h
    refine SO.closeR ?_
    refine SO.b2 ?_
    refine SO.b2 ?_
    refine SO.call (pre := [Box _ _, OwnR _ _ _ _, OwnR _ _ _ _]) rfl Try.call59 rfl rfl rfl (ref10_State_pop.ct bp0 v0_Slots v0_Objs _ _ _ _ ht13) trivial ?_
    rintro _ _ ⟨u14_Slots, u14_Objs, rfl, rfl⟩
    refine SO.v rfl (opv_assign rfl) ?_
    refine SO.nil ?_
    refine S.seq ?_
    refine S.region ?_
    refine SO.v rfl (opv_move rfl) ?_
    refine SO.v rfl (opv_move rfl) ?_
    refine SO.v rfl (opv_move rfl) ?_
    refine SO.v rfl (opv_move rfl) ?_
    obtain ⟨p15, ht16, h⟩ := opt_bind h
    refine SO.b2 ?_
    refine SO.b2 ?_
    refine SO.b2 ?_
    refine SO.call (pre := [Box _ _, OwnR _ _ _ _, OwnR _ _ _ _]) rfl Try.call54 rfl rfl rfl (ref10_State_Wake.ct bp0 u14_Slots u14_Objs _ _ _ _ _ ht16) trivial ?_
    rintro _ _ ⟨u17_Slots, u17_Objs, rfl, rfl⟩
    refine SO.nil ?_
    refine S.to (ρ' := [(0, bp bp0 0), (1, .int .i64 a1), (2, .int .i64 a2), (5, .bool a5), (12, .bool false), (13, .int .i64 t11)]) ⟨rfl, rfl, rfl, rfl, rfl, rfl, trivial⟩ ?_
    refine S.seq ?_
    refine S.region ?_
    refine SO.v rfl (opv_move rfl) ?_
    refine SO.v rfl (opv_move rfl) ?_
    obtain ⟨p18, ht19, h⟩ := opt_bind h
    refine SO.b2 ?_
    refine SO.b2 ?_
    refine SO.b2 ?_
    refine SO.call (pre := [Box _ _, OwnR _ _ _ _, OwnR _ _ _ _]) rfl Try.call60 rfl rfl rfl (ref10_State_rest.ct bp0 u17_Slots u17_Objs _ _ _ ht19) trivial ?_
    rintro _ _ ⟨u20_Slots, u20_Objs, rfl, rfl⟩
    refine SO.nil ?_
    refine S.seq ?_
    refine S.seq ?_
    refine S.region ?_
    refine SO.v rfl (opv_move rfl) ?_
    refine SO.nil ?_
    obtain ⟨⟨yp0_0_1, yp0_1_1, yp0_2_1, yp0_3_1⟩, hC1, hJ1⟩ := opt_bind h
    clear h
    refine S.cutP (G := (Value × Value)) (fun _ => True) (fun x => match x with | (vyp0_0_1, vyp0_1_1) => [(5, .bool a5), (12, .bool false)]) (fun x => match x with | (vyp0_0_1, vyp0_1_1) => [OwnR 72 kr_ref10_Obj vyp0_1_1 yp0_1_1, OwnR 81 kr_ref10_Slot vyp0_0_1 yp0_0_1, Box bp0 [vyp0_0_1, vyp0_1_1, .int .i64 yp0_2_1, .int .i64 yp0_3_1], F]) (fun hk1 => ?_) ?_
    · replace h := hC1
      rcases bool_or a5 with b21 | b21
      · replace h := cond_t b21 h
        refine S.condT rfl b21 ?_
        refine S.region ?_
        refine SO.v rfl (opv_move rfl) ?_
        refine SO.v rfl (opv_move rfl) ?_
        refine SO.v rfl (opv_move rfl) ?_
        obtain ⟨p22, ht23, h⟩ := opt_bind h
        refine SO.b2 ?_
        refine SO.b2 ?_
        refine SO.b2 ?_
        refine SO.call (pre := [Box _ _, OwnR _ _ _ _, OwnR _ _ _ _]) rfl Try.call61 rfl rfl rfl (ref10_State_owe.ct bp0 u20_Slots u20_Objs _ _ _ _ ht23) trivial ?_
        rintro _ _ ⟨u24_Slots, u24_Objs, rfl, rfl⟩
        refine SO.nil ?_
        refine S.to (ρ' := [(5, .bool a5), (12, .bool false)]) ⟨rfl, rfl, trivial⟩ ?_
        cases h
        refine S.b3 ?_
        refine S.b1 ?_
        refine S.b2 ?_
        refine S.b3 ?_
        refine S.to ?_ (hk1 (u24_Slots, u24_Objs) trivial)
        exact ⟨rfl, rfl, trivial⟩
      · replace h := cond_f b21 h
        refine S.condF rfl b21 ?_
        refine S.skip ?_
        cases h
        refine S.b3 ?_
        refine S.b1 ?_
        refine S.b2 ?_
        refine S.b3 ?_
        refine S.to ?_ (hk1 (u20_Slots, u20_Objs) trivial)
        exact ⟨rfl, rfl, trivial⟩
    rintro ⟨vyp0_0_1, vyp0_1_1⟩ -
    replace h := hJ1
    refine S.seq ?_
    refine S.region ?_
    refine SO.v rfl (opv_move rfl) ?_
    refine SO.v rfl (opv_assign rfl) ?_
    refine SO.nil ?_
    cases h
    refine S.b3 ?_
    refine S.b1 ?_
    refine S.b2 ?_
    refine S.b3 ?_
    exact S.ret1 Try.func27 rfl rfl (fun w hs hk => hR w _ _ ⟨vyp0_0_1, vyp0_1_1, rfl, rfl⟩ hs hk)
  · replace h := cond_f b10 h
    refine S.condF rfl b10 ?_
    refine S.skip ?_
    refine S.seq ?_
    refine S.region ?_
    refine SO.v rfl (opv_assign rfl) ?_
    refine SO.nil ?_
    refine S.seq ?_
    refine S.seq ?_
    refine S.region ?_
    refine SO.v rfl (opv_move rfl) ?_
    refine SO.nil ?_
    obtain ⟨j14_2, hC2, hJ2⟩ := opt_bind h
    clear h
    refine S.cutP (G := Unit) (fun _ => True) (fun _ => [(0, bp bp0 0), (1, .int .i64 a1), (2, .int .i64 a2), (3, .int .i64 a3), (4, .int .i64 a4), (12, .bool false), (14, .int .i64 j14_2)]) (fun _ => [OwnO 72 kr_ref10_Obj v0_Objs raws6 A7 a0.Objs, Box bp0 [v0_Slots, v0_Objs, .int .i64 a0.NS, .int .i64 a0.NO], OwnR 81 kr_ref10_Slot v0_Slots a0.Slots, F]) (fun hk2 => ?_) ?_
    · replace h := hC2
      rcases bool_or a5 with b25 | b25
      · replace h := cond_t b25 h
        refine S.condT rfl b25 ?_
        refine S.region ?_
        refine SO.v rfl (opv_assign rfl) ?_
        refine SO.nil ?_
        cases h
        refine S.b3 ?_
        refine S.b3 ?_
        refine S.b3 ?_
        refine S.b3 ?_
        refine S.to ?_ (hk2 () trivial)
        exact ⟨rfl, rfl, rfl, rfl, rfl, rfl, rfl, trivial⟩
      · replace h := cond_f b25 h
        refine S.condF rfl b25 ?_
        refine S.skip ?_
        cases h
        refine S.b3 ?_
        refine S.b3 ?_
        refine S.b3 ?_
        refine S.b3 ?_
        refine S.to ?_ (hk2 () trivial)
        exact ⟨rfl, rfl, rfl, rfl, rfl, rfl, rfl, trivial⟩
    rintro _ -
    replace h := hJ2
    refine S.seq ?_
    refine S.region ?_
    refine SO.v rfl (opv_move rfl) ?_
    refine SO.v rfl (opv_move rfl) ?_
    refine SO.v rfl (opv_move rfl) ?_
    refine SO.v rfl (opv_move rfl) ?_
    obtain ⟨p26, ht27, h⟩ := opt_bind h
    refine SO.closeR ?_
    refine SO.b2 ?_
    refine SO.b2 ?_
    refine SO.call (pre := [Box _ _, OwnR _ _ _ _, OwnR _ _ _ _]) rfl Try.call62 rfl rfl rfl (ref10_State_Block.ct bp0 v0_Slots v0_Objs _ _ _ _ _ ht27) trivial ?_
    rintro _ _ ⟨u28_Slots, u28_Objs, rfl, rfl⟩
    refine SO.nil ?_
    refine S.seq ?_
    refine S.region ?_
    refine SO.v rfl (opv_move rfl) ?_
    refine SO.v rfl (opv_nilCheck rfl) ?_
    refine SO.v rfl (opv_fieldAddr Try.underlying76 rfl Try.sizeOf74 rfl rfl) ?_
    refine SO.load1 rfl Try.isAgg74 rfl rfl ?_
    refine SO.v rfl (opv_move rfl) ?_
    refine SO.v rfl (opv_move rfl) ?_
    refine SO.b2 ?_
    refine SO.openR fun raws34 A35 hrel36 hR37 => ?_
    obtain ⟨x29, hx30, h⟩ := opt_bind h
    obtain ⟨r31, hr32, hc33⟩ := relR.at hrel36 hx30
    refine SO.v rfl (opv_idx Try.underlying74 Try.sizeOf72 hR37 rfl rfl hr32) ?_
    refine SO.v rfl (opv_fieldIdx Try.underlying72 rfl Try.sizeOf3 hR37 hr32 rfl rfl) ?_
    refine SO.storeO1 (j := 7) (q := .val (.int .i64 a4)) (z' := ({ x29 with Word := a4 } : ref10_Obj)) Try.sizeOf3 hrel36 hx30 rfl rfl rfl rfl rfl rfl rfl (fun raws38 hrel39 hR40 => ?_)
    refine SO.nil ?_
    refine S.to (ρ' := [(0, bp bp0 0), (1, .int .i64 a1), (2, .int .i64 a2), (3, .int .i64 a3), (12, .bool false)]) ⟨rfl, rfl, rfl, rfl, rfl, trivial⟩ ?_
    refine S.seq ?_
    refine S.region ?_
    refine SO.v rfl (opv_move rfl) ?_
    refine SO.v rfl (opv_nilCheck rfl) ?_
    refine SO.v rfl (opv_fieldAddr Try.underlying76 rfl Try.sizeOf74 rfl rfl) ?_
    refine SO.b1 ?_
    refine SO.load1 rfl Try.isAgg74 rfl rfl ?_
    refine SO.v rfl (opv_move rfl) ?_
    refine SO.v rfl (opv_move rfl) ?_
    obtain ⟨x41, hx42, h⟩ := opt_bind h
    obtain ⟨r43, hr44, hc45⟩ := relR.at hrel39 hx42
    refine SO.v rfl (opv_idx Try.underlying74 Try.sizeOf72 hR40 rfl rfl hr44) ?_
    refine SO.v rfl (opv_fieldIdx Try.underlying72 rfl Try.sizeOf3 hR40 hr44 rfl rfl) ?_
    refine SO.b1 ?_
    refine SO.storeO1 (j := 10) (q := .val (.int .i64 a3)) (z' := ({ x41 with Badge := a3 } : ref10_Obj)) Try.sizeOf3 hrel39 hx42 rfl rfl rfl rfl rfl rfl rfl (fun raws46 hrel47 hR48 => ?_)
    refine SO.nil ?_
    refine S.to (ρ' := [(0, bp bp0 0), (1, .int .i64 a1), (12, .bool false)]) ⟨rfl, rfl, rfl, trivial⟩ ?_
    refine S.seq ?_
    refine S.region ?_
    refine SO.v rfl (opv_move rfl) ?_
    refine SO.v rfl (opv_nilCheck rfl) ?_
    refine SO.v rfl (opv_fieldAddr Try.underlying76 rfl Try.sizeOf74 rfl rfl) ?_
    refine SO.b1 ?_
    refine SO.load1 rfl Try.isAgg74 rfl rfl ?_
    refine SO.v rfl (opv_move rfl) ?_
    obtain ⟨x49, hx50, h⟩ := opt_bind h
    obtain ⟨r51, hr52, hc53⟩ := relR.at hrel47 hx50
    refine SO.v rfl (opv_idx Try.underlying74 Try.sizeOf72 hR48 rfl rfl hr52) ?_
    refine SO.v rfl (opv_fieldIdx Try.underlying72 rfl Try.sizeOf3 hR48 hr52 rfl rfl) ?_
    refine SO.b1 ?_
    refine SO.storeO1 (j := 5) (q := .val (.int .i64 1)) (z' := ({ x49 with Wait := 1 } : ref10_Obj)) Try.sizeOf3 hrel47 hx50 rfl rfl rfl rfl rfl rfl rfl (fun raws54 hrel55 hR56 => ?_)
    refine SO.nil ?_
    refine S.to (ρ' := [(12, .bool false)]) ⟨rfl, trivial⟩ ?_
    refine S.seq ?_
    refine S.region ?_
    refine SO.v rfl (opv_assign rfl) ?_
    refine SO.nil ?_
    cases h
    refine S.closeR ?_
    refine S.b3 ?_
    refine S.b1 ?_
    refine S.b3 ?_
    refine S.b3 ?_
    exact S.ret1 Try.func27 rfl rfl (fun w hs hk => hR w _ _ ⟨u28_Slots, u28_Objs, rfl, rfl⟩ hs hk)
end Go.Proofs
namespace Go.Proofs
open Go.Sl Go.RowKit
/-! 72 padstone/padstoneref01.in -/
def ref01_in.f (a0 : Int) (a1 : Int) : Option (Bool) :=
  some ((decide (0 ≤ a0)) && (decide (a0 ≤ a1)))
set_option maxHeartbeats 8000000 in
set_option maxRecDepth 100000 in
theorem ref01_in.ct (a0 : Int) (a1 : Int) (r0 : Bool) (h : ref01_in.f a0 a1 = some r0) :
    Ct Try.prog 72 [.int .i64 a0, .int .i64 a1] (fun _ => True) [] (fun u H' => u = .bool r0 ∧ H' = []) := by
  unfold ref01_in.f at h
  refine Ct.intro (n := 12) Try.func72 rfl rfl rfl ?_
  intro R w0 F hF hR
  refine S.seq ?_
  refine S.region ?_
  refine SO.v rfl (opv_assign rfl) ?_
  refine SO.nil ?_
  refine S.seq ?_
  refine S.region ?_
  refine SO.v rfl (opv_move rfl) ?_
  refine SO.v rfl (opv_geq rfl rfl) ?_
  refine SO.v rfl (opv_move rfl) ?_
  refine SO.cut 4 11 (.bool ((decide (0 ≤ a0)) && (decide (a0 ≤ a1)))) [F] (fun l2 hk2 => ?_) ?_
  · rcases bool_or (decide (0 ≤ a0)) with b1 | b1
    · refine SO.takeT rfl rfl rfl b1 ?_
      refine SO.v rfl (opv_move rfl) ?_
      refine SO.takeT rfl rfl rfl b1 ?_
      refine SO.v rfl (opv_move rfl) ?_
      refine SO.takeT rfl rfl rfl b1 ?_
      refine SO.v rfl (opv_leq rfl rfl) ?_
      refine SO.v rfl (opv_pick_t' b1 rfl rfl) ?_
      exact hk2.fitc (m := 4) rfl (and_t b1) rfl
    · refine SO.passF rfl rfl rfl b1 rfl rfl ?_
      refine SO.passF rfl rfl rfl b1 rfl rfl ?_
      refine SO.passF rfl rfl rfl b1 rfl rfl ?_
      refine SO.v rfl (opv_pick_f' b1 rfl rfl) ?_
      exact hk2.fitc (m := 4) rfl (and_f b1) rfl
  refine SO.v rfl (opv_assign rfl) ?_
  refine SO.nil ?_
  cases h
  exact S.ret1 Try.func72 rfl rfl (fun w hs hk => hR w _ _ ⟨rfl, rfl⟩ hs hk)
end Go.Proofs
namespace Go.Proofs
open Go.Sl Go.RowKit
/-! 73 padstone/padstoneref01.two -/
def ref01_two.l1 (a0 : Int) : Nat → (Int × Int) → Option (Int)
  | 0, _ => none
  | k + 1, (x4_1, x3_1) => bif decide (x4_1 < a0) then (ref01_two.l1 a0 k (w64 (x4_1 + 1), w64 (2 * x3_1))) else (some x3_1)
def ref01_two.f (k : Nat) (a0 : Int) : Option (Int) :=
  (ref01_two.l1 a0 k (0, 1)).bind fun j3_e1 => some j3_e1
set_option maxHeartbeats 8000000 in
set_option maxRecDepth 100000 in
theorem ref01_two.ct (k : Nat) (a0 : Int) (r0 : Int) (h : ref01_two.f k a0 = some r0) :
    Ct Try.prog 73 [.int .i64 a0] (fun _ => True) [] (fun u H' => u = .int .i64 r0 ∧ H' = []) := by
  unfold ref01_two.f at h
  refine Ct.intro (n := 13) Try.func73 rfl rfl rfl ?_
  intro R w0 F hF hR
  refine S.seq ?_
  refine S.region ?_
  refine SO.v rfl (opv_assign rfl) ?_
  refine SO.nil ?_
  refine S.seq ?_
  refine S.region ?_
  refine SO.v rfl (opv_assign rfl) ?_
  refine SO.nil ?_
  refine S.seq ?_
  refine S.seq ?_
  refine S.region ?_
  refine SO.v rfl (opv_assign rfl) ?_
  refine SO.nil ?_
  obtain ⟨j3_e1, hl1, h⟩ := opt_bind h
  refine S.to (ρ' := [(4, .int .i64 0), (3, .int .i64 1), (2, .int .i64 0), (0, .int .i64 a0)]) ⟨rfl, rfl, rfl, rfl, trivial⟩ ?_
  refine S.forloop (X := (Int × Int) × Unit) (O := Int) (fun m x => ref01_two.l1 a0 m x.1) (fun x => match x with | ((x4_1, x3_1), _) => [(4, .int .i64 x4_1), (3, .int .i64 x3_1), (2, .int .i64 0), (0, .int .i64 a0)]) (fun x => match x with | ((x4_1, x3_1), _) => [F]) (fun Sk => (fun j3_e1 => ∀ _ : Unit, Sk [(2, .int .i64 0), (3, .int .i64 j3_e1)] [F])) (fun _ => rfl) ?_ (m := k) (x := ((0, 1), ())) hl1 ?_
  · clear h hl1
    intro k x o_1 h hK1 ih1
    obtain ⟨⟨x4_1, x3_1⟩, _⟩ := x
    replace h : ref01_two.l1 a0 (k + 1) (x4_1, x3_1) = some o_1 := h
    first | rw [ref01_two.l1] at h | unfold ref01_two.l1 at h
    refine S.seq ?_
    refine S.seq ?_
    refine S.region ?_
    refine SO.v rfl (opv_move rfl) ?_
    refine SO.v rfl (opv_move rfl) ?_
    refine SO.v rfl (opv_lss rfl rfl) ?_
    refine SO.nil ?_
    rcases bool_or (decide (x4_1 < a0)) with b1 | b1
    · replace h := cond_t b1 h
      refine S.condT rfl b1 ?_
      refine S.skip ?_
      refine S.seq ?_
      refine S.block ?_
      refine S.region ?_
      refine SO.v rfl (opv_move rfl) ?_
      refine SO.v rfl (opv_mul rfl rfl) ?_
      refine SO.v rfl (opv_assign rfl) ?_
      refine SO.nil ?_
      refine S.inBlock ?_
      refine S.region ?_
      refine SO.v rfl (opv_move rfl) ?_
      refine SO.v rfl (opv_add rfl rfl) ?_
      refine SO.v rfl (opv_assign rfl) ?_
      refine SO.nil ?_
      refine S.to (ρ' := [(4, .int .i64 (w64 (x4_1 + 1))), (3, .int .i64 (w64 (2 * x3_1))), (2, .int .i64 0), (0, .int .i64 a0)]) ⟨rfl, rfl, rfl, rfl, trivial⟩ ?_
      refine S.to ?_ (ih1 ((w64 (x4_1 + 1), w64 (2 * x3_1)), ()) h)
      exact ⟨rfl, rfl, rfl, rfl, trivial⟩
    · replace h := cond_f b1 h
      refine S.condF rfl b1 ?_
      refine S.exit rfl ?_
      cases h
      refine S.to ?_ (hK1 ())
      exact ⟨rfl, rfl, trivial⟩
  rintro _
  refine S.seq ?_
  refine S.region ?_
  refine SO.v rfl (opv_move rfl) ?_
  refine SO.v rfl (opv_assign rfl) ?_
  refine SO.nil ?_
  cases h
  exact S.ret1 Try.func73 rfl rfl (fun w hs hk => hR w _ _ ⟨rfl, rfl⟩ hs hk)
end Go.Proofs
