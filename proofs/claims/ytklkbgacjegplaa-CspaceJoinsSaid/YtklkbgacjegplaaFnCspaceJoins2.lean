/- What the functions that CspaceJoins reaches come to, and that they do. On no condition. -/
import Derived.Test.YtklkbgacjegplaaFnCspaceJoins0
import Derived.Test.YtklkbgacjegplaaFnCspaceJoins1
set_option linter.all false
namespace Go.Proofs
open Go.Sl Go.RowKit
/-! 7 padstone/padstonelaw11.up -/
def law11_up.f (k : Nat) : Option (Bool) :=
  (ref10_Boot.f k 1).bind fun t1 => (ref10_State_Words.f k t1).bind fun t5 => (at_ t1.Objs 0).bind fun x9 => (VM.run plainI (cspace_Lookup.f k x9.Root 3) t5).bind fun ((t18, t19), s21) => (at_ t1.Objs 0).bind fun x23 => (VM.run plainI (cspace_Lookup.f k x23.Root 256) s21).bind fun ((t28, t29), s31) => (VM.run plainI (cspace_Cap.f k 9) s31).bind fun (t33, s35) => (bif (((t18 == 11) && t19.isNone) && (t29 == some 3)) && (t33.Kind == 3) then ((at_ t1.Objs 0).bind fun x46 => (VM.run plainI (cspace_Fine.f x46.Root) s35).bind fun (t51, s53) => some (t51, s53)) else (some (false, s35))).bind fun (c42, w44) => (bif c42 then ((VM.run plainI (cspace_Fine.f t33) w44).bind fun (t60, s62) => some (!t60, s62)) else (some (false, w44))).bind fun (c56, w58) => some c56
set_option maxHeartbeats 8000000 in
set_option maxRecDepth 100000 in
theorem law11_up.ct (k : Nat) (r0 : Bool) (h : law11_up.f k  = some r0) :
    Ct Try.prog 7 [] (fun _ => True) [] (fun u H' => u = .bool r0 ∧ H' = []) := by
  unfold law11_up.f at h
  refine Ct.intro (n := 75) Try.func7 rfl rfl rfl ?_
  intro R w0 F hF hR
  refine S.seq ?_
  refine S.region ?_
  refine SO.v rfl (opv_assign rfl) ?_
  refine SO.nil ?_
  refine S.seq ?_
  refine S.region ?_
  obtain ⟨t1, ht2, h⟩ := opt_bind h
  refine SO.call (pre := []) rfl Try.call10 rfl rfl rfl (ref10_Boot.ct _ _ _ ht2) trivial ?_
  rintro _ _ ⟨b3, u4_Slots, u4_Objs, rfl, rfl⟩
  refine SO.v rfl (opv_assign rfl) ?_
  refine SO.nil ?_
  refine S.seq ?_
  refine S.region ?_
  refine SO.v rfl (opv_move rfl) ?_
  obtain ⟨t5, ht6, h⟩ := opt_bind h
  refine SO.b2 ?_
  refine SO.b2 ?_
  refine SO.b2 ?_
  refine SO.call (pre := [Box _ _, OwnR _ _ _ _, OwnR _ _ _ _]) rfl Try.call11 rfl rfl rfl (ref10_State_Words.ct _ b3 u4_Slots u4_Objs _ _ ht6) trivial ?_
  rintro v7 _ ⟨_, rfl, rfl⟩
  refine SO.rd fun hr8 => ?_
  refine SO.v rfl (opv_assign rfl) ?_
  refine SO.nil ?_
  refine S.seq ?_
  refine S.region ?_
  refine SO.v rfl (opv_move rfl) ?_
  refine SO.v rfl (opv_iface Try.underlying26 rfl rfl) ?_
  refine SO.v rfl (opv_move rfl) ?_
  refine SO.v rfl (opv_nilCheck rfl) ?_
  refine SO.v rfl (opv_fieldAddr Try.underlying42 rfl Try.sizeOf40 rfl rfl) ?_
  refine SO.b1 ?_
  refine SO.load1 rfl Try.isAgg40 rfl rfl ?_
  refine SO.b3 ?_
  refine SO.openR fun raws14 A15 hrel16 hR17 => ?_
  obtain ⟨x9, hx10, h⟩ := opt_bind h
  obtain ⟨r11, hr12, hc13⟩ := relR.at hrel16 hx10
  refine SO.v rfl (opv_idx Try.underlying40 Try.sizeOf38 hR17 rfl rfl hr12) ?_
  refine SO.v rfl (opv_fieldIdx Try.underlying38 rfl Try.sizeOf24 hR17 hr12 rfl rfl) ?_
  refine SO.loadIP (j := 14) rfl Try.isAgg24 Try.sizeOf24 (Rd.head hR17) hr12 rfl rfl rfl (hc13.part (vs := [.int .i64 x9.Root.Kind, .int .i64 x9.Root.Rights, .int .i64 x9.Root.Obj, .int .i64 x9.Root.Badge, .int .i64 x9.Root.Guard, .int .i64 x9.Root.Bits]) rfl) ?_
  obtain ⟨⟨⟨t18, t19⟩, s21⟩, ht20, h⟩ := opt_bind h
  refine SO.b2 ?_
  refine SO.call (pre := [(plainV v7).rep _]) rfl Try.call8 rfl rfl rfl (cspace_Lookup.ct (plainV v7) _ _ _ _ _ _ _ ht20) trivial ?_
  rintro _ _ ⟨rfl, rfl⟩
  refine headEq (plainV_rep _ _) ?_
  refine SO.rd fun hr22 => ?_
  refine SO.v rfl (opv_move rfl) ?_
  refine SO.v rfl (opv_extract rfl rfl) ?_
  refine SO.v rfl (opv_extract rfl rfl) ?_
  refine SO.v rfl (opv_assign rfl) ?_
  refine SO.v rfl (opv_assign rfl) ?_
  refine SO.nil ?_
  refine S.to (ρ' := [(0, .bool false), (1, bp b3 0), (2, v7), (3, .int .i64 t18), (4, errV 61 t19)]) ⟨rfl, rfl, rfl, rfl, rfl, trivial⟩ ?_
  refine S.seq ?_
  refine S.region ?_
  refine SO.v rfl (opv_move rfl) ?_
  refine SO.v rfl (opv_iface Try.underlying26 rfl rfl) ?_
  refine SO.v rfl (opv_move rfl) ?_
  refine SO.v rfl (opv_nilCheck rfl) ?_
  refine SO.v rfl (opv_fieldAddr Try.underlying42 rfl Try.sizeOf40 rfl rfl) ?_
  refine SO.b2 ?_
  refine SO.load1 rfl Try.isAgg40 rfl rfl ?_
  obtain ⟨x23, hx24, h⟩ := opt_bind h
  obtain ⟨r25, hr26, hc27⟩ := relR.at hrel16 hx24
  refine SO.v rfl (opv_idx Try.underlying40 Try.sizeOf38 hR17 rfl rfl hr26) ?_
  refine SO.v rfl (opv_fieldIdx Try.underlying38 rfl Try.sizeOf24 hR17 hr26 rfl rfl) ?_
  refine SO.loadIP (j := 14) rfl Try.isAgg24 Try.sizeOf24 (Rd.tail (Rd.tail (Rd.head hR17))) hr26 rfl rfl rfl (hc27.part (vs := [.int .i64 x23.Root.Kind, .int .i64 x23.Root.Rights, .int .i64 x23.Root.Obj, .int .i64 x23.Root.Badge, .int .i64 x23.Root.Guard, .int .i64 x23.Root.Bits]) rfl) ?_
  obtain ⟨⟨⟨t28, t29⟩, s31⟩, ht30, h⟩ := opt_bind h
  refine SO.b1 ?_
  refine SO.call (pre := [(plainV v7).rep _]) rfl Try.call8 rfl rfl rfl (cspace_Lookup.ct (plainV v7) _ _ _ _ _ _ _ ht30) trivial ?_
  rintro _ _ ⟨rfl, rfl⟩
  refine headEq (plainV_rep _ _) ?_
  refine SO.rd fun hr32 => ?_
  refine SO.v rfl (opv_move rfl) ?_
  refine SO.v rfl (opv_extract rfl rfl) ?_
  refine SO.v rfl (opv_extract rfl rfl) ?_
  refine SO.v rfl (opv_assign rfl) ?_
  refine SO.v rfl (opv_assign rfl) ?_
  refine SO.nil ?_
  refine S.to (ρ' := [(0, .bool false), (1, bp b3 0), (2, v7), (3, .int .i64 t18), (4, errV 61 t19), (6, errV 61 t29)]) ⟨rfl, rfl, rfl, rfl, rfl, rfl, trivial⟩ ?_
  refine S.seq ?_
  refine S.region ?_
  refine SO.v rfl (opv_move rfl) ?_
  refine SO.v rfl (opv_iface Try.underlying26 rfl rfl) ?_
  obtain ⟨⟨t33, s35⟩, ht34, h⟩ := opt_bind h
  refine SO.call (pre := [(plainV v7).rep _]) rfl Try.call22 rfl rfl rfl (cspace_Cap.ct (plainV v7) _ _ _ _ _ ht34) trivial ?_
  rintro _ _ ⟨rfl, rfl⟩
  refine headEq (plainV_rep _ _) ?_
  refine SO.rd fun hr36 => ?_
  refine SO.alloc rfl Try.zeroValue24 rfl (fun b37 => ?_)
  refine SO.storeN Try.sizeOf24 rfl rfl rfl rfl rfl rfl ?_
  refine SO.nil ?_
  refine S.seq ?_
  refine S.region ?_
  refine SO.v rfl (opv_move rfl) ?_
  refine SO.v rfl (opv_eql rfl rfl) ?_
  refine SO.v rfl (opv_move rfl) ?_
  refine SO.cut 3 45 (.bool ((t18 == 11) && t19.isNone)) [Box b37 [.int .i64 t33.Kind, .int .i64 t33.Rights, .int .i64 t33.Obj, .int .i64 t33.Badge, .int .i64 t33.Guard, .int .i64 t33.Bits], Own 72 (ekI .u64) v7 s35, Box b3 [u4_Slots, u4_Objs, .int .i64 t1.NS, .int .i64 t1.NO], OwnO 38 kr_ref10_Obj u4_Objs raws14 A15 t1.Objs, OwnR 71 kr_ref10_Slot u4_Slots t1.Slots, F] (fun l2 hk2 => ?_) ?_
  · rcases bool_or (t18 == 11) with b38 | b38
    · refine SO.takeT rfl rfl rfl b38 ?_
      refine SO.v rfl (opv_move rfl) ?_
      refine SO.takeT rfl rfl rfl b38 ?_
      refine SO.v rfl (opv_eqlN (e := t19) Try.underlying28 rfl) ?_
      refine SO.v rfl (opv_pick_t' b38 rfl rfl) ?_
      refine SO.b5 ?_
      refine SO.b5 ?_
      refine SO.b5 ?_
      refine SO.b5 ?_
      refine SO.b5 ?_
      refine SO.b5 ?_
      exact hk2.fitc (m := 3) rfl (and_t b38) rfl
    · refine SO.passF rfl rfl rfl b38 rfl rfl ?_
      refine SO.passF rfl rfl rfl b38 rfl rfl ?_
      refine SO.v rfl (opv_pick_f' b38 rfl rfl) ?_
      refine SO.b5 ?_
      refine SO.b5 ?_
      refine SO.b5 ?_
      refine SO.b5 ?_
      refine SO.b5 ?_
      refine SO.b5 ?_
      exact hk2.fitc (m := 3) rfl (and_f b38) rfl
  refine SO.v rfl (opv_move rfl) ?_
  refine SO.cut 4 50 (.bool (((t18 == 11) && t19.isNone) && (t29 == some 3))) [Box b37 [.int .i64 t33.Kind, .int .i64 t33.Rights, .int .i64 t33.Obj, .int .i64 t33.Badge, .int .i64 t33.Guard, .int .i64 t33.Bits], Own 72 (ekI .u64) v7 s35, Box b3 [u4_Slots, u4_Objs, .int .i64 t1.NS, .int .i64 t1.NO], OwnO 38 kr_ref10_Obj u4_Objs raws14 A15 t1.Objs, OwnR 71 kr_ref10_Slot u4_Slots t1.Slots, F] (fun l2 hk2 => ?_) ?_
  · rcases bool_or ((t18 == 11) && t19.isNone) with b39 | b39
    · refine SO.takeT rfl rfl rfl b39 ?_
      refine SO.v rfl (opv_move rfl) ?_
      refine SO.takeT rfl rfl rfl b39 ?_
      refine SO.v rfl (opv_iface Try.underlying61 rfl rfl) ?_
      refine SO.takeT rfl rfl rfl b39 ?_
      refine SO.v rfl (opv_eqlE (e := t29) (c := 3) Try.underlying28 Try.underlying61 inf61 rfl rfl rfl) ?_
      refine SO.v rfl (opv_pick_t' b39 rfl rfl) ?_
      refine SO.b5 ?_
      refine SO.b5 ?_
      refine SO.b5 ?_
      refine SO.b5 ?_
      refine SO.b5 ?_
      refine SO.b5 ?_
      exact hk2.fitc (m := 4) rfl (and_t b39) rfl
    · refine SO.passF rfl rfl rfl b39 rfl rfl ?_
      refine SO.passF rfl rfl rfl b39 rfl rfl ?_
      refine SO.passF rfl rfl rfl b39 rfl rfl ?_
      refine SO.v rfl (opv_pick_f' b39 rfl rfl) ?_
      refine SO.b5 ?_
      refine SO.b5 ?_
      refine SO.b5 ?_
      refine SO.b5 ?_
      refine SO.b5 ?_
      refine SO.b5 ?_
      exact hk2.fitc (m := 4) rfl (and_f b39) rfl
  refine SO.v rfl (opv_move rfl) ?_
  refine SO.cut 4 55 (.bool ((((t18 == 11) && t19.isNone) && (t29 == some 3)) && (t33.Kind == 3))) [Box b37 [.int .i64 t33.Kind, .int .i64 t33.Rights, .int .i64 t33.Obj, .int .i64 t33.Badge, .int .i64 t33.Guard, .int .i64 t33.Bits], Own 72 (ekI .u64) v7 s35, Box b3 [u4_Slots, u4_Objs, .int .i64 t1.NS, .int .i64 t1.NO], OwnO 38 kr_ref10_Obj u4_Objs raws14 A15 t1.Objs, OwnR 71 kr_ref10_Slot u4_Slots t1.Slots, F] (fun l2 hk2 => ?_) ?_
  · rcases bool_or (((t18 == 11) && t19.isNone) && (t29 == some 3)) with b40 | b40
    · refine SO.takeT rfl rfl rfl b40 ?_
      refine SO.v rfl (opv_fieldAddr Try.underlying24 rfl Try.sizeOf3 rfl rfl) ?_
      refine SO.takeT rfl rfl rfl b40 ?_
      refine SO.load1 rfl Try.isAgg3 rfl rfl ?_
      refine SO.takeT rfl rfl rfl b40 ?_
      refine SO.v rfl (opv_eql rfl rfl) ?_
      refine SO.v rfl (opv_pick_t' b40 rfl rfl) ?_
      refine SO.b5 ?_
      refine SO.b5 ?_
      refine SO.b5 ?_
      refine SO.b5 ?_
      refine SO.b5 ?_
      refine SO.b5 ?_
      exact hk2.fitc (m := 4) rfl (and_t b40) rfl
    · refine SO.passF rfl rfl rfl b40 rfl rfl ?_
      refine SO.passF rfl rfl rfl b40 rfl rfl ?_
      refine SO.passF rfl rfl rfl b40 rfl rfl ?_
      refine SO.v rfl (opv_pick_f' b40 rfl rfl) ?_
      refine SO.b5 ?_
      refine SO.b5 ?_
      refine SO.b5 ?_
      refine SO.b5 ?_
      refine SO.b5 ?_
      refine SO.b5 ?_
      exact hk2.fitc (m := 4) rfl (and_f b40) rfl
  refine SO.v rfl (opv_move rfl) ?_
  obtain ⟨⟨c42, w44⟩, hc43, hgk⟩ := opt_bind h
  refine SO.cut 11 67 (.bool c42) [Box b37 [.int .i64 t33.Kind, .int .i64 t33.Rights, .int .i64 t33.Obj, .int .i64 t33.Badge, .int .i64 t33.Guard, .int .i64 t33.Bits], Own 72 (ekI .u64) v7 w44, Box b3 [u4_Slots, u4_Objs, .int .i64 t1.NS, .int .i64 t1.NO], OwnO 38 kr_ref10_Obj u4_Objs raws14 A15 t1.Objs, OwnR 71 kr_ref10_Slot u4_Slots t1.Slots, F] (fun l2 hk2 => ?_) ?_
  · clear hgk
    replace h := hc43
    rcases bool_or ((((t18 == 11) && t19.isNone) && (t29 == some 3)) && (t33.Kind == 3)) with b41 | b41
    · replace h := cond_t b41 h
      refine SO.takeT rfl rfl rfl b41 ?_
      refine SO.v rfl (opv_move rfl) ?_
      refine SO.takeT rfl rfl rfl b41 ?_
      refine SO.v rfl (opv_iface Try.underlying26 rfl rfl) ?_
      refine SO.takeT rfl rfl rfl b41 ?_
      refine SO.v rfl (opv_move rfl) ?_
      refine SO.takeT rfl rfl rfl b41 ?_
      refine SO.v rfl (opv_nilCheck rfl) ?_
      refine SO.takeT rfl rfl rfl b41 ?_
      refine SO.v rfl (opv_fieldAddr Try.underlying42 rfl Try.sizeOf40 rfl rfl) ?_
      refine SO.takeT rfl rfl rfl b41 ?_
      refine SO.b2 ?_
      refine SO.load1 rfl Try.isAgg40 rfl rfl ?_
      refine SO.takeT rfl rfl rfl b41 ?_
      obtain ⟨x46, hx47, h⟩ := opt_bind h
      obtain ⟨r48, hr49, hc50⟩ := relR.at hrel16 hx47
      refine SO.v rfl (opv_idx Try.underlying40 Try.sizeOf38 hR17 rfl rfl hr49) ?_
      refine SO.takeT rfl rfl rfl b41 ?_
      refine SO.v rfl (opv_fieldIdx Try.underlying38 rfl Try.sizeOf24 hR17 hr49 rfl rfl) ?_
      refine SO.takeT rfl rfl rfl b41 ?_
      refine SO.loadIP (j := 14) rfl Try.isAgg24 Try.sizeOf24 (Rd.tail (Rd.tail (Rd.tail (Rd.head hR17)))) hr49 rfl rfl rfl (hc50.part (vs := [.int .i64 x46.Root.Kind, .int .i64 x46.Root.Rights, .int .i64 x46.Root.Obj, .int .i64 x46.Root.Badge, .int .i64 x46.Root.Guard, .int .i64 x46.Root.Bits]) rfl) ?_
      refine SO.takeT rfl rfl rfl b41 ?_
      obtain ⟨⟨t51, s53⟩, ht52, h⟩ := opt_bind h
      refine SO.b2 ?_
      refine SO.call (pre := [(plainV v7).rep _]) rfl Try.call9 rfl rfl rfl (cspace_Fine.ct (plainV v7) _ _ _ _ ht52) trivial ?_
      rintro _ _ ⟨rfl, rfl⟩
      refine headEq (plainV_rep _ _) ?_
      refine SO.rd fun hr54 => ?_
      cases h
      refine SO.v rfl (opv_pick_t' b41 rfl rfl) ?_
      refine SO.b5 ?_
      refine SO.b5 ?_
      refine SO.b5 ?_
      refine SO.b4 ?_
      refine SO.b4 ?_
      refine SO.b5 ?_
      exact hk2.fitc (m := 11) rfl (rfl) rfl
    · replace h := cond_f b41 h
      refine SO.passF rfl rfl rfl b41 rfl rfl ?_
      refine SO.passF rfl rfl rfl b41 rfl rfl ?_
      refine SO.passF rfl rfl rfl b41 rfl rfl ?_
      refine SO.passF rfl rfl rfl b41 rfl rfl ?_
      refine SO.passF rfl rfl rfl b41 rfl rfl ?_
      refine SO.passF rfl rfl rfl b41 rfl rfl ?_
      refine SO.passF rfl rfl rfl b41 rfl rfl ?_
      refine SO.passF rfl rfl rfl b41 rfl rfl ?_
      refine SO.passF rfl rfl rfl b41 rfl rfl ?_
      refine SO.passF rfl rfl rfl b41 rfl rfl ?_
      cases h
      refine SO.v rfl (opv_pick_f' b41 rfl rfl) ?_
      refine SO.b5 ?_
      refine SO.b5 ?_
      refine SO.b5 ?_
      refine SO.b5 ?_
      refine SO.b5 ?_
      refine SO.b5 ?_
      exact hk2.fitc (m := 11) rfl (rfl) rfl
  clear hc43
  replace h := hgk
  refine SO.b1 ?_
  refine SO.rd fun hr45 => ?_
  refine SO.v rfl (opv_move rfl) ?_
  obtain ⟨⟨c56, w58⟩, hc57, hgk⟩ := opt_bind h
  refine SO.cut 6 74 (.bool c56) [Own 72 (ekI .u64) v7 w58, Box b37 [.int .i64 t33.Kind, .int .i64 t33.Rights, .int .i64 t33.Obj, .int .i64 t33.Badge, .int .i64 t33.Guard, .int .i64 t33.Bits], Box b3 [u4_Slots, u4_Objs, .int .i64 t1.NS, .int .i64 t1.NO], OwnO 38 kr_ref10_Obj u4_Objs raws14 A15 t1.Objs, OwnR 71 kr_ref10_Slot u4_Slots t1.Slots, F] (fun l2 hk2 => ?_) ?_
  · clear hgk
    replace h := hc57
    rcases bool_or c42 with b55 | b55
    · replace h := cond_t b55 h
      refine SO.takeT rfl rfl rfl b55 ?_
      refine SO.v rfl (opv_move rfl) ?_
      refine SO.takeT rfl rfl rfl b55 ?_
      refine SO.v rfl (opv_iface Try.underlying26 rfl rfl) ?_
      refine SO.takeT rfl rfl rfl b55 ?_
      refine SO.b1 ?_
      refine SO.loadN rfl Try.isAgg24 Try.sizeOf24 rfl rfl rfl ?_
      refine SO.takeT rfl rfl rfl b55 ?_
      obtain ⟨⟨t60, s62⟩, ht61, h⟩ := opt_bind h
      refine SO.b1 ?_
      refine SO.call (pre := [(plainV v7).rep _]) rfl Try.call9 rfl rfl rfl (cspace_Fine.ct (plainV v7) _ _ _ _ ht61) trivial ?_
      rintro _ _ ⟨rfl, rfl⟩
      refine headEq (plainV_rep _ _) ?_
      refine SO.rd fun hr63 => ?_
      refine SO.takeT rfl rfl rfl b55 ?_
      refine SO.v rfl (opv_not rfl) ?_
      cases h
      refine SO.v rfl (opv_pick_t' b55 rfl rfl) ?_
      refine SO.b5 ?_
      refine SO.b5 ?_
      refine SO.b5 ?_
      refine SO.b5 ?_
      refine SO.b5 ?_
      refine SO.b5 ?_
      exact hk2.fitc (m := 6) rfl (rfl) rfl
    · replace h := cond_f b55 h
      refine SO.passF rfl rfl rfl b55 rfl rfl ?_
      refine SO.passF rfl rfl rfl b55 rfl rfl ?_
      refine SO.passF rfl rfl rfl b55 rfl rfl ?_
      refine SO.passF rfl rfl rfl b55 rfl rfl ?_
      refine SO.passF rfl rfl rfl b55 rfl rfl ?_
      cases h
      refine SO.v rfl (opv_pick_f' b55 rfl rfl) ?_
      refine SO.b5 ?_
      refine SO.b5 ?_
      refine SO.b5 ?_
      refine SO.b5 ?_
      refine SO.b5 ?_
      refine SO.b5 ?_
      exact hk2.fitc (m := 6) rfl (rfl) rfl
  clear hc57
  replace h := hgk
  refine SO.rd fun hr59 => ?_
  refine SO.v rfl (opv_assign rfl) ?_
  refine SO.nil ?_
  refine S.to (ρ' := [(0, .bool c56)]) ⟨rfl, trivial⟩ ?_
  cases h
  refine S.b3 ?_
  refine S.closeR ?_
  refine S.drop ?_
  refine S.drop ?_
  refine S.drop ?_
  refine S.drop ?_
  refine S.drop ?_
  exact S.ret1 Try.func7 rfl rfl (fun w hs hk => hR w _ _ ⟨rfl, rfl⟩ hs hk)
end Go.Proofs
namespace Go.Proofs
open Go.Sl Go.RowKit
/-! 3 padstone/padstonelaw11.CspaceJoins -/
def law11_CspaceJoins.f (k : Nat) (a0 : List Int) (a1 : api_Cap) (a2 : Int) (a3 : Int) : Option (Bool) :=
  (law11_up.f k ).bind fun t2 => bif decide (738 < (a0.length : Int)) then (some t2) else ((mk_ 0 738).bind fun xs7 => (VM.run plainI (cspace_Lookup.f k a1 a2) (cpy xs7 a0)).bind fun ((t10, t11), s13) => (bif t11.isNone then ((bif (decide (t10 < 0)) || (decide (95 < t10)) then (some (true, s13)) else ((VM.run plainI (cspace_Fine.f a1) s13).bind fun (t26, s28) => some (!t26, s28))).bind fun (c22, w24) => some (c22, w24)) else (some (false, s13))).bind fun (c16, w18) => bif c16 then (some false) else ((ref10_Boot.f k 2).bind fun t31 => (ref10_State_Words.f k t31).bind fun t35 => (at_ t31.Objs 0).bind fun x39 => (VM.run plainI (cspace_Lookup.f k x39.Root a3) t35).bind fun ((t48, t49), s51) => bif (decide (a3 < 0)) || (decide (31 < a3)) then (some (t2 && t49.isSome)) else (some ((t2 && t49.isNone) && (t48 == (w64 (8 + a3)))))))
set_option maxHeartbeats 8000000 in
set_option maxRecDepth 100000 in
theorem law11_CspaceJoins.ct (k : Nat) (v0 : Value) (a0 : List Int) (a1 : api_Cap) (a2 : Int) (a3 : Int) (r0 : Bool) (h : law11_CspaceJoins.f k a0 a1 a2 a3 = some r0) :
    Ct Try.prog 3 [v0, .agg #[.int .i64 a1.Kind, .int .i64 a1.Rights, .int .i64 a1.Obj, .int .i64 a1.Badge, .int .i64 a1.Guard, .int .i64 a1.Bits], .int .i64 a2, .int .i64 a3] (fun F => Rd (ekI .u64) v0 a0 F) [] (fun u H' => u = .bool r0 ∧ H' = []) := by
  unfold law11_CspaceJoins.f at h
  refine Ct.intro (n := 90) Try.func3 rfl rfl rfl ?_
  intro R w0 F hF hR
  have hF0 := hF
  refine S.seq ?_
  refine S.region ?_
  refine SO.box rfl rfl rfl (fun b1 => ?_)
  refine SO.v rfl (opv_assign rfl) ?_
  refine SO.nil ?_
  refine S.seq ?_
  refine S.region ?_
  obtain ⟨t2, ht3, h⟩ := opt_bind h
  refine SO.call (pre := []) rfl Try.call7 rfl rfl rfl (law11_up.ct _ _ ht3) trivial ?_
  rintro _ _ ⟨rfl, rfl⟩
  refine SO.v rfl (opv_assign rfl) ?_
  refine SO.nil ?_
  refine S.seq ?_
  refine S.seq ?_
  refine S.region ?_
  refine SO.v rfl (opv_move rfl) ?_
  refine SO.v rfl (opv_lenR rfl Try.underlying22 hF0 rfl) ?_
  refine SO.v rfl (opv_gtr rfl rfl) ?_
  refine SO.nil ?_
  rcases bool_or (decide (738 < (a0.length : Int))) with b4 | b4
  · replace h := cond_t b4 h
    refine S.condT rfl b4 ?_
    refine S.seq ?_
    refine S.region ?_
    refine SO.v rfl (opv_move rfl) ?_
    refine SO.v rfl (opv_assign rfl) ?_
    refine SO.nil ?_
    cases h
    refine S.drop ?_
    exact S.ret1 Try.func3 rfl rfl (fun w hs hk => hR w _ _ ⟨rfl, rfl⟩ hs hk)
  · replace h := cond_f b4 h
    refine S.condF rfl b4 ?_
    refine S.skip ?_
    refine S.seq ?_
    refine S.region ?_
    obtain ⟨xs7, hx8, h⟩ := opt_bind h
    refine SO.makeSlice (K := ekI .u64) rfl Try.underlying22 inf72 rfl rfl rfl (by decide) rfl rfl rfl hx8 (fun v5 hr6 => ?_)
    refine SO.v rfl (opv_assign rfl) ?_
    refine SO.nil ?_
    refine S.seq ?_
    refine S.region ?_
    refine SO.v rfl (opv_move rfl) ?_
    refine SO.v rfl (opv_move rfl) ?_
    refine SO.copy rfl Try.underlying26 Try.sizeOf72 rfl rfl (Rd.tail (Rd.head hF0)) ?_
    refine SO.rd fun hr9 => ?_
    refine SO.nil ?_
    refine S.to (ρ' := [(2, .int .i64 a2), (3, .int .i64 a3), (5, bp b1 0), (8, .bool false), (9, .bool t2), (10, v5)]) ⟨rfl, rfl, rfl, rfl, rfl, rfl, trivial⟩ ?_
    refine S.seq ?_
    refine S.region ?_
    refine SO.v rfl (opv_move rfl) ?_
    refine SO.v rfl (opv_iface Try.underlying26 rfl rfl) ?_
    refine SO.b1 ?_
    refine SO.loadN rfl Try.isAgg24 Try.sizeOf24 rfl rfl rfl ?_
    refine SO.v rfl (opv_move rfl) ?_
    obtain ⟨⟨⟨t10, t11⟩, s13⟩, ht12, h⟩ := opt_bind h
    refine SO.b1 ?_
    refine SO.call (pre := [(plainV v5).rep _]) rfl Try.call8 rfl rfl rfl (cspace_Lookup.ct (plainV v5) _ _ _ _ _ _ _ ht12) trivial ?_
    rintro _ _ ⟨rfl, rfl⟩
    refine headEq (plainV_rep _ _) ?_
    refine SO.rd fun hr14 => ?_
    refine SO.v rfl (opv_move rfl) ?_
    refine SO.v rfl (opv_extract rfl rfl) ?_
    refine SO.v rfl (opv_extract rfl rfl) ?_
    refine SO.v rfl (opv_assign rfl) ?_
    refine SO.v rfl (opv_assign rfl) ?_
    refine SO.nil ?_
    refine S.to (ρ' := [(3, .int .i64 a3), (5, bp b1 0), (8, .bool false), (9, .bool t2), (10, v5), (11, .int .i64 t10), (12, errV 61 t11)]) ⟨rfl, rfl, rfl, rfl, rfl, rfl, rfl, trivial⟩ ?_
    refine S.seq ?_
    refine S.seq ?_
    refine S.region ?_
    refine SO.v rfl (opv_move rfl) ?_
    refine SO.v rfl (opv_eqlN (e := t11) Try.underlying28 rfl) ?_
    refine SO.v rfl (opv_move rfl) ?_
    obtain ⟨⟨c16, w18⟩, hc17, hgk⟩ := opt_bind h
    refine SO.cut 14 50 (.bool c16) [Own 72 (ekI .u64) v5 w18, Box b1 [.int .i64 a1.Kind, .int .i64 a1.Rights, .int .i64 a1.Obj, .int .i64 a1.Badge, .int .i64 a1.Guard, .int .i64 a1.Bits], F] (fun l2 hk2 => ?_) ?_
    · clear hgk
      replace h := hc17
      rcases bool_or t11.isNone with b15 | b15
      · replace h := cond_t b15 h
        refine SO.takeT rfl rfl rfl b15 ?_
        refine SO.v rfl (opv_move rfl) ?_
        refine SO.takeT rfl rfl rfl b15 ?_
        refine SO.v rfl (opv_lss rfl rfl) ?_
        refine SO.takeT rfl rfl rfl b15 ?_
        refine SO.v rfl (opv_move rfl) ?_
        refine SO.cut 3 42 (.bool ((decide (t10 < 0)) || (decide (95 < t10)))) [Own 72 (ekI .u64) v5 s13, Box b1 [.int .i64 a1.Kind, .int .i64 a1.Rights, .int .i64 a1.Obj, .int .i64 a1.Badge, .int .i64 a1.Guard, .int .i64 a1.Bits], F] (fun l2 hk2 => ?_) ?_
        · rcases bool_or (decide (t10 < 0)) with b20 | b20
          · refine SO.passF rfl rfl rfl b20 rfl rfl ?_
            refine SO.passF rfl rfl rfl b20 rfl rfl ?_
            refine SO.takeT rfl rfl rfl b15 ?_
            refine SO.v rfl (opv_pick_t' b20 rfl rfl) ?_
            refine SO.b2 ?_
            refine SO.b2 ?_
            refine SO.b2 ?_
            exact hk2.fitc (m := 3) rfl (or_t b20) rfl
          · refine SO.takeT rfl rfl rfl b20 ?_
            refine SO.v rfl (opv_move rfl) ?_
            refine SO.takeT rfl rfl rfl b20 ?_
            refine SO.v rfl (opv_gtr rfl rfl) ?_
            refine SO.takeT rfl rfl rfl b15 ?_
            refine SO.v rfl (opv_pick_f' b20 rfl rfl) ?_
            refine SO.b2 ?_
            refine SO.b2 ?_
            refine SO.b2 ?_
            exact hk2.fitc (m := 3) rfl (or_f b20) rfl
        refine SO.takeT rfl rfl rfl b15 ?_
        refine SO.v rfl (opv_move rfl) ?_
        obtain ⟨⟨c22, w24⟩, hc23, hgk⟩ := opt_bind h
        refine SO.cut 6 49 (.bool c22) [Own 72 (ekI .u64) v5 w24, Box b1 [.int .i64 a1.Kind, .int .i64 a1.Rights, .int .i64 a1.Obj, .int .i64 a1.Badge, .int .i64 a1.Guard, .int .i64 a1.Bits], F] (fun l2 hk2 => ?_) ?_
        · clear hgk
          replace h := hc23
          rcases bool_or ((decide (t10 < 0)) || (decide (95 < t10))) with b21 | b21
          · replace h := cond_t b21 h
            refine SO.passF rfl rfl rfl b21 rfl rfl ?_
            refine SO.passF rfl rfl rfl b21 rfl rfl ?_
            refine SO.passF rfl rfl rfl b21 rfl rfl ?_
            refine SO.passF rfl rfl rfl b21 rfl rfl ?_
            refine SO.passF rfl rfl rfl b21 rfl rfl ?_
            cases h
            refine SO.takeT rfl rfl rfl b15 ?_
            refine SO.v rfl (opv_pick_t' b21 rfl rfl) ?_
            refine SO.b2 ?_
            refine SO.b2 ?_
            refine SO.b2 ?_
            exact hk2.fitc (m := 6) rfl (rfl) rfl
          · replace h := cond_f b21 h
            refine SO.takeT rfl rfl rfl b21 ?_
            refine SO.v rfl (opv_move rfl) ?_
            refine SO.takeT rfl rfl rfl b21 ?_
            refine SO.v rfl (opv_iface Try.underlying26 rfl rfl) ?_
            refine SO.takeT rfl rfl rfl b21 ?_
            refine SO.b1 ?_
            refine SO.loadN rfl Try.isAgg24 Try.sizeOf24 rfl rfl rfl ?_
            refine SO.takeT rfl rfl rfl b21 ?_
            obtain ⟨⟨t26, s28⟩, ht27, h⟩ := opt_bind h
            refine SO.b1 ?_
            refine SO.call (pre := [(plainV v5).rep _]) rfl Try.call9 rfl rfl rfl (cspace_Fine.ct (plainV v5) _ _ _ _ ht27) trivial ?_
            rintro _ _ ⟨rfl, rfl⟩
            refine headEq (plainV_rep _ _) ?_
            refine SO.rd fun hr29 => ?_
            refine SO.takeT rfl rfl rfl b21 ?_
            refine SO.v rfl (opv_not rfl) ?_
            cases h
            refine SO.takeT rfl rfl rfl b15 ?_
            refine SO.v rfl (opv_pick_f' b21 rfl rfl) ?_
            refine SO.b2 ?_
            refine SO.b2 ?_
            refine SO.b2 ?_
            exact hk2.fitc (m := 6) rfl (rfl) rfl
        clear hc23
        replace h := hgk
        refine SO.rd fun hr25 => ?_
        cases h
        refine SO.v rfl (opv_pick_t' b15 rfl rfl) ?_
        refine SO.b2 ?_
        refine SO.b2 ?_
        refine SO.b2 ?_
        exact hk2.fitc (m := 7) rfl (rfl) rfl
      · replace h := cond_f b15 h
        refine SO.passF rfl rfl rfl b15 rfl rfl ?_
        refine SO.passF rfl rfl rfl b15 rfl rfl ?_
        refine SO.passF rfl rfl rfl b15 rfl rfl ?_
        refine SO.pass_undef rfl rfl rfl rfl ?_
        refine SO.pass_undef rfl rfl rfl rfl ?_
        refine SO.passF rfl rfl rfl b15 rfl rfl ?_
        refine SO.passF rfl rfl rfl b15 rfl rfl ?_
        refine SO.pass_undef rfl rfl rfl rfl ?_
        refine SO.pass_undef rfl rfl rfl rfl ?_
        refine SO.pass_undef rfl rfl rfl rfl ?_
        refine SO.pass_undef rfl rfl rfl rfl ?_
        refine SO.pass_undef rfl rfl rfl rfl ?_
        refine SO.passF rfl rfl rfl b15 rfl rfl ?_
        cases h
        refine SO.v rfl (opv_pick_f' b15 rfl rfl) ?_
        refine SO.b2 ?_
        refine SO.b2 ?_
        refine SO.b2 ?_
        exact hk2.fitc (m := 14) rfl (rfl) rfl
    clear hc17
    replace h := hgk
    refine SO.rd fun hr19 => ?_
    refine SO.nil ?_
    refine S.to (ρ' := [(3, .int .i64 a3), (8, .bool false), (9, .bool t2), (50, .bool c16)]) ⟨rfl, rfl, rfl, rfl, trivial⟩ ?_
    rcases bool_or c16 with b30 | b30
    · replace h := cond_t b30 h
      refine S.condT rfl b30 ?_
      refine S.seq ?_
      refine S.region ?_
      refine SO.v rfl (opv_assign rfl) ?_
      refine SO.nil ?_
      cases h
      refine S.drop ?_
      refine S.drop ?_
      exact S.ret1 Try.func3 rfl rfl (fun w hs hk => hR w _ _ ⟨rfl, rfl⟩ hs hk)
    · replace h := cond_f b30 h
      refine S.condF rfl b30 ?_
      refine S.skip ?_
      refine S.seq ?_
      refine S.region ?_
      obtain ⟨t31, ht32, h⟩ := opt_bind h
      refine SO.call (pre := []) rfl Try.call10 rfl rfl rfl (ref10_Boot.ct _ _ _ ht32) trivial ?_
      rintro _ _ ⟨b33, u34_Slots, u34_Objs, rfl, rfl⟩
      refine SO.v rfl (opv_assign rfl) ?_
      refine SO.nil ?_
      refine S.seq ?_
      refine S.region ?_
      refine SO.v rfl (opv_move rfl) ?_
      obtain ⟨t35, ht36, h⟩ := opt_bind h
      refine SO.b2 ?_
      refine SO.b2 ?_
      refine SO.b2 ?_
      refine SO.call (pre := [Box _ _, OwnR _ _ _ _, OwnR _ _ _ _]) rfl Try.call11 rfl rfl rfl (ref10_State_Words.ct _ b33 u34_Slots u34_Objs _ _ ht36) trivial ?_
      rintro v37 _ ⟨_, rfl, rfl⟩
      refine SO.rd fun hr38 => ?_
      refine SO.v rfl (opv_assign rfl) ?_
      refine SO.nil ?_
      refine S.seq ?_
      refine S.region ?_
      refine SO.v rfl (opv_move rfl) ?_
      refine SO.v rfl (opv_iface Try.underlying26 rfl rfl) ?_
      refine SO.v rfl (opv_move rfl) ?_
      refine SO.v rfl (opv_nilCheck rfl) ?_
      refine SO.v rfl (opv_fieldAddr Try.underlying42 rfl Try.sizeOf40 rfl rfl) ?_
      refine SO.b1 ?_
      refine SO.load1 rfl Try.isAgg40 rfl rfl ?_
      refine SO.b3 ?_
      refine SO.openR fun raws44 A45 hrel46 hR47 => ?_
      obtain ⟨x39, hx40, h⟩ := opt_bind h
      obtain ⟨r41, hr42, hc43⟩ := relR.at hrel46 hx40
      refine SO.v rfl (opv_idx Try.underlying40 Try.sizeOf38 hR47 rfl rfl hr42) ?_
      refine SO.v rfl (opv_fieldIdx Try.underlying38 rfl Try.sizeOf24 hR47 hr42 rfl rfl) ?_
      refine SO.loadIP (j := 14) rfl Try.isAgg24 Try.sizeOf24 (Rd.head hR47) hr42 rfl rfl rfl (hc43.part (vs := [.int .i64 x39.Root.Kind, .int .i64 x39.Root.Rights, .int .i64 x39.Root.Obj, .int .i64 x39.Root.Badge, .int .i64 x39.Root.Guard, .int .i64 x39.Root.Bits]) rfl) ?_
      refine SO.v rfl (opv_move rfl) ?_
      obtain ⟨⟨⟨t48, t49⟩, s51⟩, ht50, h⟩ := opt_bind h
      refine SO.b2 ?_
      refine SO.call (pre := [(plainV v37).rep _]) rfl Try.call8 rfl rfl rfl (cspace_Lookup.ct (plainV v37) _ _ _ _ _ _ _ ht50) trivial ?_
      rintro _ _ ⟨rfl, rfl⟩
      refine headEq (plainV_rep _ _) ?_
      refine SO.rd fun hr52 => ?_
      refine SO.v rfl (opv_move rfl) ?_
      refine SO.v rfl (opv_extract rfl rfl) ?_
      refine SO.v rfl (opv_extract rfl rfl) ?_
      refine SO.v rfl (opv_assign rfl) ?_
      refine SO.v rfl (opv_assign rfl) ?_
      refine SO.nil ?_
      refine S.to (ρ' := [(3, .int .i64 a3), (8, .bool false), (9, .bool t2), (15, .int .i64 t48), (16, errV 61 t49)]) ⟨rfl, rfl, rfl, rfl, rfl, trivial⟩ ?_
      refine S.seq ?_
      refine S.seq ?_
      refine S.region ?_
      refine SO.v rfl (opv_move rfl) ?_
      refine SO.v rfl (opv_lss rfl rfl) ?_
      refine SO.v rfl (opv_move rfl) ?_
      refine SO.cut 3 73 (.bool ((decide (a3 < 0)) || (decide (31 < a3)))) [Own 72 (ekI .u64) v37 s51, OwnO 38 kr_ref10_Obj u34_Objs raws44 A45 t31.Objs, Box b33 [u34_Slots, u34_Objs, .int .i64 t31.NS, .int .i64 t31.NO], OwnR 71 kr_ref10_Slot u34_Slots t31.Slots, Own 72 (ekI .u64) v5 w18, Box b1 [.int .i64 a1.Kind, .int .i64 a1.Rights, .int .i64 a1.Obj, .int .i64 a1.Badge, .int .i64 a1.Guard, .int .i64 a1.Bits], F] (fun l2 hk2 => ?_) ?_
      · rcases bool_or (decide (a3 < 0)) with b53 | b53
        · refine SO.passF rfl rfl rfl b53 rfl rfl ?_
          refine SO.passF rfl rfl rfl b53 rfl rfl ?_
          refine SO.v rfl (opv_pick_t' b53 rfl rfl) ?_
          refine SO.b6 ?_
          refine SO.b6 ?_
          refine SO.b6 ?_
          refine SO.b6 ?_
          refine SO.b6 ?_
          refine SO.b6 ?_
          refine SO.b6 ?_
          exact hk2.fitc (m := 3) rfl (or_t b53) rfl
        · refine SO.takeT rfl rfl rfl b53 ?_
          refine SO.v rfl (opv_move rfl) ?_
          refine SO.takeT rfl rfl rfl b53 ?_
          refine SO.v rfl (opv_gtr rfl rfl) ?_
          refine SO.v rfl (opv_pick_f' b53 rfl rfl) ?_
          refine SO.b6 ?_
          refine SO.b6 ?_
          refine SO.b6 ?_
          refine SO.b6 ?_
          refine SO.b6 ?_
          refine SO.b6 ?_
          refine SO.b6 ?_
          exact hk2.fitc (m := 3) rfl (or_f b53) rfl
      refine SO.nil ?_
      rcases bool_or ((decide (a3 < 0)) || (decide (31 < a3))) with b54 | b54
      · replace h := cond_t b54 h
        refine S.condT rfl b54 ?_
        refine S.seq ?_
        refine S.region ?_
        refine SO.v rfl (opv_move rfl) ?_
        refine SO.v rfl (opv_move rfl) ?_
        refine SO.cut 3 78 (.bool (t2 && t49.isSome)) [Own 72 (ekI .u64) v37 s51, OwnO 38 kr_ref10_Obj u34_Objs raws44 A45 t31.Objs, Box b33 [u34_Slots, u34_Objs, .int .i64 t31.NS, .int .i64 t31.NO], OwnR 71 kr_ref10_Slot u34_Slots t31.Slots, Own 72 (ekI .u64) v5 w18, Box b1 [.int .i64 a1.Kind, .int .i64 a1.Rights, .int .i64 a1.Obj, .int .i64 a1.Badge, .int .i64 a1.Guard, .int .i64 a1.Bits], F] (fun l2 hk2 => ?_) ?_
        · rcases bool_or t2 with b55 | b55
          · refine SO.takeT rfl rfl rfl b55 ?_
            refine SO.v rfl (opv_move rfl) ?_
            refine SO.takeT rfl rfl rfl b55 ?_
            refine SO.v rfl (opv_neqN (e := t49) Try.underlying28 rfl) ?_
            refine SO.v rfl (opv_pick_t' b55 rfl rfl) ?_
            refine SO.b6 ?_
            refine SO.b6 ?_
            refine SO.b6 ?_
            refine SO.b6 ?_
            refine SO.b6 ?_
            refine SO.b6 ?_
            refine SO.b6 ?_
            exact hk2.fitc (m := 3) rfl (and_t b55) rfl
          · refine SO.passF rfl rfl rfl b55 rfl rfl ?_
            refine SO.passF rfl rfl rfl b55 rfl rfl ?_
            refine SO.v rfl (opv_pick_f' b55 rfl rfl) ?_
            refine SO.b6 ?_
            refine SO.b6 ?_
            refine SO.b6 ?_
            refine SO.b6 ?_
            refine SO.b6 ?_
            refine SO.b6 ?_
            refine SO.b6 ?_
            exact hk2.fitc (m := 3) rfl (and_f b55) rfl
        refine SO.v rfl (opv_assign rfl) ?_
        refine SO.nil ?_
        refine S.to (ρ' := [(3, .int .i64 a3), (8, .bool (t2 && t49.isSome)), (9, .bool t2), (15, .int .i64 t48), (16, errV 61 t49)]) ⟨rfl, rfl, rfl, rfl, rfl, trivial⟩ ?_
        cases h
        refine S.b1 ?_
        refine S.closeR ?_
        refine S.drop ?_
        refine S.drop ?_
        refine S.drop ?_
        refine S.drop ?_
        refine S.drop ?_
        refine S.drop ?_
        exact S.ret1 Try.func3 rfl rfl (fun w hs hk => hR w _ _ ⟨rfl, rfl⟩ hs hk)
      · replace h := cond_f b54 h
        refine S.condF rfl b54 ?_
        refine S.skip ?_
        refine S.seq ?_
        refine S.region ?_
        refine SO.v rfl (opv_move rfl) ?_
        refine SO.v rfl (opv_move rfl) ?_
        refine SO.cut 3 83 (.bool (t2 && t49.isNone)) [Own 72 (ekI .u64) v37 s51, OwnO 38 kr_ref10_Obj u34_Objs raws44 A45 t31.Objs, Box b33 [u34_Slots, u34_Objs, .int .i64 t31.NS, .int .i64 t31.NO], OwnR 71 kr_ref10_Slot u34_Slots t31.Slots, Own 72 (ekI .u64) v5 w18, Box b1 [.int .i64 a1.Kind, .int .i64 a1.Rights, .int .i64 a1.Obj, .int .i64 a1.Badge, .int .i64 a1.Guard, .int .i64 a1.Bits], F] (fun l2 hk2 => ?_) ?_
        · rcases bool_or t2 with b56 | b56
          · refine SO.takeT rfl rfl rfl b56 ?_
            refine SO.v rfl (opv_move rfl) ?_
            refine SO.takeT rfl rfl rfl b56 ?_
            refine SO.v rfl (opv_eqlN (e := t49) Try.underlying28 rfl) ?_
            refine SO.v rfl (opv_pick_t' b56 rfl rfl) ?_
            refine SO.b6 ?_
            refine SO.b6 ?_
            refine SO.b6 ?_
            refine SO.b6 ?_
            refine SO.b6 ?_
            refine SO.b6 ?_
            refine SO.b6 ?_
            exact hk2.fitc (m := 3) rfl (and_t b56) rfl
          · refine SO.passF rfl rfl rfl b56 rfl rfl ?_
            refine SO.passF rfl rfl rfl b56 rfl rfl ?_
            refine SO.v rfl (opv_pick_f' b56 rfl rfl) ?_
            refine SO.b6 ?_
            refine SO.b6 ?_
            refine SO.b6 ?_
            refine SO.b6 ?_
            refine SO.b6 ?_
            refine SO.b6 ?_
            refine SO.b6 ?_
            exact hk2.fitc (m := 3) rfl (and_f b56) rfl
        refine SO.v rfl (opv_move rfl) ?_
        refine SO.cut 5 89 (.bool ((t2 && t49.isNone) && (t48 == (w64 (8 + a3))))) [Own 72 (ekI .u64) v37 s51, OwnO 38 kr_ref10_Obj u34_Objs raws44 A45 t31.Objs, Box b33 [u34_Slots, u34_Objs, .int .i64 t31.NS, .int .i64 t31.NO], OwnR 71 kr_ref10_Slot u34_Slots t31.Slots, Own 72 (ekI .u64) v5 w18, Box b1 [.int .i64 a1.Kind, .int .i64 a1.Rights, .int .i64 a1.Obj, .int .i64 a1.Badge, .int .i64 a1.Guard, .int .i64 a1.Bits], F] (fun l2 hk2 => ?_) ?_
        · rcases bool_or (t2 && t49.isNone) with b57 | b57
          · refine SO.takeT rfl rfl rfl b57 ?_
            refine SO.v rfl (opv_move rfl) ?_
            refine SO.takeT rfl rfl rfl b57 ?_
            refine SO.v rfl (opv_move rfl) ?_
            refine SO.takeT rfl rfl rfl b57 ?_
            refine SO.v rfl (opv_add rfl rfl) ?_
            refine SO.takeT rfl rfl rfl b57 ?_
            refine SO.v rfl (opv_eql rfl rfl) ?_
            refine SO.v rfl (opv_pick_t' b57 rfl rfl) ?_
            refine SO.b6 ?_
            refine SO.b6 ?_
            refine SO.b6 ?_
            refine SO.b6 ?_
            refine SO.b6 ?_
            refine SO.b6 ?_
            refine SO.b6 ?_
            exact hk2.fitc (m := 5) rfl (and_t b57) rfl
          · refine SO.passF rfl rfl rfl b57 rfl rfl ?_
            refine SO.passF rfl rfl rfl b57 rfl rfl ?_
            refine SO.passF rfl rfl rfl b57 rfl rfl ?_
            refine SO.passF rfl rfl rfl b57 rfl rfl ?_
            refine SO.v rfl (opv_pick_f' b57 rfl rfl) ?_
            refine SO.b6 ?_
            refine SO.b6 ?_
            refine SO.b6 ?_
            refine SO.b6 ?_
            refine SO.b6 ?_
            refine SO.b6 ?_
            refine SO.b6 ?_
            exact hk2.fitc (m := 5) rfl (and_f b57) rfl
        refine SO.v rfl (opv_assign rfl) ?_
        refine SO.nil ?_
        refine S.to (ρ' := [(8, .bool ((t2 && t49.isNone) && (t48 == (w64 (8 + a3)))))]) ⟨rfl, trivial⟩ ?_
        cases h
        refine S.b1 ?_
        refine S.closeR ?_
        refine S.drop ?_
        refine S.drop ?_
        refine S.drop ?_
        refine S.drop ?_
        refine S.drop ?_
        refine S.drop ?_
        exact S.ret1 Try.func3 rfl rfl (fun w hs hk => hR w _ _ ⟨rfl, rfl⟩ hs hk)
end Go.Proofs
namespace Go.Proofs
open Go.Sl Go.RowKit
/-! 33 padstone/lay.Put -/
def lay_Put.f (a1 : Int) (a2 : Int) (a3 : Int) : VM (Unit) :=
  (VM.opt (lay_Obj.f a1 a2)).bind fun (t1, t2) => bif t2 && (decide (0 ≤ a3)) then (VM.wr t1 (wu64 a3) (VM.ret ())) else (VM.ret ())
set_option maxHeartbeats 8000000 in
set_option maxRecDepth 100000 in
theorem lay_Put.ct (V : VW Try.prog) (a1 : Int) (a2 : Int) (a3 : Int) (s s' : V.S) (h : VM.run V.toVI (lay_Put.f a1 a2 a3) s = some ((), s')) :
    Ct Try.prog 33 [V.val, .int .i64 a1, .int .i64 a2, .int .i64 a3] (fun _ => True) [V.rep s] (fun u H' => u = .tuple #[] ∧ H' = [V.rep s']) := by
  unfold lay_Put.f at h
  refine Ct.intro (n := 26) Try.func33 rfl rfl rfl ?_
  intro R w0 F hF hR
  refine S.seq ?_
  refine S.region ?_
  refine SO.v rfl (opv_move rfl) ?_
  refine SO.v rfl (opv_move rfl) ?_
  obtain ⟨⟨t1, t2⟩, ht3, h⟩ := VM.opt_some V.toVI h
  refine SO.call (pre := []) rfl Try.call43 rfl rfl rfl (lay_Obj.ct _ _ _ _ ht3) trivial ?_
  rintro _ _ ⟨rfl, rfl⟩
  refine SO.v rfl (opv_move rfl) ?_
  refine SO.v rfl (opv_extract rfl rfl) ?_
  refine SO.v rfl (opv_extract rfl rfl) ?_
  refine SO.v rfl (opv_assign rfl) ?_
  refine SO.v rfl (opv_assign rfl) ?_
  refine SO.nil ?_
  refine S.to (ρ' := [(0, V.val), (3, .int .i64 a3), (8, .int .i64 t1), (9, .bool t2)]) ⟨rfl, rfl, rfl, rfl, trivial⟩ ?_
  refine S.seq ?_
  refine S.region ?_
  refine SO.v rfl (opv_move rfl) ?_
  refine SO.v rfl (opv_move rfl) ?_
  refine SO.cut 3 20 (.bool (t2 && (decide (0 ≤ a3)))) [V.rep s, F] (fun l2 hk2 => ?_) ?_
  · rcases bool_or t2 with b4 | b4
    · refine SO.takeT rfl rfl rfl b4 ?_
      refine SO.v rfl (opv_move rfl) ?_
      refine SO.takeT rfl rfl rfl b4 ?_
      refine SO.v rfl (opv_geq rfl rfl) ?_
      refine SO.v rfl (opv_pick_t' b4 rfl rfl) ?_
      refine SO.b1 ?_
      refine SO.b1 ?_
      exact hk2.fitc (m := 3) rfl (and_t b4) rfl
    · refine SO.passF rfl rfl rfl b4 rfl rfl ?_
      refine SO.passF rfl rfl rfl b4 rfl rfl ?_
      refine SO.v rfl (opv_pick_f' b4 rfl rfl) ?_
      refine SO.b1 ?_
      refine SO.b1 ?_
      exact hk2.fitc (m := 3) rfl (and_f b4) rfl
  refine SO.nil ?_
  rcases bool_or (t2 && (decide (0 ≤ a3))) with b5 | b5
  · replace h := VM.cond_t V.toVI b5 h
    refine S.condT rfl b5 ?_
    refine S.region ?_
    refine SO.v rfl (opv_move rfl) ?_
    refine SO.v rfl (opv_move rfl) ?_
    refine SO.v rfl (opv_move rfl) ?_
    refine SO.v rfl (opv_conv Try.underlying3 Try.underlying72 rfl) ?_
    obtain ⟨s6, hv7, h⟩ := VM.wr_some V.toVI h
    refine SO.vwrite' V rfl rfl rfl rfl hv7 ?_
    refine SO.nil ?_
    refine S.to (ρ' := []) trivial ?_
    obtain ⟨hq, rfl⟩ := VM.ret_some V.toVI h
    cases hq
    refine S.b1 ?_
    refine S.b1 ?_
    exact S.fin0 Try.func33 rfl (fun w hs hk => hR w _ _ ⟨rfl, rfl⟩ hs hk)
  · replace h := VM.cond_f V.toVI b5 h
    refine S.condF rfl b5 ?_
    refine S.skip ?_
    obtain ⟨hq, rfl⟩ := VM.ret_some V.toVI h
    cases hq
    refine S.b1 ?_
    refine S.b1 ?_
    exact S.fin0 Try.func33 rfl (fun w hs hk => hR w _ _ ⟨rfl, rfl⟩ hs hk)
end Go.Proofs
namespace Go.Proofs
open Go.Sl Go.RowKit
/-! 51 padstone/pack.Put -/
def pack_Put.l1 (a0 : api_Cap) (t7 : List Int) : Nat → (Int × Int × Int) → Option (Int)
  | 0, _ => none
  | k + 1, (x28_1, x4_1, x5_1) => bif decide (x28_1 < (t7.length : Int)) then ((at_ t7 x28_1).bind fun x12 => (at_ ([a0.Kind, a0.Rights, a0.Obj, a0.Badge, a0.Bits, a0.Guard]) x28_1).bind fun x14 => (chk (decide (0 ≤ x5_1))).bind fun _ => pack_Put.l1 a0 t7 k (w64 (x28_1 + 1), bor .u64 x4_1 (bshl .u64 (wu64 x14) x5_1), w64 (x5_1 + x12))) else (some x4_1)
def pack_Put.f (k : Nat) (a0 : api_Cap) : Option ((Int × (Option Int))) :=
  (pack_May.f a0).bind fun t2 => bif !t2 then (some (0, (some 1))) else ((pack_widths.f ).bind fun t7 => (pack_Put.l1 a0 t7 k (0, 0, 0)).bind fun j4_e1 => some (j4_e1, none))
set_option maxHeartbeats 8000000 in
set_option maxRecDepth 100000 in
theorem pack_Put.ct (k : Nat) (a0 : api_Cap) (r0 : Int) (r1 : Option Int) (h : pack_Put.f k a0 = some (r0, r1)) :
    Ct Try.prog 51 [.agg #[.int .i64 a0.Kind, .int .i64 a0.Rights, .int .i64 a0.Obj, .int .i64 a0.Badge, .int .i64 a0.Guard, .int .i64 a0.Bits]] (fun _ => True) [] (fun u H' => u = .tuple #[.int .u64 r0, errV 61 r1] ∧ H' = []) := by
  unfold pack_Put.f at h
  refine Ct.intro (n := 47) Try.func51 rfl rfl rfl ?_
  intro R w0 F hF hR
  refine S.seq ?_
  refine S.region ?_
  refine SO.box rfl rfl rfl (fun b1 => ?_)
  refine SO.v rfl (opv_assign rfl) ?_
  refine SO.v rfl (opv_assign rfl) ?_
  refine SO.nil ?_
  refine S.seq ?_
  refine S.seq ?_
  refine S.region ?_
  refine SO.loadN rfl Try.isAgg24 Try.sizeOf24 rfl rfl rfl ?_
  obtain ⟨t2, ht3, h⟩ := opt_bind h
  refine SO.call (pre := []) rfl Try.call56 rfl rfl rfl (pack_May.ct _ _ ht3) trivial ?_
  rintro _ _ ⟨rfl, rfl⟩
  refine SO.v rfl (opv_not rfl) ?_
  refine SO.nil ?_
  rcases bool_or (!t2) with b4 | b4
  · replace h := cond_t b4 h
    refine S.condT rfl b4 ?_
    refine S.seq ?_
    refine S.region ?_
    refine SO.v rfl (opv_iface Try.underlying61 rfl rfl) ?_
    refine SO.v rfl (opv_assign rfl) ?_
    refine SO.v rfl (opv_assign rfl) ?_
    refine SO.nil ?_
    cases h
    refine S.drop ?_
    exact S.ret2 Try.func51 rfl rfl rfl (fun w hs hk => hR w _ _ ⟨rfl, rfl⟩ hs hk)
  · replace h := cond_f b4 h
    refine S.condF rfl b4 ?_
    refine S.skip ?_
    refine S.seq ?_
    refine S.region ?_
    refine SO.v rfl (opv_assign rfl) ?_
    refine SO.nil ?_
    refine S.seq ?_
    refine S.region ?_
    refine SO.v rfl (opv_assign rfl) ?_
    refine SO.nil ?_
    refine S.seq ?_
    refine S.region ?_
    refine SO.v rfl (opv_fieldAddr Try.underlying24 rfl Try.sizeOf3 rfl rfl) ?_
    refine SO.load1 rfl Try.isAgg3 rfl rfl ?_
    refine SO.v rfl (opv_fieldAddr Try.underlying24 rfl Try.sizeOf3 rfl rfl) ?_
    refine SO.load1 rfl Try.isAgg3 rfl rfl ?_
    refine SO.v rfl (opv_fieldAddr Try.underlying24 rfl Try.sizeOf3 rfl rfl) ?_
    refine SO.load1 rfl Try.isAgg3 rfl rfl ?_
    refine SO.v rfl (opv_fieldAddr Try.underlying24 rfl Try.sizeOf3 rfl rfl) ?_
    refine SO.load1 rfl Try.isAgg3 rfl rfl ?_
    refine SO.v rfl (opv_fieldAddr Try.underlying24 rfl Try.sizeOf3 rfl rfl) ?_
    refine SO.load1 rfl Try.isAgg3 rfl rfl ?_
    refine SO.v rfl (opv_fieldAddr Try.underlying24 rfl Try.sizeOf3 rfl rfl) ?_
    refine SO.load1 rfl Try.isAgg3 rfl rfl ?_
    refine SO.buildSlice (K := ekI .i64) (xs := [a0.Kind, a0.Rights, a0.Obj, a0.Badge, a0.Bits, a0.Guard]) (cs := [.int .i64 a0.Kind, .int .i64 a0.Rights, .int .i64 a0.Obj, .int .i64 a0.Badge, .int .i64 a0.Bits, .int .i64 a0.Guard]) rfl Try.underlying35 Try.sizeOf3 Try.zeroValue3 rfl rfl rfl (by kernel_rfl) rfl rfl rfl (fun v5 hr6 => ?_)
    refine SO.v rfl (opv_assign rfl) ?_
    refine SO.nil ?_
    refine S.to (ρ' := [(2, .int .u64 0), (3, errV 61 none), (4, .int .u64 0), (5, .int .i64 0), (6, v5)]) ⟨rfl, rfl, rfl, rfl, rfl, trivial⟩ ?_
    refine S.seq ?_
    refine S.seq ?_
    refine S.region ?_
    obtain ⟨t7, ht8, h⟩ := opt_bind h
    refine SO.call (pre := []) rfl Try.call55 rfl rfl rfl (pack_widths.ct _ ht8) trivial ?_
    rintro v9 _ ⟨_, rfl, rfl⟩
    refine SO.rd fun hr10 => ?_
    refine SO.v rfl (opv_lenR rfl Try.underlying35 hr10 rfl) ?_
    refine SO.v rfl (opv_move rfl) ?_
    refine SO.nil ?_
    obtain ⟨j4_e1, hl1, h⟩ := opt_bind h
    refine S.b3 ?_
    refine S.b3 ?_
    refine S.b3 ?_
    refine S.b3 ?_
    refine S.to (ρ' := [(28, .int .i64 0), (27, .int .i64 (t7.length : Int)), (26, v9), (2, .int .u64 0), (3, errV 61 none), (4, .int .u64 0), (5, .int .i64 0), (6, v5)]) ⟨rfl, rfl, rfl, rfl, rfl, rfl, rfl, rfl, trivial⟩ ?_
    refine S.forloop (X := (Int × Int × Int) × Unit) (O := Int) (fun m x => pack_Put.l1 a0 t7 m x.1) (fun x => match x with | ((x28_1, x4_1, x5_1), _) => [(28, .int .i64 x28_1), (27, .int .i64 (t7.length : Int)), (26, v9), (2, .int .u64 0), (3, errV 61 none), (4, .int .u64 x4_1), (5, .int .i64 x5_1), (6, v5)]) (fun x => match x with | ((x28_1, x4_1, x5_1), _) => [Own 3 (ekI .i64) v9 t7, Own 3 (ekI .i64) v5 ([a0.Kind, a0.Rights, a0.Obj, a0.Badge, a0.Bits, a0.Guard]), Box b1 [.int .i64 a0.Kind, .int .i64 a0.Rights, .int .i64 a0.Obj, .int .i64 a0.Badge, .int .i64 a0.Guard, .int .i64 a0.Bits], F]) (fun Sk => (fun j4_e1 => ∀ _ : Unit, Sk [(2, .int .u64 0), (3, errV 61 none), (4, .int .u64 j4_e1)] [Own 3 (ekI .i64) v9 t7, Own 3 (ekI .i64) v5 ([a0.Kind, a0.Rights, a0.Obj, a0.Badge, a0.Bits, a0.Guard]), Box b1 [.int .i64 a0.Kind, .int .i64 a0.Rights, .int .i64 a0.Obj, .int .i64 a0.Badge, .int .i64 a0.Guard, .int .i64 a0.Bits], F])) (fun _ => rfl) ?_ (m := k) (x := ((0, 0, 0), ())) hl1 ?_
    · clear h hl1
      intro k x o_1 h hK1 ih1
      obtain ⟨⟨x28_1, x4_1, x5_1⟩, _⟩ := x
      replace h : pack_Put.l1 a0 t7 (k + 1) (x28_1, x4_1, x5_1) = some o_1 := h
      first | rw [pack_Put.l1] at h | unfold pack_Put.l1 at h
      refine S.seq ?_
      refine S.region ?_
      refine SO.v rfl (opv_lss rfl rfl) ?_
      refine SO.nil ?_
      refine S.seq ?_
      rcases bool_or (decide (x28_1 < (t7.length : Int))) with b11 | b11
      · replace h := cond_t b11 h
        refine S.condT rfl b11 ?_
        refine S.skip ?_
        refine S.seq ?_
        refine S.block ?_
        refine S.seq ?_
        refine S.region ?_
        refine SO.v rfl (opv_move rfl) ?_
        obtain ⟨x12, hx13, h⟩ := opt_bind h
        refine SO.v rfl (opv_idx Try.underlying35 Try.sizeOf3 hr10 rfl rfl hx13) ?_
        refine SO.loadI1 (j := 0) rfl Try.isAgg3 (Rd.head hr10) hx13 rfl rfl rfl rfl ?_
        refine SO.v rfl (opv_assign rfl) ?_
        refine SO.v rfl (opv_assign rfl) ?_
        refine SO.nil ?_
        refine S.seq ?_
        refine S.region ?_
        refine SO.v rfl (opv_move rfl) ?_
        refine SO.v rfl (opv_move rfl) ?_
        refine SO.v rfl (opv_move rfl) ?_
        obtain ⟨x14, hx15, h⟩ := opt_bind h
        refine SO.v rfl (opv_idx Try.underlying35 Try.sizeOf3 hr6 rfl rfl hx15) ?_
        refine SO.loadI1 (j := 0) rfl Try.isAgg3 (Rd.tail (Rd.head hr6)) hx15 rfl rfl rfl rfl ?_
        refine SO.v rfl (opv_conv Try.underlying3 Try.underlying72 rfl) ?_
        refine SO.v rfl (opv_move rfl) ?_
        obtain ⟨_, hc16, h⟩ := opt_bind h
        refine SO.v rfl (opv_shl rfl rfl (of_decide_eq_true (chk_some hc16))) ?_
        refine SO.v rfl (opv_or rfl rfl) ?_
        refine SO.v rfl (opv_assign rfl) ?_
        refine SO.nil ?_
        refine S.region ?_
        refine SO.v rfl (opv_move rfl) ?_
        refine SO.v rfl (opv_move rfl) ?_
        refine SO.v rfl (opv_add rfl rfl) ?_
        refine SO.v rfl (opv_assign rfl) ?_
        refine SO.nil ?_
        refine S.inBlock ?_
        refine S.region ?_
        refine SO.v rfl (opv_add rfl rfl) ?_
        refine SO.v rfl (opv_move rfl) ?_
        refine SO.nil ?_
        refine S.b3 ?_
        refine S.b3 ?_
        refine S.b3 ?_
        refine S.b3 ?_
        refine S.to ?_ (ih1 ((w64 (x28_1 + 1), bor .u64 x4_1 (bshl .u64 (wu64 x14) x5_1), w64 (x5_1 + x12)), ()) h)
        exact ⟨rfl, rfl, rfl, rfl, rfl, rfl, rfl, rfl, trivial⟩
      · replace h := cond_f b11 h
        refine S.condF rfl b11 ?_
        refine S.exit rfl ?_
        cases h
        refine S.b3 ?_
        refine S.b3 ?_
        refine S.b3 ?_
        refine S.b3 ?_
        refine S.to ?_ (hK1 ())
        exact ⟨rfl, rfl, rfl, trivial⟩
    rintro _
    refine S.seq ?_
    refine S.region ?_
    refine SO.v rfl (opv_move rfl) ?_
    refine SO.v rfl (opv_assign rfl) ?_
    refine SO.v rfl (opv_assign rfl) ?_
    refine SO.nil ?_
    cases h
    refine S.drop ?_
    refine S.drop ?_
    refine S.drop ?_
    exact S.ret2 Try.func51 rfl rfl rfl (fun w hs hk => hR w _ _ ⟨rfl, rfl⟩ hs hk)
end Go.Proofs
