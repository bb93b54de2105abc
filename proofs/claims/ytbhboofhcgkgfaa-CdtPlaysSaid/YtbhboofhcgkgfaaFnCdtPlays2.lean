/- What the functions that CdtPlays reaches come to, and that they do. On no condition. -/
import Derived.Test.YtbhboofhcgkgfaaFnCdtPlays0
import Derived.Test.YtbhboofhcgkgfaaFnCdtPlays1
set_option linter.all false
namespace Go.Proofs
open Go.Sl Go.RowKit
/-! 3 padstone/padstonelaw10.CdtPlays -/
def law10_CdtPlays.l5 (x14 : law10_Deed) (p45 : ref10_State) (t79 : List Int) : Nat → Int → Option (Brk Bool Unit)
  | 0, _ => none
  | k + 1, x12_5 => bif decide (x12_5 < (t79.length : Int)) then ((at_ t79 x12_5).bind fun x108 => (at_ p45.Slots x14.B).bind fun x110 => (at_ x110.Kids x12_5).bind fun x118 => bif x108 != x118 then (some (Brk.ret false)) else (law10_CdtPlays.l5 x14 p45 t79 k (w64 (x12_5 + 1)))) else (some (Brk.nx ()))
def law10_CdtPlays.l8 (x14 : law10_Deed) (p127 : ref10_State) (t161 : List Int) : Nat → Int → Option (Brk Bool Unit)
  | 0, _ => none
  | k + 1, x12_8 => bif decide (x12_8 < (t161.length : Int)) then ((at_ t161 x12_8).bind fun x190 => (at_ p127.Slots x14.B).bind fun x192 => (at_ x192.Kids x12_8).bind fun x200 => bif x190 != x200 then (some (Brk.ret false)) else (law10_CdtPlays.l8 x14 p127 t161 k (w64 (x12_8 + 1)))) else (some (Brk.nx ()))
def law10_CdtPlays.l12 (x14 : law10_Deed) (y6_0_9 : List ref10_Slot) (t257 : List Int) : Nat → Int → Option (Brk Bool Unit)
  | 0, _ => none
  | k + 1, x12_12 => bif decide (x12_12 < (t257.length : Int)) then ((at_ t257 x12_12).bind fun x286 => (at_ y6_0_9 x14.B).bind fun x288 => (at_ x288.Kids x12_12).bind fun x296 => bif x286 != x296 then (some (Brk.ret false)) else (law10_CdtPlays.l12 x14 y6_0_9 t257 k (w64 (x12_12 + 1)))) else (some (Brk.nx ()))
def law10_CdtPlays.l1 (a0 : List law10_Deed) : Nat → (Int × (List ref10_Slot) × (List ref10_Obj) × Int × Int × (List Int)) → Option (Brk Bool ((List ref10_Slot) × (List ref10_Obj) × Int × Int × (List Int)))
  | 0, _ => none
  | k + 1, (x6_1, y6_0_1, y6_1_1, y6_2_1, y6_3_1, qv8_1) => bif decide (x6_1 < (a0.length : Int)) then ((at_ a0 x6_1).bind fun x14 => (law10_Pick.f x14.What 4).bind fun t20 => (bif t20 == 0 then (some (t20 == 0)) else (some (t20 == 1))).bind fun j64_2 => bif j64_2 then (bif (((decide (0 ≤ x14.A)) && (decide (x14.A < 96))) && (decide (0 ≤ x14.B))) && (decide (x14.B < 96)) then ((bif x14.A != x14.B then ((law10_above.f k (⟨y6_0_1, y6_1_1, y6_2_1, y6_3_1⟩ : ref10_State) x14.A x14.B).bind fun t36 => some t36) else (some false)).bind fun c34 => bif c34 then (law10_CdtPlays.l1 a0 k (w64 (x6_1 + 1), y6_0_1, y6_1_1, y6_2_1, y6_3_1, qv8_1)) else ((VM.run plainI (cdt_Link.f x14.A x14.B) qv8_1).bind fun (t40, s42) => (ref10_State_Link.f (⟨y6_0_1, y6_1_1, y6_2_1, y6_3_1⟩ : ref10_State) x14.A x14.B).bind fun (t44, p45) => ((law00_Code.f k t40).bind fun t56 => bif t56 != t44 then (some (true, s42)) else ((ref10_State_Words.f k p45).bind fun t59 => (ref10_Same.f k s42 t59).bind fun t64 => bif !t64 then (some (true, s42)) else ((VM.run plainI (cdt_Leaf.f k x14.A) s42).bind fun (t68, s70) => (ref10_State_Leaf.f k p45 x14.A).bind fun t72 => some (t68 != t72, s70)))).bind fun (j127_3, qv8_3) => bif j127_3 then (some (Brk.ret false)) else (bif !((((decide (0 ≤ x14.A)) && (decide (x14.A < 96))) && (decide (0 ≤ x14.B))) && (decide (x14.B < 96))) then (law10_CdtPlays.l1 a0 k (w64 (x6_1 + 1), p45.Slots, p45.Objs, p45.NS, p45.NO, qv8_3)) else ((VM.run plainI (cdt_Kids.f k x14.B) qv8_3).bind fun (t79, s81) => ((VM.run plainI (cdt_Parent.f x14.A) s81).bind fun (t85, s87) => (at_ p45.Slots x14.A).bind fun x89 => bif t85 != x89.Parent then (some (true, s87)) else ((at_ p45.Slots x14.B).bind fun x96 => some ((t79.length : Int) != (x96.Kids.length : Int), s87))).bind fun (j164_4, qv8_4) => bif j164_4 then (some (Brk.ret false)) else ((law10_CdtPlays.l5 x14 p45 t79 k 0).bind fun o5 => Brk.go o5 (fun r => some (Brk.ret r)) (fun _ => law10_CdtPlays.l1 a0 k (w64 (x6_1 + 1), p45.Slots, p45.Objs, p45.NS, p45.NO, qv8_4))))))) else ((VM.run plainI (cdt_Link.f x14.A x14.B) qv8_1).bind fun (t122, s124) => (ref10_State_Link.f (⟨y6_0_1, y6_1_1, y6_2_1, y6_3_1⟩ : ref10_State) x14.A x14.B).bind fun (t126, p127) => ((law00_Code.f k t122).bind fun t138 => bif t138 != t126 then (some (true, s124)) else ((ref10_State_Words.f k p127).bind fun t141 => (ref10_Same.f k s124 t141).bind fun t146 => bif !t146 then (some (true, s124)) else ((VM.run plainI (cdt_Leaf.f k x14.A) s124).bind fun (t150, s152) => (ref10_State_Leaf.f k p127 x14.A).bind fun t154 => some (t150 != t154, s152)))).bind fun (j127_6, qv8_6) => bif j127_6 then (some (Brk.ret false)) else (bif !((((decide (0 ≤ x14.A)) && (decide (x14.A < 96))) && (decide (0 ≤ x14.B))) && (decide (x14.B < 96))) then (law10_CdtPlays.l1 a0 k (w64 (x6_1 + 1), p127.Slots, p127.Objs, p127.NS, p127.NO, qv8_6)) else ((VM.run plainI (cdt_Kids.f k x14.B) qv8_6).bind fun (t161, s163) => ((VM.run plainI (cdt_Parent.f x14.A) s163).bind fun (t167, s169) => (at_ p127.Slots x14.A).bind fun x171 => bif t167 != x171.Parent then (some (true, s169)) else ((at_ p127.Slots x14.B).bind fun x178 => some ((t161.length : Int) != (x178.Kids.length : Int), s169))).bind fun (j164_7, qv8_7) => bif j164_7 then (some (Brk.ret false)) else ((law10_CdtPlays.l8 x14 p127 t161 k 0).bind fun o8 => Brk.go o8 (fun r => some (Brk.ret r)) (fun _ => law10_CdtPlays.l1 a0 k (w64 (x6_1 + 1), p127.Slots, p127.Objs, p127.NS, p127.NO, qv8_7))))))) else ((bif t20 == 2 then ((VM.run plainI (cdt_Unlink.f x14.A) qv8_1).bind fun (t205, s207) => (ref10_State_Unlink.f k (⟨y6_0_1, y6_1_1, y6_2_1, y6_3_1⟩ : ref10_State) x14.A).bind fun (t209, p210) => some (t209, t205, p210.Slots, p210.Objs, p210.NS, p210.NO, s207)) else ((VM.run plainI (cdt_Replace.f k x14.A x14.B) qv8_1).bind fun (t214, s216) => (ref10_State_Replace.f k (⟨y6_0_1, y6_1_1, y6_2_1, y6_3_1⟩ : ref10_State) x14.A x14.B).bind fun (t218, p219) => some (t218, t214, p219.Slots, p219.Objs, p219.NS, p219.NO, s216))).bind fun (j9_9, j10_9, y6_0_9, y6_1_9, y6_2_9, y6_3_9, qv8_9) => ((law00_Code.f k j10_9).bind fun t232 => bif t232 != j9_9 then (some (true, qv8_9)) else ((ref10_State_Words.f k (⟨y6_0_9, y6_1_9, y6_2_9, y6_3_9⟩ : ref10_State)).bind fun t235 => (ref10_Same.f k qv8_9 t235).bind fun t241 => bif !t241 then (some (true, qv8_9)) else ((VM.run plainI (cdt_Leaf.f k x14.A) qv8_9).bind fun (t245, s247) => (ref10_State_Leaf.f k (⟨y6_0_9, y6_1_9, y6_2_9, y6_3_9⟩ : ref10_State) x14.A).bind fun t249 => some (t245 != t249, s247)))).bind fun (j127_10, qv8_10) => bif j127_10 then (some (Brk.ret false)) else (bif !((((decide (0 ≤ x14.A)) && (decide (x14.A < 96))) && (decide (0 ≤ x14.B))) && (decide (x14.B < 96))) then (law10_CdtPlays.l1 a0 k (w64 (x6_1 + 1), y6_0_9, y6_1_9, y6_2_9, y6_3_9, qv8_10)) else ((VM.run plainI (cdt_Kids.f k x14.B) qv8_10).bind fun (t257, s259) => ((VM.run plainI (cdt_Parent.f x14.A) s259).bind fun (t263, s265) => (at_ y6_0_9 x14.A).bind fun x267 => bif t263 != x267.Parent then (some (true, s265)) else ((at_ y6_0_9 x14.B).bind fun x274 => some ((t257.length : Int) != (x274.Kids.length : Int), s265))).bind fun (j164_11, qv8_11) => bif j164_11 then (some (Brk.ret false)) else ((law10_CdtPlays.l12 x14 y6_0_9 t257 k 0).bind fun o12 => Brk.go o12 (fun r => some (Brk.ret r)) (fun _ => law10_CdtPlays.l1 a0 k (w64 (x6_1 + 1), y6_0_9, y6_1_9, y6_2_9, y6_3_9, qv8_11))))))) else (some (Brk.nx (y6_0_1, y6_1_1, y6_2_1, y6_3_1, qv8_1)))
def law10_CdtPlays.f (k : Nat) (a0 : List law10_Deed) : Option (Bool) :=
  (law10_up.f k ).bind fun t1 => bif decide (120 < (a0.length : Int)) then (some t1) else ((ref10_New.f k ).bind fun t4 => (mk_ 0 738).bind fun xs10 => (law10_CdtPlays.l1 a0 k (0, t4.Slots, t4.Objs, t4.NS, t4.NO, xs10)).bind fun o1 => Brk.go o1 (fun r => some r) (fun (y6_0_e1, y6_1_e1, y6_2_e1, y6_3_e1, qv8_e1) => some t1))
set_option maxHeartbeats 8000000 in
set_option maxRecDepth 100000 in
theorem law10_CdtPlays.ct (k : Nat) (v0 : Value) (a0 : List law10_Deed) (r0 : Bool) (h : law10_CdtPlays.f k a0 = some r0) :
    Ct Try.prog 3 [v0] (fun F => Rd ek_law10_Deed v0 a0 F) [] (fun u H' => u = .bool r0 ∧ H' = []) := by
  unfold law10_CdtPlays.f at h
  refine Ct.intro (n := 189) Try.func3 rfl rfl rfl ?_
  intro R w0 F hF hR
  have hF0 := hF
  refine S.seq ?_
  refine S.region ?_
  refine SO.v rfl (opv_assign rfl) ?_
  refine SO.nil ?_
  refine S.seq ?_
  refine S.region ?_
  obtain ⟨t1, ht2, h⟩ := opt_bind h
  refine SO.call (pre := []) rfl Try.call5 rfl rfl rfl (law10_up.ct _ _ ht2) trivial ?_
  rintro _ _ ⟨rfl, rfl⟩
  refine SO.v rfl (opv_assign rfl) ?_
  refine SO.nil ?_
  refine S.seq ?_
  refine S.seq ?_
  refine S.region ?_
  refine SO.v rfl (opv_move rfl) ?_
  refine SO.v rfl (opv_lenR rfl Try.underlying22 hF0 rfl) ?_
  refine SO.v rfl (opv_gtr rfl rfl) ?_
  refine SO.nil ?_
  rcases bool_or (decide (120 < (a0.length : Int))) with b3 | b3
  · replace h := cond_t b3 h
    refine S.condT rfl b3 ?_
    refine S.seq ?_
    refine S.region ?_
    refine SO.v rfl (opv_move rfl) ?_
    refine SO.v rfl (opv_assign rfl) ?_
    refine SO.nil ?_
    refine S.to (ρ' := [(2, .bool t1)]) ⟨rfl, trivial⟩ ?_
    cases h
    exact S.ret1 Try.func3 rfl rfl (fun w hs hk => hR w _ _ ⟨rfl, rfl⟩ hs hk)
  · replace h := cond_f b3 h
    refine S.condF rfl b3 ?_
    refine S.skip ?_
    refine S.seq ?_
    refine S.region ?_
    obtain ⟨t4, ht5, h⟩ := opt_bind h
    refine SO.call (pre := []) rfl Try.call6 rfl rfl rfl (ref10_New.ct _ _ ht5) trivial ?_
    rintro _ _ ⟨b6, u7_Slots, u7_Objs, rfl, rfl⟩
    refine SO.v rfl (opv_assign rfl) ?_
    refine SO.nil ?_
    refine S.seq ?_
    refine S.region ?_
    obtain ⟨xs10, hx11, h⟩ := opt_bind h
    refine SO.makeSlice (K := ekI .u64) rfl Try.underlying26 inf65 rfl rfl rfl (by decide) rfl rfl rfl hx11 (fun v8 hr9 => ?_)
    refine SO.v rfl (opv_assign rfl) ?_
    refine SO.nil ?_
    refine S.seq ?_
    refine S.seq ?_
    refine S.region ?_
    refine SO.v rfl (opv_assign rfl) ?_
    refine SO.nil ?_
    obtain ⟨o1, hl1, h⟩ := opt_bind h
    refine S.b4 ?_
    refine S.b2 ?_
    refine S.b2 ?_
    refine S.b3 ?_
    refine S.b4 ?_
    refine S.to (ρ' := [(6, .int .i64 0), (5, v8), (4, bp b6 0), (3, .bool t1), (2, .bool false), (0, v0)]) ⟨rfl, rfl, rfl, rfl, rfl, rfl, trivial⟩ ?_
    refine S.forloop (X := (Int × (List ref10_Slot) × (List ref10_Obj) × Int × Int × (List Int)) × (Value × Value)) (O := Brk Bool ((List ref10_Slot) × (List ref10_Obj) × Int × Int × (List Int))) (fun m x => law10_CdtPlays.l1 a0 m x.1) (fun x => match x with | ((x6_1, y6_0_1, y6_1_1, y6_2_1, y6_3_1, qv8_1), (vy6_0_1, vy6_1_1)) => [(6, .int .i64 x6_1), (5, v8), (4, bp b6 0), (3, .bool t1), (2, .bool false), (0, v0)]) (fun x => match x with | ((x6_1, y6_0_1, y6_1_1, y6_2_1, y6_3_1, qv8_1), (vy6_0_1, vy6_1_1)) => [OwnR 56 kr_ref10_Obj vy6_1_1 y6_1_1, OwnR 46 kr_ref10_Slot vy6_0_1 y6_0_1, Own 65 (ekI .u64) v8 qv8_1, Box b6 [vy6_0_1, vy6_1_1, .int .i64 y6_2_1, .int .i64 y6_3_1], F]) (fun Sk o' => (∀ r', o' = Brk.ret r' → some r' = some r0) ∧ ∀ j : ((List ref10_Slot) × (List ref10_Obj) × Int × Int × (List Int)), match j with | (y6_0_e1, y6_1_e1, y6_2_e1, y6_3_e1, qv8_e1) => ∀ g : (Value × Value), match g with | (vy6_0_e1, vy6_1_e1) => o' = Brk.nx (y6_0_e1, y6_1_e1, y6_2_e1, y6_3_e1, qv8_e1) → Sk [(2, .bool false), (3, .bool t1)] [OwnR 56 kr_ref10_Obj vy6_1_e1 y6_1_e1, OwnR 46 kr_ref10_Slot vy6_0_e1 y6_0_e1, Own 65 (ekI .u64) v8 qv8_e1, Box b6 [vy6_0_e1, vy6_1_e1, .int .i64 y6_2_e1, .int .i64 y6_3_e1], F]) (fun _ => rfl) ?_ (m := k) (x := ((0, t4.Slots, t4.Objs, t4.NS, t4.NO, xs10), (u7_Slots, u7_Objs))) hl1 ?_
    · clear h hl1
      intro k x o_1 h hK1 ih1
      obtain ⟨⟨x6_1, y6_0_1, y6_1_1, y6_2_1, y6_3_1, qv8_1⟩, ⟨vy6_0_1, vy6_1_1⟩⟩ := x
      replace h : law10_CdtPlays.l1 a0 (k + 1) (x6_1, y6_0_1, y6_1_1, y6_2_1, y6_3_1, qv8_1) = some o_1 := h
      first | rw [law10_CdtPlays.l1] at h | unfold law10_CdtPlays.l1 at h
      refine S.b2 ?_
      refine S.rd fun hr12 => ?_
      refine S.seq ?_
      refine S.seq ?_
      refine S.region ?_
      refine SO.v rfl (opv_move rfl) ?_
      refine SO.v rfl (opv_move rfl) ?_
      refine SO.v rfl (opv_lenR rfl Try.underlying22 hF0 rfl) ?_
      refine SO.v rfl (opv_lss rfl rfl) ?_
      refine SO.nil ?_
      rcases bool_or (decide (x6_1 < (a0.length : Int))) with b13 | b13
      · replace h := cond_t b13 h
        refine S.condT rfl b13 ?_
        refine S.skip ?_
        refine S.seq ?_
        refine S.block ?_
        refine S.seq ?_
        refine S.region ?_
        refine SO.v rfl (opv_move rfl) ?_
        refine SO.v rfl (opv_move rfl) ?_
        obtain ⟨x14, hx15, h⟩ := opt_bind h
        refine SO.v rfl (opv_idx Try.underlying22 Try.sizeOf29 hF0 rfl rfl hx15) ?_
        refine SO.loadIN rfl Try.isAgg29 Try.sizeOf29 (Rd.tail (Rd.tail (Rd.tail (Rd.tail (Rd.head hF0))))) hx15 rfl rfl rfl ?_
        refine SO.alloc rfl Try.zeroValue29 rfl (fun b16 => ?_)
        refine SO.storeN Try.sizeOf29 rfl rfl rfl rfl rfl rfl ?_
        refine SO.nil ?_
        refine S.to (ρ' := [(6, .int .i64 x6_1), (5, v8), (4, bp b6 0), (3, .bool t1), (2, .bool false), (0, v0), (7, bp b16 0)]) ⟨rfl, rfl, rfl, rfl, rfl, rfl, rfl, trivial⟩ ?_
        refine S.seq ?_
        refine S.region ?_
        refine SO.v rfl (opv_fieldAddr Try.underlying29 rfl Try.sizeOf3 rfl rfl) ?_
        refine SO.load1 rfl Try.isAgg3 rfl rfl ?_
        refine SO.v rfl (opv_geq rfl rfl) ?_
        refine SO.v rfl (opv_move rfl) ?_
        refine SO.cut 4 37 (.bool ((decide (0 ≤ x14.A)) && (decide (x14.A < 96)))) [Box b16 [.int .i64 x14.What, .int .i64 x14.A, .int .i64 x14.B], Own 65 (ekI .u64) v8 qv8_1, OwnR 56 kr_ref10_Obj vy6_1_1 y6_1_1, OwnR 46 kr_ref10_Slot vy6_0_1 y6_0_1, Box b6 [vy6_0_1, vy6_1_1, .int .i64 y6_2_1, .int .i64 y6_3_1], F] (fun l2 hk2 => ?_) ?_
        · rcases bool_or (decide (0 ≤ x14.A)) with b17 | b17
          · refine SO.takeT rfl rfl rfl b17 ?_
            refine SO.v rfl (opv_fieldAddr Try.underlying29 rfl Try.sizeOf3 rfl rfl) ?_
            refine SO.takeT rfl rfl rfl b17 ?_
            refine SO.load1 rfl Try.isAgg3 rfl rfl ?_
            refine SO.takeT rfl rfl rfl b17 ?_
            refine SO.v rfl (opv_lss rfl rfl) ?_
            refine SO.v rfl (opv_pick_t' b17 rfl rfl) ?_
            refine SO.b5 ?_
            refine SO.b5 ?_
            refine SO.b5 ?_
            refine SO.b5 ?_
            refine SO.b5 ?_
            refine SO.b5 ?_
            exact hk2.fitc (m := 4) rfl (and_t b17) rfl
          · refine SO.passF rfl rfl rfl b17 rfl rfl ?_
            refine SO.passF rfl rfl rfl b17 rfl rfl ?_
            refine SO.passF rfl rfl rfl b17 rfl rfl ?_
            refine SO.v rfl (opv_pick_f' b17 rfl rfl) ?_
            refine SO.b5 ?_
            refine SO.b5 ?_
            refine SO.b5 ?_
            refine SO.b5 ?_
            refine SO.b5 ?_
            refine SO.b5 ?_
            exact hk2.fitc (m := 4) rfl (and_f b17) rfl
        refine SO.v rfl (opv_move rfl) ?_
        refine SO.cut 4 42 (.bool (((decide (0 ≤ x14.A)) && (decide (x14.A < 96))) && (decide (0 ≤ x14.B)))) [Box b16 [.int .i64 x14.What, .int .i64 x14.A, .int .i64 x14.B], Own 65 (ekI .u64) v8 qv8_1, OwnR 56 kr_ref10_Obj vy6_1_1 y6_1_1, OwnR 46 kr_ref10_Slot vy6_0_1 y6_0_1, Box b6 [vy6_0_1, vy6_1_1, .int .i64 y6_2_1, .int .i64 y6_3_1], F] (fun l2 hk2 => ?_) ?_
        · rcases bool_or ((decide (0 ≤ x14.A)) && (decide (x14.A < 96))) with b18 | b18
          · refine SO.takeT rfl rfl rfl b18 ?_
            refine SO.v rfl (opv_fieldAddr Try.underlying29 rfl Try.sizeOf3 rfl rfl) ?_
            refine SO.takeT rfl rfl rfl b18 ?_
            refine SO.load1 rfl Try.isAgg3 rfl rfl ?_
            refine SO.takeT rfl rfl rfl b18 ?_
            refine SO.v rfl (opv_geq rfl rfl) ?_
            refine SO.v rfl (opv_pick_t' b18 rfl rfl) ?_
            refine SO.b5 ?_
            refine SO.b5 ?_
            refine SO.b5 ?_
            refine SO.b5 ?_
            refine SO.b5 ?_
            refine SO.b5 ?_
            exact hk2.fitc (m := 4) rfl (and_t b18) rfl
          · refine SO.passF rfl rfl rfl b18 rfl rfl ?_
            refine SO.passF rfl rfl rfl b18 rfl rfl ?_
            refine SO.passF rfl rfl rfl b18 rfl rfl ?_
            refine SO.v rfl (opv_pick_f' b18 rfl rfl) ?_
            refine SO.b5 ?_
            refine SO.b5 ?_
            refine SO.b5 ?_
            refine SO.b5 ?_
            refine SO.b5 ?_
            refine SO.b5 ?_
            exact hk2.fitc (m := 4) rfl (and_f b18) rfl
        refine SO.v rfl (opv_move rfl) ?_
        refine SO.cut 4 47 (.bool ((((decide (0 ≤ x14.A)) && (decide (x14.A < 96))) && (decide (0 ≤ x14.B))) && (decide (x14.B < 96)))) [Box b16 [.int .i64 x14.What, .int .i64 x14.A, .int .i64 x14.B], Own 65 (ekI .u64) v8 qv8_1, OwnR 56 kr_ref10_Obj vy6_1_1 y6_1_1, OwnR 46 kr_ref10_Slot vy6_0_1 y6_0_1, Box b6 [vy6_0_1, vy6_1_1, .int .i64 y6_2_1, .int .i64 y6_3_1], F] (fun l2 hk2 => ?_) ?_
        · rcases bool_or (((decide (0 ≤ x14.A)) && (decide (x14.A < 96))) && (decide (0 ≤ x14.B))) with b19 | b19
          · refine SO.takeT rfl rfl rfl b19 ?_
            refine SO.v rfl (opv_fieldAddr Try.underlying29 rfl Try.sizeOf3 rfl rfl) ?_
            refine SO.takeT rfl rfl rfl b19 ?_
            refine SO.load1 rfl Try.isAgg3 rfl rfl ?_
            refine SO.takeT rfl rfl rfl b19 ?_
            refine SO.v rfl (opv_lss rfl rfl) ?_
            refine SO.v rfl (opv_pick_t' b19 rfl rfl) ?_
            refine SO.b5 ?_
            refine SO.b5 ?_
            refine SO.b5 ?_
            refine SO.b5 ?_
            refine SO.b5 ?_
            refine SO.b5 ?_
            exact hk2.fitc (m := 4) rfl (and_t b19) rfl
          · refine SO.passF rfl rfl rfl b19 rfl rfl ?_
            refine SO.passF rfl rfl rfl b19 rfl rfl ?_
            refine SO.passF rfl rfl rfl b19 rfl rfl ?_
            refine SO.v rfl (opv_pick_f' b19 rfl rfl) ?_
            refine SO.b5 ?_
            refine SO.b5 ?_
            refine SO.b5 ?_
            refine SO.b5 ?_
            refine SO.b5 ?_
            refine SO.b5 ?_
            exact hk2.fitc (m := 4) rfl (and_f b19) rfl
        refine SO.v rfl (opv_assign rfl) ?_
        refine SO.nil ?_
        refine S.to (ρ' := [(6, .int .i64 x6_1), (5, v8), (4, bp b6 0), (3, .bool t1), (2, .bool false), (0, v0), (7, bp b16 0), (8, .bool ((((decide (0 ≤ x14.A)) && (decide (x14.A < 96))) && (decide (0 ≤ x14.B))) && (decide (x14.B < 96))))]) ⟨rfl, rfl, rfl, rfl, rfl, rfl, rfl, rfl, trivial⟩ ?_
        refine S.seq ?_
        refine S.region ?_
        refine SO.v rfl (opv_assign rfl) ?_
        refine SO.nil ?_
        refine S.seq ?_
        refine S.region ?_
        refine SO.v rfl (opv_assign rfl) ?_
        refine SO.nil ?_
        refine S.seq ?_
        refine S.seq ?_
        refine S.region ?_
        refine SO.v rfl (opv_fieldAddr Try.underlying29 rfl Try.sizeOf3 rfl rfl) ?_
        refine SO.load1 rfl Try.isAgg3 rfl rfl ?_
        obtain ⟨t20, ht21, h⟩ := opt_bind h
        refine SO.call (pre := []) rfl Try.call7 rfl rfl rfl (law10_Pick.ct _ _ _ ht21) trivial ?_
        rintro _ _ ⟨rfl, rfl⟩
        refine SO.nil ?_
        refine S.block ?_
        refine S.seq ?_
        refine S.seq ?_
        refine S.region ?_
        refine SO.v rfl (opv_eql rfl rfl) ?_
        refine SO.v rfl (opv_assign rfl) ?_
        refine SO.nil ?_
        obtain ⟨j64_2, hC2, hJ2⟩ := opt_bind h
        clear h
        refine S.cutP (G := Unit) (fun _ => True) (fun _ => [(0, v0), (2, .bool false), (3, .bool t1), (4, bp b6 0), (5, v8), (6, .int .i64 x6_1), (7, bp b16 0), (8, .bool ((((decide (0 ≤ x14.A)) && (decide (x14.A < 96))) && (decide (0 ≤ x14.B))) && (decide (x14.B < 96)))), (50, .int .i64 t20), (64, .bool j64_2)]) (fun _ => [Box b16 [.int .i64 x14.What, .int .i64 x14.A, .int .i64 x14.B], Own 65 (ekI .u64) v8 qv8_1, OwnR 56 kr_ref10_Obj vy6_1_1 y6_1_1, OwnR 46 kr_ref10_Slot vy6_0_1 y6_0_1, Box b6 [vy6_0_1, vy6_1_1, .int .i64 y6_2_1, .int .i64 y6_3_1], F]) (fun hk2 => ?_) ?_
        · replace h := hC2
          rcases bool_or (t20 == 0) with b22 | b22
          · replace h := cond_t b22 h
            refine S.condT rfl b22 ?_
            refine S.skip ?_
            cases h
            refine S.b5 ?_
            refine S.b5 ?_
            refine S.b5 ?_
            refine S.b5 ?_
            refine S.b5 ?_
            refine S.b5 ?_
            refine S.to ?_ (hk2 () trivial)
            exact ⟨rfl, rfl, rfl, rfl, rfl, rfl, rfl, rfl, rfl, rfl, trivial⟩
          · replace h := cond_f b22 h
            refine S.condF rfl b22 ?_
            refine S.region ?_
            refine SO.v rfl (opv_eql rfl rfl) ?_
            refine SO.v rfl (opv_assign rfl) ?_
            refine SO.nil ?_
            cases h
            refine S.b5 ?_
            refine S.b5 ?_
            refine S.b5 ?_
            refine S.b5 ?_
            refine S.b5 ?_
            refine S.b5 ?_
            refine S.to ?_ (hk2 () trivial)
            exact ⟨rfl, rfl, rfl, rfl, rfl, rfl, rfl, rfl, rfl, rfl, trivial⟩
        rintro _ -
        replace h := hJ2
        rcases bool_or j64_2 with b23 | b23
        · replace h := cond_t b23 h
          refine S.condT rfl b23 ?_
          refine S.seq ?_
          refine S.seq ?_
          refine S.region ?_
          refine SO.v rfl (opv_move rfl) ?_
          refine SO.nil ?_
          rcases bool_or ((((decide (0 ≤ x14.A)) && (decide (x14.A < 96))) && (decide (0 ≤ x14.B))) && (decide (x14.B < 96))) with b24 | b24
          · replace h := cond_t b24 h
            refine S.condT rfl b24 ?_
            refine S.seq ?_
            refine S.region ?_
            refine SO.v rfl (opv_fieldAddr Try.underlying29 rfl Try.sizeOf3 rfl rfl) ?_
            refine SO.load1 rfl Try.isAgg3 rfl rfl ?_
            refine SO.v rfl (opv_fieldAddr Try.underlying29 rfl Try.sizeOf3 rfl rfl) ?_
            refine SO.load1 rfl Try.isAgg3 rfl rfl ?_
            refine SO.v rfl (opv_neq rfl rfl) ?_
            refine SO.v rfl (opv_move rfl) ?_
            refine SO.b2 ?_
            refine SO.openR fun raws25 A26 hrel27 hR28 => ?_
            refine SO.b3 ?_
            refine SO.openR fun raws29 A30 hrel31 hR32 => ?_
            obtain ⟨c34, hc35, hgk⟩ := opt_bind h
            refine SO.cut 7 80 (.bool c34) [OwnO 46 kr_ref10_Slot vy6_0_1 raws29 A30 y6_0_1, OwnO 56 kr_ref10_Obj vy6_1_1 raws25 A26 y6_1_1, Box b16 [.int .i64 x14.What, .int .i64 x14.A, .int .i64 x14.B], Own 65 (ekI .u64) v8 qv8_1, Box b6 [vy6_0_1, vy6_1_1, .int .i64 y6_2_1, .int .i64 y6_3_1], F] (fun l2 hk2 => ?_) ?_
            · clear hgk
              replace h := hc35
              rcases bool_or (x14.A != x14.B) with b33 | b33
              · replace h := cond_t b33 h
                refine SO.takeT rfl rfl rfl b33 ?_
                refine SO.v rfl (opv_move rfl) ?_
                refine SO.takeT rfl rfl rfl b33 ?_
                refine SO.v rfl (opv_fieldAddr Try.underlying29 rfl Try.sizeOf3 rfl rfl) ?_
                refine SO.takeT rfl rfl rfl b33 ?_
                refine SO.b2 ?_
                refine SO.load1 rfl Try.isAgg3 rfl rfl ?_
                refine SO.takeT rfl rfl rfl b33 ?_
                refine SO.v rfl (opv_fieldAddr Try.underlying29 rfl Try.sizeOf3 rfl rfl) ?_
                refine SO.takeT rfl rfl rfl b33 ?_
                refine SO.load1 rfl Try.isAgg3 rfl rfl ?_
                refine SO.takeT rfl rfl rfl b33 ?_
                obtain ⟨t36, ht37, h⟩ := opt_bind h
                refine SO.b2 ?_
                refine SO.b2 ?_
                refine SO.b4 ?_
                have ct38 := law10_above.ct _ b6 vy6_0_1 vy6_1_1 raws29 A30 raws25 A26 _ _ _ _ ht37
                dsimp only at ct38
                refine SO.call (pre := [Box _ _, OwnO _ _ _ _ _ _, OwnO _ _ _ _ _ _]) rfl Try.call8 rfl rfl rfl ct38 trivial ?_
                rintro _ _ ⟨rfl, rfl⟩
                cases h
                refine SO.v rfl (opv_pick_t' b33 rfl rfl) ?_
                refine SO.b5 ?_
                refine SO.b1 ?_
                refine SO.b5 ?_
                refine SO.b5 ?_
                refine SO.b5 ?_
                refine SO.b5 ?_
                exact hk2.fitc (m := 7) rfl (rfl) rfl
              · replace h := cond_f b33 h
                refine SO.passF rfl rfl rfl b33 rfl rfl ?_
                refine SO.passF rfl rfl rfl b33 rfl rfl ?_
                refine SO.passF rfl rfl rfl b33 rfl rfl ?_
                refine SO.passF rfl rfl rfl b33 rfl rfl ?_
                refine SO.passF rfl rfl rfl b33 rfl rfl ?_
                refine SO.passF rfl rfl rfl b33 rfl rfl ?_
                cases h
                refine SO.v rfl (opv_pick_f' b33 rfl rfl) ?_
                refine SO.b5 ?_
                refine SO.b5 ?_
                refine SO.b5 ?_
                refine SO.b5 ?_
                refine SO.b5 ?_
                refine SO.b5 ?_
                exact hk2.fitc (m := 7) rfl (rfl) rfl
            clear hc35
            replace h := hgk
            refine SO.nil ?_
            refine S.to (ρ' := [(0, v0), (2, .bool false), (3, .bool t1), (4, bp b6 0), (5, v8), (6, .int .i64 x6_1), (7, bp b16 0), (8, .bool ((((decide (0 ≤ x14.A)) && (decide (x14.A < 96))) && (decide (0 ≤ x14.B))) && (decide (x14.B < 96)))), (80, .bool c34)]) ⟨rfl, rfl, rfl, rfl, rfl, rfl, rfl, rfl, rfl, trivial⟩ ?_
            rcases bool_or c34 with b39 | b39
            · replace h := cond_t b39 h
              refine S.condT rfl b39 ?_
              refine S.exit rfl ?_
              refine S.region ?_
              refine SO.v rfl (opv_move rfl) ?_
              refine SO.v rfl (opv_add rfl rfl) ?_
              refine SO.v rfl (opv_assign rfl) ?_
              refine SO.nil ?_
              refine S.closeR ?_
              refine S.b1 ?_
              refine S.closeR ?_
              refine S.b2 ?_
              refine S.drop ?_
              refine S.b4 ?_
              refine S.b4 ?_
              refine S.b4 ?_
              refine S.b4 ?_
              refine S.b4 ?_
              refine S.to ?_ (ih1 ((w64 (x6_1 + 1), y6_0_1, y6_1_1, y6_2_1, y6_3_1, qv8_1), (vy6_0_1, vy6_1_1)) h)
              exact ⟨rfl, rfl, rfl, rfl, rfl, rfl, trivial⟩
            · replace h := cond_f b39 h
              refine S.condF rfl b39 ?_
              refine S.skip ?_
              refine S.seq ?_
              refine S.region ?_
              refine SO.v rfl (opv_move rfl) ?_
              refine SO.v rfl (opv_iface Try.underlying27 rfl rfl) ?_
              refine SO.v rfl (opv_fieldAddr Try.underlying29 rfl Try.sizeOf3 rfl rfl) ?_
              refine SO.b2 ?_
              refine SO.load1 rfl Try.isAgg3 rfl rfl ?_
              refine SO.v rfl (opv_fieldAddr Try.underlying29 rfl Try.sizeOf3 rfl rfl) ?_
              refine SO.load1 rfl Try.isAgg3 rfl rfl ?_
              obtain ⟨⟨t40, s42⟩, ht41, h⟩ := opt_bind h
              refine SO.b3 ?_
              refine SO.call (pre := [(plainV v8).rep _]) rfl Try.call9 rfl rfl rfl (cdt_Link.ct (plainV v8) _ _ _ _ _ ht41) trivial ?_
              rintro _ _ ⟨rfl, rfl⟩
              refine headEq (plainV_rep _ _) ?_
              refine SO.rd fun hr43 => ?_
              refine SO.v rfl (opv_assign rfl) ?_
              refine SO.nil ?_
              refine S.to (ρ' := [(0, v0), (2, .bool false), (3, .bool t1), (4, bp b6 0), (5, v8), (6, .int .i64 x6_1), (7, bp b16 0), (8, .bool ((((decide (0 ≤ x14.A)) && (decide (x14.A < 96))) && (decide (0 ≤ x14.B))) && (decide (x14.B < 96)))), (10, errV 53 t40)]) ⟨rfl, rfl, rfl, rfl, rfl, rfl, rfl, rfl, rfl, trivial⟩ ?_
              refine S.region ?_
              refine SO.v rfl (opv_move rfl) ?_
              refine SO.v rfl (opv_fieldAddr Try.underlying29 rfl Try.sizeOf3 rfl rfl) ?_
              refine SO.b1 ?_
              refine SO.load1 rfl Try.isAgg3 rfl rfl ?_
              refine SO.v rfl (opv_fieldAddr Try.underlying29 rfl Try.sizeOf3 rfl rfl) ?_
              refine SO.load1 rfl Try.isAgg3 rfl rfl ?_
              obtain ⟨⟨t44, p45⟩, ht46, h⟩ := opt_bind h
              refine SO.b2 ?_
              refine SO.closeR ?_
              refine SO.b3 ?_
              refine SO.closeR ?_
              refine SO.b1 ?_
              refine SO.b4 ?_
              have ct121 := ref10_State_Link.ct b6 vy6_0_1 vy6_1_1 _ _ _ _ _ ht46
              dsimp only at ct121
              refine SO.call (pre := [Box _ _, OwnR _ _ _ _, OwnR _ _ _ _]) rfl Try.call10 rfl rfl rfl ct121 trivial ?_
              rintro _ _ ⟨u47_Slots, u47_Objs, rfl, rfl⟩
              refine SO.v rfl (opv_assign rfl) ?_
              refine SO.nil ?_
              refine S.inBlock ?_
              refine S.seq ?_
              refine S.seq ?_
              refine S.b1 ?_
              refine S.openR fun raws48 A49 hrel50 hR51 => ?_
              refine S.b2 ?_
              refine S.openR fun raws52 A53 hrel54 hR55 => ?_
              obtain ⟨⟨j127_3, qv8_3⟩, hC3, hJ3⟩ := opt_bind h
              clear h
              refine S.cutP (G := Unit) (fun _ => True) (fun _ => [(0, v0), (2, .bool false), (3, .bool t1), (4, bp b6 0), (5, v8), (6, .int .i64 x6_1), (7, bp b16 0), (8, .bool ((((decide (0 ≤ x14.A)) && (decide (x14.A < 96))) && (decide (0 ≤ x14.B))) && (decide (x14.B < 96)))), (127, .bool j127_3)]) (fun _ => [OwnO 56 kr_ref10_Obj u47_Objs raws52 A53 p45.Objs, OwnO 46 kr_ref10_Slot u47_Slots raws48 A49 p45.Slots, Box b6 [u47_Slots, u47_Objs, .int .i64 p45.NS, .int .i64 p45.NO], Box b16 [.int .i64 x14.What, .int .i64 x14.A, .int .i64 x14.B], Own 65 (ekI .u64) v8 qv8_3, F]) (fun hk3 => ?_) ?_
              · replace h := hC3
                obtain ⟨t56, ht57, h⟩ := opt_bind h
                rcases bool_or (t56 != t44) with b58 | b58
                · replace h := cond_t b58 h
                  refine S.draw' (Z := fun Q => ∀ (_ : Unit) (_ : Unit) (_ : Unit) (_ : Unit) (_ : Unit) (_ : Unit) (_ : Unit) (_ : Unit) (_ : Unit) (_ : Unit) (_ : Unit), Q [(0, v0), (2, .bool false), (3, .bool t1), (6, .int .i64 x6_1), (8, .bool ((((decide (0 ≤ x14.A)) && (decide (x14.A < 96))) && (decide (0 ≤ x14.B))) && (decide (x14.B < 96)))), (4, bp b6 0), (5, v8), (7, bp b16 0), (127, .bool true)] [OwnO 56 kr_ref10_Obj u47_Objs raws52 A53 p45.Objs, OwnO 46 kr_ref10_Slot u47_Slots raws48 A49 p45.Slots, Box b6 [u47_Slots, u47_Objs, .int .i64 p45.NS, .int .i64 p45.NO], Box b16 [.int .i64 x14.What, .int .i64 x14.A, .int .i64 x14.B], Own 65 (ekI .u64) v8 s42, F]) (T := [tS 10 (errV 53 t40), tS 9 (.int .i64 t44), tS 5 (v8), tS 4 (bp b6 0), tS 7 (bp b16 0), tE [(0, v0), (2, .bool false), (3, .bool t1), (6, .int .i64 x6_1), (8, .bool ((((decide (0 ≤ x14.A)) && (decide (x14.A < 96))) && (decide (0 ≤ x14.B))) && (decide (x14.B < 96))))], tR (OwnO 56 kr_ref10_Obj u47_Objs raws52 A53 p45.Objs), tR (OwnO 46 kr_ref10_Slot u47_Slots raws48 A49 p45.Slots), tR (Box b6 [u47_Slots, u47_Objs, .int .i64 p45.NS, .int .i64 p45.NO]), tR (Box b16 [.int .i64 x14.What, .int .i64 x14.A, .int .i64 x14.B]), tR (Own 65 (ekI .u64) v8 s42), tR (F), tS 105 (errV 53 t40), tS 106 (.int .i64 t56), tS 107 (.int .i64 t44), tS 108 (.bool (t56 != t44)), tS 109 (.bool (t56 != t44)), tS 110 (undef), tS 111 (undef), tS 112 (undef), tS 113 (undef), tS 114 (undef), tS 115 (.bool true), tS 116 (.bool true), tS 117 (undef), tS 118 (undef), tS 119 (undef), tS 120 (undef), tS 121 (undef), tS 122 (undef), tS 123 (undef), tS 124 (undef), tS 125 (undef), tS 126 (undef), tS 127 (.bool true)]) (D := [⟨[0], [], [12]⟩, ⟨[12], [], [13]⟩, ⟨[1], [], [14]⟩, ⟨[13, 14], [], [15]⟩, ⟨[15], [], [16]⟩, ⟨[16], [], [17]⟩, ⟨[16], [], [18]⟩, ⟨[16], [], [19]⟩, ⟨[16], [], [20]⟩, ⟨[16], [], [21]⟩, ⟨[16, 21], [], [22]⟩, ⟨[22], [], [23]⟩, ⟨[23], [], [24]⟩, ⟨[23], [], [25]⟩, ⟨[23], [], [26]⟩, ⟨[23], [], [27]⟩, ⟨[23], [], [28]⟩, ⟨[23], [], [29]⟩, ⟨[23], [], [30]⟩, ⟨[23], [], [31]⟩, ⟨[23], [], [32]⟩, ⟨[23], [], [33]⟩, ⟨[23, 33], [], [34]⟩]) (ini := [0, 1, 2, 3, 4, 5, 6, 7, 8, 9, 10, 11]) (fin := [5, 3, 2, 4, 34, 6, 7, 8, 9, 10, 11]) (bf := [[], [0], [], [0, 1, 2], [0, 1, 2, 3], [0, 1, 2, 3, 4], [0, 1, 2, 3, 4], [0, 1, 2, 3, 4, 6], [0, 1, 2, 3, 4, 5, 6, 7], [0, 1, 2, 3, 4, 5, 6, 7, 8], [0, 1, 2, 3, 4, 5, 6, 7, 8, 9], [0, 1, 2, 3, 4, 5, 6, 7, 8, 9, 10], [0, 1, 2, 3, 4, 5, 6, 7, 8, 9, 10, 11], [0, 1, 2, 3, 4, 5, 6, 7, 8, 9, 10, 11, 12], [0, 1, 2, 3, 4, 5, 6, 7, 8, 9, 10, 11], [0, 1, 2, 3, 4, 5, 6, 7, 8, 9, 10, 11, 14], [0, 1, 2, 3, 4, 5, 6, 7, 8, 9, 10, 11, 12, 13, 14, 15], [0, 1, 2, 3, 4, 5, 6, 7, 8, 9, 10, 11], [0, 1, 2, 3, 4, 5, 6, 7, 8, 9, 10, 11], [0, 1, 2, 3, 4, 5, 6, 7, 8, 9, 10, 11, 18], [0, 1, 2, 3, 4, 5, 6, 7, 8, 9, 10, 11, 12, 13, 14, 15, 16, 17, 18, 19], [0, 1, 2, 3, 4, 5, 6, 7, 8, 9, 10, 11, 12, 13, 14, 15, 16, 17, 18, 19, 20], [0, 1, 2, 3, 4, 5, 6, 7, 8, 9, 10, 11, 12, 13, 14, 15, 16, 17, 18, 19, 20, 21]]) (by kernel_rfl) (by kernel_rfl) (fun x w h1 h2 => (.cons () (.cons () (.cons () (.cons () (.cons () (.cons () (.cons () (.cons () (.cons () (.cons () (.cons () (.cons () (.nil ⟨EnvAll.of h1 ⟨rfl, rfl, rfl, rfl, rfl, rfl, rfl, rfl, rfl, rfl, trivial⟩, h2⟩)))))))))))))) (fun Q => by kernel_rfl) ⟨?_, ?_, ?_, ?_, ?_, ?_, ?_, ?_, ?_, ?_, ?_, ?_, ?_, ?_, ?_, ?_, ?_, ?_, ?_, ?_, ?_, ?_, ?_, trivial⟩ ?_
                  · rintro Fr _
                    refine SO.v rfl (opv_move rfl) ?_
                    exact SO.nilZ fun a w h1 h2 h3 h4 h5 => PZ.of h1 h3 h5 (.cons () (.cons () (.nil ⟨EnvAll.of h2 ⟨rfl, rfl, trivial⟩, h4⟩)))
                  · rintro Fr _
                    refine SO.call (pre := []) rfl Try.call15 rfl rfl rfl (law00_Code.ct _ _ _ ht57) trivial ?_
                    rintro _ _ ⟨rfl, rfl⟩
                    exact SO.nilZ fun a w h1 h2 h3 h4 h5 => PZ.of h1 h3 h5 (.cons () (.cons () (.nil ⟨EnvAll.of h2 ⟨rfl, rfl, trivial⟩, h4⟩)))
                  · rintro Fr _
                    refine SO.v rfl (opv_move rfl) ?_
                    exact SO.nilZ fun a w h1 h2 h3 h4 h5 => PZ.of h1 h3 h5 (.cons () (.cons () (.nil ⟨EnvAll.of h2 ⟨rfl, rfl, trivial⟩, h4⟩)))
                  · rintro Fr _ _
                    refine SO.v rfl (opv_neq rfl rfl) ?_
                    exact SO.nilZ fun a w h1 h2 h3 h4 h5 => PZ.of h1 h3 h5 (.cons () (.cons () (.cons () (.nil ⟨EnvAll.of h2 ⟨rfl, rfl, rfl, trivial⟩, h4⟩))))
                  · rintro Fr _
                    refine SO.v rfl (opv_move rfl) ?_
                    exact SO.nilZ fun a w h1 h2 h3 h4 h5 => PZ.of h1 h3 h5 (.cons () (.cons () (.nil ⟨EnvAll.of h2 ⟨rfl, rfl, trivial⟩, h4⟩)))
                  · rintro Fr _
                    refine SO.passF rfl rfl rfl b58 rfl rfl ?_
                    exact SO.nilZ fun a w h1 h2 h3 h4 h5 => PZ.of h1 h3 h5 (.cons () (.cons () (.nil ⟨EnvAll.of h2 ⟨rfl, rfl, trivial⟩, h4⟩)))
                  · rintro Fr _
                    refine SO.passF rfl rfl rfl b58 rfl rfl ?_
                    exact SO.nilZ fun a w h1 h2 h3 h4 h5 => PZ.of h1 h3 h5 (.cons () (.cons () (.nil ⟨EnvAll.of h2 ⟨rfl, rfl, trivial⟩, h4⟩)))
                  · rintro Fr _
                    refine SO.passF rfl rfl rfl b58 rfl rfl ?_
                    exact SO.nilZ fun a w h1 h2 h3 h4 h5 => PZ.of h1 h3 h5 (.cons () (.cons () (.nil ⟨EnvAll.of h2 ⟨rfl, rfl, trivial⟩, h4⟩)))
                  · rintro Fr _
                    refine SO.passF rfl rfl rfl b58 rfl rfl ?_
                    exact SO.nilZ fun a w h1 h2 h3 h4 h5 => PZ.of h1 h3 h5 (.cons () (.cons () (.nil ⟨EnvAll.of h2 ⟨rfl, rfl, trivial⟩, h4⟩)))
                  · rintro Fr _
                    refine SO.passF rfl rfl rfl b58 rfl rfl ?_
                    exact SO.nilZ fun a w h1 h2 h3 h4 h5 => PZ.of h1 h3 h5 (.cons () (.cons () (.nil ⟨EnvAll.of h2 ⟨rfl, rfl, trivial⟩, h4⟩)))
                  · rintro Fr _ _
                    refine SO.v rfl (opv_pick_t' b58 rfl rfl) ?_
                    exact SO.nilZ fun a w h1 h2 h3 h4 h5 => PZ.of h1 h3 h5 (.cons () (.cons () (.cons () (.nil ⟨EnvAll.of h2 ⟨rfl, rfl, rfl, trivial⟩, h4⟩))))
                  · rintro Fr _
                    refine SO.v rfl (opv_move rfl) ?_
                    exact SO.nilZ fun a w h1 h2 h3 h4 h5 => PZ.of h1 h3 h5 (.cons () (.cons () (.nil ⟨EnvAll.of h2 ⟨rfl, rfl, trivial⟩, h4⟩)))
                  · rintro Fr _
                    refine SO.passF rfl rfl rfl rfl rfl rfl ?_
                    exact SO.nilZ fun a w h1 h2 h3 h4 h5 => PZ.of h1 h3 h5 (.cons () (.cons () (.nil ⟨EnvAll.of h2 ⟨rfl, rfl, trivial⟩, h4⟩)))
                  · rintro Fr _
                    refine SO.passF rfl rfl rfl rfl rfl rfl ?_
                    exact SO.nilZ fun a w h1 h2 h3 h4 h5 => PZ.of h1 h3 h5 (.cons () (.cons () (.nil ⟨EnvAll.of h2 ⟨rfl, rfl, trivial⟩, h4⟩)))
                  · rintro Fr _
                    refine SO.passF rfl rfl rfl rfl rfl rfl ?_
                    exact SO.nilZ fun a w h1 h2 h3 h4 h5 => PZ.of h1 h3 h5 (.cons () (.cons () (.nil ⟨EnvAll.of h2 ⟨rfl, rfl, trivial⟩, h4⟩)))
                  · rintro Fr _
                    refine SO.passF rfl rfl rfl rfl rfl rfl ?_
                    exact SO.nilZ fun a w h1 h2 h3 h4 h5 => PZ.of h1 h3 h5 (.cons () (.cons () (.nil ⟨EnvAll.of h2 ⟨rfl, rfl, trivial⟩, h4⟩)))
                  · rintro Fr _
                    refine SO.passF rfl rfl rfl rfl rfl rfl ?_
                    exact SO.nilZ fun a w h1 h2 h3 h4 h5 => PZ.of h1 h3 h5 (.cons () (.cons () (.nil ⟨EnvAll.of h2 ⟨rfl, rfl, trivial⟩, h4⟩)))
                  · rintro Fr _
                    refine SO.passF rfl rfl rfl rfl rfl rfl ?_
                    exact SO.nilZ fun a w h1 h2 h3 h4 h5 => PZ.of h1 h3 h5 (.cons () (.cons () (.nil ⟨EnvAll.of h2 ⟨rfl, rfl, trivial⟩, h4⟩)))
                  · rintro Fr _
                    refine SO.passF rfl rfl rfl rfl rfl rfl ?_
                    exact SO.nilZ fun a w h1 h2 h3 h4 h5 => PZ.of h1 h3 h5 (.cons () (.cons () (.nil ⟨EnvAll.of h2 ⟨rfl, rfl, trivial⟩, h4⟩)))
                  · rintro Fr _
                    refine SO.passF rfl rfl rfl rfl rfl rfl ?_
                    exact SO.nilZ fun a w h1 h2 h3 h4 h5 => PZ.of h1 h3 h5 (.cons () (.cons () (.nil ⟨EnvAll.of h2 ⟨rfl, rfl, trivial⟩, h4⟩)))
                  · rintro Fr _
                    refine SO.passF rfl rfl rfl rfl rfl rfl ?_
                    exact SO.nilZ fun a w h1 h2 h3 h4 h5 => PZ.of h1 h3 h5 (.cons () (.cons () (.nil ⟨EnvAll.of h2 ⟨rfl, rfl, trivial⟩, h4⟩)))
                  · rintro Fr _
                    refine SO.passF rfl rfl rfl rfl rfl rfl ?_
                    exact SO.nilZ fun a w h1 h2 h3 h4 h5 => PZ.of h1 h3 h5 (.cons () (.cons () (.nil ⟨EnvAll.of h2 ⟨rfl, rfl, trivial⟩, h4⟩)))
                  · rintro Fr _ _
                    refine SO.v rfl (opv_pick_tt rfl rfl) ?_
                    exact SO.nilZ fun a w h1 h2 h3 h4 h5 => PZ.of h1 h3 h5 (.cons () (.cons () (.cons () (.nil ⟨EnvAll.of h2 ⟨rfl, rfl, rfl, trivial⟩, h4⟩))))
                  rintro _ _ _ _ _ _ _ _ _ _ _
                  refine S.to (ρ' := [(0, v0), (2, .bool false), (3, .bool t1), (6, .int .i64 x6_1), (8, .bool ((((decide (0 ≤ x14.A)) && (decide (x14.A < 96))) && (decide (0 ≤ x14.B))) && (decide (x14.B < 96)))), (4, bp b6 0), (5, v8), (7, bp b16 0), (127, .bool true)]) ⟨rfl, rfl, rfl, rfl, rfl, rfl, rfl, rfl, rfl, trivial⟩ ?_
                  cases h
                  refine S.b5 ?_
                  refine S.b5 ?_
                  refine S.b5 ?_
                  refine S.b5 ?_
                  refine S.b5 ?_
                  refine S.b5 ?_
                  refine S.to ?_ (hk3 () trivial)
                  exact ⟨rfl, rfl, rfl, rfl, rfl, rfl, rfl, rfl, rfl, trivial⟩
                · replace h := cond_f b58 h
                  obtain ⟨t59, ht60, h⟩ := opt_bind h
                  obtain ⟨t64, ht65, h⟩ := opt_bind h
                  rcases bool_or (!t64) with b66 | b66
                  · replace h := cond_t b66 h
                    refine S.draw' (Z := fun Q => ∀ (_ : Unit) (_ : Unit) (_ : Unit) (_ : Unit) (_ : Unit) (v61 : Value) (_ : Unit) (_ : Unit) (_ : Unit) (_ : Unit) (_ : Unit) (_ : Unit), Q [(0, v0), (2, .bool false), (3, .bool t1), (6, .int .i64 x6_1), (8, .bool ((((decide (0 ≤ x14.A)) && (decide (x14.A < 96))) && (decide (0 ≤ x14.B))) && (decide (x14.B < 96)))), (4, bp b6 0), (5, v8), (7, bp b16 0), (127, .bool true), (112, v61)] [Own 65 (ekI .u64) v61 t59, OwnO 56 kr_ref10_Obj u47_Objs raws52 A53 p45.Objs, OwnO 46 kr_ref10_Slot u47_Slots raws48 A49 p45.Slots, Box b6 [u47_Slots, u47_Objs, .int .i64 p45.NS, .int .i64 p45.NO], Box b16 [.int .i64 x14.What, .int .i64 x14.A, .int .i64 x14.B], Own 65 (ekI .u64) v8 s42, F]) (T := [tS 10 (errV 53 t40), tS 9 (.int .i64 t44), tS 5 (v8), tS 4 (bp b6 0), tS 7 (bp b16 0), tE [(0, v0), (2, .bool false), (3, .bool t1), (6, .int .i64 x6_1), (8, .bool ((((decide (0 ≤ x14.A)) && (decide (x14.A < 96))) && (decide (0 ≤ x14.B))) && (decide (x14.B < 96))))], tR (OwnO 56 kr_ref10_Obj u47_Objs raws52 A53 p45.Objs), tR (OwnO 46 kr_ref10_Slot u47_Slots raws48 A49 p45.Slots), tR (Box b6 [u47_Slots, u47_Objs, .int .i64 p45.NS, .int .i64 p45.NO]), tR (Box b16 [.int .i64 x14.What, .int .i64 x14.A, .int .i64 x14.B]), tR (Own 65 (ekI .u64) v8 s42), tR (F), tS 105 (errV 53 t40), tS 106 (.int .i64 t56), tS 107 (.int .i64 t44), tS 108 (.bool (t56 != t44)), tS 109 (.bool (t56 != t44)), tS 110 (v8), tS 111 (bp b6 0), ⟨Value, [112], (fun v61 => [(112, v61)]), (fun v61 => [Own 65 (ekI .u64) v61 t59]), fun _ => rfl⟩, tS 113 (.bool t64), tS 114 (.bool (!t64)), tS 115 (.bool (!t64)), tS 116 (.bool (!t64)), tS 117 (undef), tS 118 (undef), tS 119 (undef), tS 120 (undef), tS 121 (undef), tS 122 (undef), tS 123 (undef), tS 124 (undef), tS 125 (undef), tS 126 (undef), tS 127 (.bool true)]) (D := [⟨[0], [], [12]⟩, ⟨[12], [], [13]⟩, ⟨[1], [], [14]⟩, ⟨[13, 14], [], [15]⟩, ⟨[15], [], [16]⟩, ⟨[2, 16], [], [17]⟩, ⟨[3, 16], [], [18]⟩, ⟨[16, 18, 8, 7, 6], [], [19]⟩, ⟨[16, 17, 19, 10], [], [20]⟩, ⟨[16, 20], [], [21]⟩, ⟨[16, 21], [], [22]⟩, ⟨[22], [], [23]⟩, ⟨[23], [], [24]⟩, ⟨[23], [], [25]⟩, ⟨[23], [], [26]⟩, ⟨[23], [], [27]⟩, ⟨[23], [], [28]⟩, ⟨[23], [], [29]⟩, ⟨[23], [], [30]⟩, ⟨[23], [], [31]⟩, ⟨[23], [], [32]⟩, ⟨[23], [], [33]⟩, ⟨[23, 33], [], [34]⟩]) (ini := [0, 1, 2, 3, 4, 5, 6, 7, 8, 9, 10, 11]) (fin := [5, 3, 2, 4, 34, 19, 6, 7, 8, 9, 10, 11]) (bf := [[], [0], [], [0, 1, 2], [0, 1, 2, 3], [0, 1, 2, 3, 4], [0, 1, 2, 3, 4], [0, 1, 2, 3, 4, 6], [0, 1, 2, 3, 4, 5, 6, 7], [0, 1, 2, 3, 4, 5, 6, 7, 8], [0, 1, 2, 3, 4, 5, 6, 7, 8, 9], [0, 1, 2, 3, 4, 5, 6, 7, 8, 9, 10], [0, 1, 2, 3, 4, 5, 6, 7, 8, 9, 10, 11], [0, 1, 2, 3, 4, 5, 6, 7, 8, 9, 10, 11, 12], [0, 1, 2, 3, 4, 5, 6, 7, 8, 9, 10, 11], [0, 1, 2, 3, 4, 5, 6, 7, 8, 9, 10, 11, 14], [0, 1, 2, 3, 4, 5, 6, 7, 8, 9, 10, 11, 12, 13, 14, 15], [0, 1, 2, 3, 4, 5, 6, 7, 8, 9, 10, 11], [0, 1, 2, 3, 4, 5, 6, 7, 8, 9, 10, 11], [0, 1, 2, 3, 4, 5, 6, 7, 8, 9, 10, 11, 18], [0, 1, 2, 3, 4, 5, 6, 7, 8, 9, 10, 11, 12, 13, 14, 15, 16, 17, 18, 19], [0, 1, 2, 3, 4, 5, 6, 7, 8, 9, 10, 11, 12, 13, 14, 15, 16, 17, 18, 19, 20], [0, 1, 2, 3, 4, 5, 6, 7, 8, 9, 10, 11, 12, 13, 14, 15, 16, 17, 18, 19, 20, 21]]) (by kernel_rfl) (by kernel_rfl) (fun x w h1 h2 => (.cons () (.cons () (.cons () (.cons () (.cons () (.cons () (.cons () (.cons () (.cons () (.cons () (.cons () (.cons () (.nil ⟨EnvAll.of h1 ⟨rfl, rfl, rfl, rfl, rfl, rfl, rfl, rfl, rfl, rfl, trivial⟩, h2⟩)))))))))))))) (fun Q => by kernel_rfl) ⟨?_, ?_, ?_, ?_, ?_, ?_, ?_, ?_, ?_, ?_, ?_, ?_, ?_, ?_, ?_, ?_, ?_, ?_, ?_, ?_, ?_, ?_, ?_, trivial⟩ ?_
                    · rintro Fr _
                      refine SO.v rfl (opv_move rfl) ?_
                      exact SO.nilZ fun a w h1 h2 h3 h4 h5 => PZ.of h1 h3 h5 (.cons () (.cons () (.nil ⟨EnvAll.of h2 ⟨rfl, rfl, trivial⟩, h4⟩)))
                    · rintro Fr _
                      refine SO.call (pre := []) rfl Try.call15 rfl rfl rfl (law00_Code.ct _ _ _ ht57) trivial ?_
                      rintro _ _ ⟨rfl, rfl⟩
                      exact SO.nilZ fun a w h1 h2 h3 h4 h5 => PZ.of h1 h3 h5 (.cons () (.cons () (.nil ⟨EnvAll.of h2 ⟨rfl, rfl, trivial⟩, h4⟩)))
                    · rintro Fr _
                      refine SO.v rfl (opv_move rfl) ?_
                      exact SO.nilZ fun a w h1 h2 h3 h4 h5 => PZ.of h1 h3 h5 (.cons () (.cons () (.nil ⟨EnvAll.of h2 ⟨rfl, rfl, trivial⟩, h4⟩)))
                    · rintro Fr _ _
                      refine SO.v rfl (opv_neq rfl rfl) ?_
                      exact SO.nilZ fun a w h1 h2 h3 h4 h5 => PZ.of h1 h3 h5 (.cons () (.cons () (.cons () (.nil ⟨EnvAll.of h2 ⟨rfl, rfl, rfl, trivial⟩, h4⟩))))
                    · rintro Fr _
                      refine SO.v rfl (opv_move rfl) ?_
                      exact SO.nilZ fun a w h1 h2 h3 h4 h5 => PZ.of h1 h3 h5 (.cons () (.cons () (.nil ⟨EnvAll.of h2 ⟨rfl, rfl, trivial⟩, h4⟩)))
                    · rintro Fr _ _
                      refine SO.takeT rfl rfl rfl b58 ?_
                      refine SO.v rfl (opv_move rfl) ?_
                      exact SO.nilZ fun a w h1 h2 h3 h4 h5 => PZ.of h1 h3 h5 (.cons () (.cons () (.cons () (.nil ⟨EnvAll.of h2 ⟨rfl, rfl, rfl, trivial⟩, h4⟩))))
                    · rintro Fr _ _
                      refine SO.takeT rfl rfl rfl b58 ?_
                      refine SO.v rfl (opv_move rfl) ?_
                      exact SO.nilZ fun a w h1 h2 h3 h4 h5 => PZ.of h1 h3 h5 (.cons () (.cons () (.cons () (.nil ⟨EnvAll.of h2 ⟨rfl, rfl, rfl, trivial⟩, h4⟩))))
                    · rintro Fr _ _ _ _ _
                      refine SO.takeT rfl rfl rfl b58 ?_
                      refine SO.b2 ?_
                      refine SO.b2 ?_
                      refine SO.b2 ?_
                      refine SO.call (pre := [Box _ _, OwnO _ _ _ _ _ _, OwnO _ _ _ _ _ _]) rfl Try.call17 rfl rfl rfl (ref10_State_Words.ct _ b6 u47_Slots u47_Objs raws48 A49 raws52 A53 _ _ ht60) trivial ?_
                      rintro v61 _ ⟨_, rfl, rfl⟩
                      refine SO.rd fun hr62 => ?_
                      refine SO.b3 ?_
                      refine SO.b3 ?_
                      refine SO.b3 ?_
                      exact SO.nilZ fun a w h1 h2 h3 h4 h5 => PZ.of h1 h3 h5 (.cons () (.cons () (.cons () (.cons () (.cons () (.cons v61 (.nil ⟨EnvAll.of h2 ⟨rfl, rfl, rfl, trivial⟩, h4⟩)))))))
                    · rintro Fr _ _ v61 _
                      refine SO.rd fun hr63 => ?_
                      refine SO.takeT rfl rfl rfl b58 ?_
                      refine SO.call (pre := []) rfl Try.call16 rfl rfl rfl (ref10_Same.ct _ v8 v61 _ _ _ ht65) ⟨(Rd.tail (Rd.head hr43)), (Rd.head hr63)⟩ ?_
                      rintro _ _ ⟨rfl, rfl⟩
                      refine SO.b1 ?_
                      refine SO.b1 ?_
                      exact SO.nilZ fun a w h1 h2 h3 h4 h5 => PZ.of h1 h3 h5 (.cons () (.cons () (.cons v61 (.cons () (.cons () (.nil ⟨EnvAll.of h2 ⟨rfl, rfl, rfl, rfl, trivial⟩, h4⟩))))))
                    · rintro Fr _ _
                      refine SO.takeT rfl rfl rfl b58 ?_
                      refine SO.v rfl (opv_not rfl) ?_
                      exact SO.nilZ fun a w h1 h2 h3 h4 h5 => PZ.of h1 h3 h5 (.cons () (.cons () (.cons () (.nil ⟨EnvAll.of h2 ⟨rfl, rfl, rfl, trivial⟩, h4⟩))))
                    · rintro Fr _ _
                      refine SO.v rfl (opv_pick_f' b58 rfl rfl) ?_
                      exact SO.nilZ fun a w h1 h2 h3 h4 h5 => PZ.of h1 h3 h5 (.cons () (.cons () (.cons () (.nil ⟨EnvAll.of h2 ⟨rfl, rfl, rfl, trivial⟩, h4⟩))))
                    · rintro Fr _
                      refine SO.v rfl (opv_move rfl) ?_
                      exact SO.nilZ fun a w h1 h2 h3 h4 h5 => PZ.of h1 h3 h5 (.cons () (.cons () (.nil ⟨EnvAll.of h2 ⟨rfl, rfl, trivial⟩, h4⟩)))
                    · rintro Fr _
                      refine SO.passF rfl rfl rfl b66 rfl rfl ?_
                      exact SO.nilZ fun a w h1 h2 h3 h4 h5 => PZ.of h1 h3 h5 (.cons () (.cons () (.nil ⟨EnvAll.of h2 ⟨rfl, rfl, trivial⟩, h4⟩)))
                    · rintro Fr _
                      refine SO.passF rfl rfl rfl b66 rfl rfl ?_
                      exact SO.nilZ fun a w h1 h2 h3 h4 h5 => PZ.of h1 h3 h5 (.cons () (.cons () (.nil ⟨EnvAll.of h2 ⟨rfl, rfl, trivial⟩, h4⟩)))
                    · rintro Fr _
                      refine SO.passF rfl rfl rfl b66 rfl rfl ?_
                      exact SO.nilZ fun a w h1 h2 h3 h4 h5 => PZ.of h1 h3 h5 (.cons () (.cons () (.nil ⟨EnvAll.of h2 ⟨rfl, rfl, trivial⟩, h4⟩)))
                    · rintro Fr _
                      refine SO.passF rfl rfl rfl b66 rfl rfl ?_
                      exact SO.nilZ fun a w h1 h2 h3 h4 h5 => PZ.of h1 h3 h5 (.cons () (.cons () (.nil ⟨EnvAll.of h2 ⟨rfl, rfl, trivial⟩, h4⟩)))
                    · rintro Fr _
                      refine SO.passF rfl rfl rfl b66 rfl rfl ?_
                      exact SO.nilZ fun a w h1 h2 h3 h4 h5 => PZ.of h1 h3 h5 (.cons () (.cons () (.nil ⟨EnvAll.of h2 ⟨rfl, rfl, trivial⟩, h4⟩)))
                    · rintro Fr _
                      refine SO.passF rfl rfl rfl b66 rfl rfl ?_
                      exact SO.nilZ fun a w h1 h2 h3 h4 h5 => PZ.of h1 h3 h5 (.cons () (.cons () (.nil ⟨EnvAll.of h2 ⟨rfl, rfl, trivial⟩, h4⟩)))
                    · rintro Fr _
                      refine SO.passF rfl rfl rfl b66 rfl rfl ?_
                      exact SO.nilZ fun a w h1 h2 h3 h4 h5 => PZ.of h1 h3 h5 (.cons () (.cons () (.nil ⟨EnvAll.of h2 ⟨rfl, rfl, trivial⟩, h4⟩)))
                    · rintro Fr _
                      refine SO.passF rfl rfl rfl b66 rfl rfl ?_
                      exact SO.nilZ fun a w h1 h2 h3 h4 h5 => PZ.of h1 h3 h5 (.cons () (.cons () (.nil ⟨EnvAll.of h2 ⟨rfl, rfl, trivial⟩, h4⟩)))
                    · rintro Fr _
                      refine SO.passF rfl rfl rfl b66 rfl rfl ?_
                      exact SO.nilZ fun a w h1 h2 h3 h4 h5 => PZ.of h1 h3 h5 (.cons () (.cons () (.nil ⟨EnvAll.of h2 ⟨rfl, rfl, trivial⟩, h4⟩)))
                    · rintro Fr _
                      refine SO.passF rfl rfl rfl b66 rfl rfl ?_
                      exact SO.nilZ fun a w h1 h2 h3 h4 h5 => PZ.of h1 h3 h5 (.cons () (.cons () (.nil ⟨EnvAll.of h2 ⟨rfl, rfl, trivial⟩, h4⟩)))
                    · rintro Fr _ _
                      refine SO.v rfl (opv_pick_t' b66 rfl rfl) ?_
                      exact SO.nilZ fun a w h1 h2 h3 h4 h5 => PZ.of h1 h3 h5 (.cons () (.cons () (.cons () (.nil ⟨EnvAll.of h2 ⟨rfl, rfl, rfl, trivial⟩, h4⟩))))
                    rintro _ _ _ _ _ v61 _ _ _ _ _ _
                    refine S.to (ρ' := [(0, v0), (2, .bool false), (3, .bool t1), (6, .int .i64 x6_1), (8, .bool ((((decide (0 ≤ x14.A)) && (decide (x14.A < 96))) && (decide (0 ≤ x14.B))) && (decide (x14.B < 96)))), (4, bp b6 0), (5, v8), (7, bp b16 0), (127, .bool true)]) ⟨rfl, rfl, rfl, rfl, rfl, rfl, rfl, rfl, rfl, trivial⟩ ?_
                    refine S.rd fun hr67 => ?_
                    cases h
                    refine S.drop ?_
                    refine S.b5 ?_
                    refine S.b5 ?_
                    refine S.b5 ?_
                    refine S.b5 ?_
                    refine S.b5 ?_
                    refine S.b5 ?_
                    refine S.to ?_ (hk3 () trivial)
                    exact ⟨rfl, rfl, rfl, rfl, rfl, rfl, rfl, rfl, rfl, trivial⟩
                  · replace h := cond_f b66 h
                    obtain ⟨⟨t68, s70⟩, ht69, h⟩ := opt_bind h
                    obtain ⟨t72, ht73, h⟩ := opt_bind h
                    refine S.draw' (Z := fun Q => ∀ (_ : Unit) (_ : Unit) (_ : Unit) (_ : Unit) (_ : Unit) (v61 : Value) (_ : Unit) (_ : Unit) (_ : Unit) (_ : Unit) (_ : Unit) (_ : Unit), Q [(0, v0), (2, .bool false), (3, .bool t1), (6, .int .i64 x6_1), (8, .bool ((((decide (0 ≤ x14.A)) && (decide (x14.A < 96))) && (decide (0 ≤ x14.B))) && (decide (x14.B < 96)))), (4, bp b6 0), (5, v8), (7, bp b16 0), (127, .bool (t68 != t72)), (112, v61)] [Own 65 (ekI .u64) v61 t59, OwnO 56 kr_ref10_Obj u47_Objs raws52 A53 p45.Objs, OwnO 46 kr_ref10_Slot u47_Slots raws48 A49 p45.Slots, Box b6 [u47_Slots, u47_Objs, .int .i64 p45.NS, .int .i64 p45.NO], Box b16 [.int .i64 x14.What, .int .i64 x14.A, .int .i64 x14.B], Own 65 (ekI .u64) v8 s70, F]) (T := [tS 10 (errV 53 t40), tS 9 (.int .i64 t44), tS 5 (v8), tS 4 (bp b6 0), tS 7 (bp b16 0), tE [(0, v0), (2, .bool false), (3, .bool t1), (6, .int .i64 x6_1), (8, .bool ((((decide (0 ≤ x14.A)) && (decide (x14.A < 96))) && (decide (0 ≤ x14.B))) && (decide (x14.B < 96))))], tR (OwnO 56 kr_ref10_Obj u47_Objs raws52 A53 p45.Objs), tR (OwnO 46 kr_ref10_Slot u47_Slots raws48 A49 p45.Slots), tR (Box b6 [u47_Slots, u47_Objs, .int .i64 p45.NS, .int .i64 p45.NO]), tR (Box b16 [.int .i64 x14.What, .int .i64 x14.A, .int .i64 x14.B]), tR (Own 65 (ekI .u64) v8 s42), tR (F), tS 105 (errV 53 t40), tS 106 (.int .i64 t56), tS 107 (.int .i64 t44), tS 108 (.bool (t56 != t44)), tS 109 (.bool (t56 != t44)), tS 110 (v8), tS 111 (bp b6 0), ⟨Value, [112], (fun v61 => [(112, v61)]), (fun v61 => [Own 65 (ekI .u64) v61 t59]), fun _ => rfl⟩, tS 113 (.bool t64), tS 114 (.bool (!t64)), tS 115 (.bool (!t64)), tS 116 (.bool (!t64)), tS 117 (v8), tS 118 ((plainV v8).val), tS 119 (bp b16 1), tS 120 (.int .i64 x14.A), tR (Own 65 (ekI .u64) v8 s70), tS 121 (.int .i64 t68), tS 122 (bp b6 0), tS 123 (bp b16 1), tS 124 (.int .i64 x14.A), tS 125 (.int .i64 t72), tS 126 (.bool (t68 != t72)), tS 127 (.bool (t68 != t72))]) (D := [⟨[0], [], [12]⟩, ⟨[12], [], [13]⟩, ⟨[1], [], [14]⟩, ⟨[13, 14], [], [15]⟩, ⟨[15], [], [16]⟩, ⟨[2, 16], [], [17]⟩, ⟨[3, 16], [], [18]⟩, ⟨[16, 18, 8, 7, 6], [], [19]⟩, ⟨[16, 17, 19, 10], [], [20]⟩, ⟨[16, 20], [], [21]⟩, ⟨[16, 21], [], [22]⟩, ⟨[22], [], [23]⟩, ⟨[2, 23], [], [24]⟩, ⟨[23, 24], [], [25]⟩, ⟨[4, 23], [], [26]⟩, ⟨[23, 26, 9], [], [27]⟩, ⟨[23, 25, 27], [10], [28, 29]⟩, ⟨[3, 23], [], [30]⟩, ⟨[4, 23], [], [31]⟩, ⟨[23, 31, 9], [], [32]⟩, ⟨[23, 30, 32, 8, 7, 6], [], [33]⟩, ⟨[23, 29, 33], [], [34]⟩, ⟨[23, 34], [], [35]⟩]) (ini := [0, 1, 2, 3, 4, 5, 6, 7, 8, 9, 10, 11]) (fin := [5, 3, 2, 4, 35, 19, 6, 7, 8, 9, 28, 11]) (bf := [[], [0], [], [0, 1, 2], [0, 1, 2, 3], [0, 1, 2, 3, 4], [0, 1, 2, 3, 4], [0, 1, 2, 3, 4, 6], [0, 1, 2, 3, 4, 5, 6, 7], [0, 1, 2, 3, 4, 5, 6, 7, 8], [0, 1, 2, 3, 4, 5, 6, 7, 8, 9], [0, 1, 2, 3, 4, 5, 6, 7, 8, 9, 10], [0, 1, 2, 3, 4, 5, 6, 7, 8, 9, 10, 11], [0, 1, 2, 3, 4, 5, 6, 7, 8, 9, 10, 11, 12], [0, 1, 2, 3, 4, 5, 6, 7, 8, 9, 10, 11], [0, 1, 2, 3, 4, 5, 6, 7, 8, 9, 10, 11, 14], [0, 1, 2, 3, 4, 5, 6, 7, 8, 9, 10, 11, 12, 13, 14, 15], [0, 1, 2, 3, 4, 5, 6, 7, 8, 9, 10, 11], [0, 1, 2, 3, 4, 5, 6, 7, 8, 9, 10, 11], [0, 1, 2, 3, 4, 5, 6, 7, 8, 9, 10, 11, 18], [0, 1, 2, 3, 4, 5, 6, 7, 8, 9, 10, 11, 12, 13, 14, 15, 16, 17, 18, 19], [0, 1, 2, 3, 4, 5, 6, 7, 8, 9, 10, 11, 12, 13, 14, 15, 16, 17, 18, 19, 20], [0, 1, 2, 3, 4, 5, 6, 7, 8, 9, 10, 11, 12, 13, 14, 15, 16, 17, 18, 19, 20, 21]]) (by kernel_rfl) (by kernel_rfl) (fun x w h1 h2 => (.cons () (.cons () (.cons () (.cons () (.cons () (.cons () (.cons () (.cons () (.cons () (.cons () (.cons () (.cons () (.nil ⟨EnvAll.of h1 ⟨rfl, rfl, rfl, rfl, rfl, rfl, rfl, rfl, rfl, rfl, trivial⟩, h2⟩)))))))))))))) (fun Q => by kernel_rfl) ⟨?_, ?_, ?_, ?_, ?_, ?_, ?_, ?_, ?_, ?_, ?_, ?_, ?_, ?_, ?_, ?_, ?_, ?_, ?_, ?_, ?_, ?_, ?_, trivial⟩ ?_
                    · rintro Fr _
                      refine SO.v rfl (opv_move rfl) ?_
                      exact SO.nilZ fun a w h1 h2 h3 h4 h5 => PZ.of h1 h3 h5 (.cons () (.cons () (.nil ⟨EnvAll.of h2 ⟨rfl, rfl, trivial⟩, h4⟩)))
                    · rintro Fr _
                      refine SO.call (pre := []) rfl Try.call15 rfl rfl rfl (law00_Code.ct _ _ _ ht57) trivial ?_
                      rintro _ _ ⟨rfl, rfl⟩
                      exact SO.nilZ fun a w h1 h2 h3 h4 h5 => PZ.of h1 h3 h5 (.cons () (.cons () (.nil ⟨EnvAll.of h2 ⟨rfl, rfl, trivial⟩, h4⟩)))
                    · rintro Fr _
                      refine SO.v rfl (opv_move rfl) ?_
                      exact SO.nilZ fun a w h1 h2 h3 h4 h5 => PZ.of h1 h3 h5 (.cons () (.cons () (.nil ⟨EnvAll.of h2 ⟨rfl, rfl, trivial⟩, h4⟩)))
                    · rintro Fr _ _
                      refine SO.v rfl (opv_neq rfl rfl) ?_
                      exact SO.nilZ fun a w h1 h2 h3 h4 h5 => PZ.of h1 h3 h5 (.cons () (.cons () (.cons () (.nil ⟨EnvAll.of h2 ⟨rfl, rfl, rfl, trivial⟩, h4⟩))))
                    · rintro Fr _
                      refine SO.v rfl (opv_move rfl) ?_
                      exact SO.nilZ fun a w h1 h2 h3 h4 h5 => PZ.of h1 h3 h5 (.cons () (.cons () (.nil ⟨EnvAll.of h2 ⟨rfl, rfl, trivial⟩, h4⟩)))
                    · rintro Fr _ _
                      refine SO.takeT rfl rfl rfl b58 ?_
                      refine SO.v rfl (opv_move rfl) ?_
                      exact SO.nilZ fun a w h1 h2 h3 h4 h5 => PZ.of h1 h3 h5 (.cons () (.cons () (.cons () (.nil ⟨EnvAll.of h2 ⟨rfl, rfl, rfl, trivial⟩, h4⟩))))
                    · rintro Fr _ _
                      refine SO.takeT rfl rfl rfl b58 ?_
                      refine SO.v rfl (opv_move rfl) ?_
                      exact SO.nilZ fun a w h1 h2 h3 h4 h5 => PZ.of h1 h3 h5 (.cons () (.cons () (.cons () (.nil ⟨EnvAll.of h2 ⟨rfl, rfl, rfl, trivial⟩, h4⟩))))
                    · rintro Fr _ _ _ _ _
                      refine SO.takeT rfl rfl rfl b58 ?_
                      refine SO.b2 ?_
                      refine SO.b2 ?_
                      refine SO.b2 ?_
                      refine SO.call (pre := [Box _ _, OwnO _ _ _ _ _ _, OwnO _ _ _ _ _ _]) rfl Try.call17 rfl rfl rfl (ref10_State_Words.ct _ b6 u47_Slots u47_Objs raws48 A49 raws52 A53 _ _ ht60) trivial ?_
                      rintro v61 _ ⟨_, rfl, rfl⟩
                      refine SO.rd fun hr62 => ?_
                      refine SO.b3 ?_
                      refine SO.b3 ?_
                      refine SO.b3 ?_
                      exact SO.nilZ fun a w h1 h2 h3 h4 h5 => PZ.of h1 h3 h5 (.cons () (.cons () (.cons () (.cons () (.cons () (.cons v61 (.nil ⟨EnvAll.of h2 ⟨rfl, rfl, rfl, trivial⟩, h4⟩)))))))
                    · rintro Fr _ _ v61 _
                      refine SO.rd fun hr63 => ?_
                      refine SO.takeT rfl rfl rfl b58 ?_
                      refine SO.call (pre := []) rfl Try.call16 rfl rfl rfl (ref10_Same.ct _ v8 v61 _ _ _ ht65) ⟨(Rd.tail (Rd.head hr43)), (Rd.head hr63)⟩ ?_
                      rintro _ _ ⟨rfl, rfl⟩
                      refine SO.b1 ?_
                      refine SO.b1 ?_
                      exact SO.nilZ fun a w h1 h2 h3 h4 h5 => PZ.of h1 h3 h5 (.cons () (.cons () (.cons v61 (.cons () (.cons () (.nil ⟨EnvAll.of h2 ⟨rfl, rfl, rfl, rfl, trivial⟩, h4⟩))))))
                    · rintro Fr _ _
                      refine SO.takeT rfl rfl rfl b58 ?_
                      refine SO.v rfl (opv_not rfl) ?_
                      exact SO.nilZ fun a w h1 h2 h3 h4 h5 => PZ.of h1 h3 h5 (.cons () (.cons () (.cons () (.nil ⟨EnvAll.of h2 ⟨rfl, rfl, rfl, trivial⟩, h4⟩))))
                    · rintro Fr _ _
                      refine SO.v rfl (opv_pick_f' b58 rfl rfl) ?_
                      exact SO.nilZ fun a w h1 h2 h3 h4 h5 => PZ.of h1 h3 h5 (.cons () (.cons () (.cons () (.nil ⟨EnvAll.of h2 ⟨rfl, rfl, rfl, trivial⟩, h4⟩))))
                    · rintro Fr _
                      refine SO.v rfl (opv_move rfl) ?_
                      exact SO.nilZ fun a w h1 h2 h3 h4 h5 => PZ.of h1 h3 h5 (.cons () (.cons () (.nil ⟨EnvAll.of h2 ⟨rfl, rfl, trivial⟩, h4⟩)))
                    · rintro Fr _ _
                      refine SO.takeT rfl rfl rfl b66 ?_
                      refine SO.v rfl (opv_move rfl) ?_
                      exact SO.nilZ fun a w h1 h2 h3 h4 h5 => PZ.of h1 h3 h5 (.cons () (.cons () (.cons () (.nil ⟨EnvAll.of h2 ⟨rfl, rfl, rfl, trivial⟩, h4⟩))))
                    · rintro Fr _ _
                      refine SO.takeT rfl rfl rfl b66 ?_
                      refine SO.v rfl (opv_iface Try.underlying27 rfl rfl) ?_
                      exact SO.nilZ fun a w h1 h2 h3 h4 h5 => PZ.of h1 h3 h5 (.cons () (.cons () (.cons () (.nil ⟨EnvAll.of h2 ⟨rfl, rfl, rfl, trivial⟩, h4⟩))))
                    · rintro Fr _ _
                      refine SO.takeT rfl rfl rfl b66 ?_
                      refine SO.v rfl (opv_fieldAddr Try.underlying29 rfl Try.sizeOf3 rfl rfl) ?_
                      exact SO.nilZ fun a w h1 h2 h3 h4 h5 => PZ.of h1 h3 h5 (.cons () (.cons () (.cons () (.nil ⟨EnvAll.of h2 ⟨rfl, rfl, rfl, trivial⟩, h4⟩))))
                    · rintro Fr _ _ _
                      refine SO.takeT rfl rfl rfl b66 ?_
                      refine SO.load1 rfl Try.isAgg3 rfl rfl ?_
                      exact SO.nilZ fun a w h1 h2 h3 h4 h5 => PZ.of h1 h3 h5 (.cons () (.cons () (.cons () (.cons () (.nil ⟨EnvAll.of h2 ⟨rfl, rfl, rfl, trivial⟩, h4⟩)))))
                    · rintro Fr _ _ _ _
                      refine SO.takeT rfl rfl rfl b66 ?_
                      refine SO.call (pre := [(plainV v8).rep _]) rfl Try.call18 rfl rfl rfl (cdt_Leaf.ct (plainV v8) _ _ _ _ _ ht69) trivial ?_
                      rintro _ _ ⟨rfl, rfl⟩
                      refine headEq (plainV_rep _ _) ?_
                      refine SO.rd fun hr71 => ?_
                      exact SO.nilZ fun a w h1 h2 h3 h4 h5 => PZ.of h1 h3 h5 (.cons () (.cons () (.cons () (.cons () (.cons () (.nil ⟨EnvAll.of h2 ⟨rfl, rfl, rfl, rfl, trivial⟩, h4⟩))))))
                    · rintro Fr _ _
                      refine SO.takeT rfl rfl rfl b66 ?_
                      refine SO.v rfl (opv_move rfl) ?_
                      exact SO.nilZ fun a w h1 h2 h3 h4 h5 => PZ.of h1 h3 h5 (.cons () (.cons () (.cons () (.nil ⟨EnvAll.of h2 ⟨rfl, rfl, rfl, trivial⟩, h4⟩))))
                    · rintro Fr _ _
                      refine SO.takeT rfl rfl rfl b66 ?_
                      refine SO.v rfl (opv_fieldAddr Try.underlying29 rfl Try.sizeOf3 rfl rfl) ?_
                      exact SO.nilZ fun a w h1 h2 h3 h4 h5 => PZ.of h1 h3 h5 (.cons () (.cons () (.cons () (.nil ⟨EnvAll.of h2 ⟨rfl, rfl, rfl, trivial⟩, h4⟩))))
                    · rintro Fr _ _ _
                      refine SO.takeT rfl rfl rfl b66 ?_
                      refine SO.load1 rfl Try.isAgg3 rfl rfl ?_
                      exact SO.nilZ fun a w h1 h2 h3 h4 h5 => PZ.of h1 h3 h5 (.cons () (.cons () (.cons () (.cons () (.nil ⟨EnvAll.of h2 ⟨rfl, rfl, rfl, trivial⟩, h4⟩)))))
                    · rintro Fr _ _ _ _ _ _
                      refine SO.takeT rfl rfl rfl b66 ?_
                      refine SO.b2 ?_
                      refine SO.b2 ?_
                      refine SO.b2 ?_
                      refine SO.call (pre := [Box _ _, OwnO _ _ _ _ _ _, OwnO _ _ _ _ _ _]) rfl Try.call19 rfl rfl rfl (ref10_State_Leaf.ct _ b6 u47_Slots u47_Objs raws48 A49 raws52 A53 _ _ _ ht73) trivial ?_
                      rintro _ _ ⟨rfl, rfl⟩
                      refine SO.b2 ?_
                      refine SO.b2 ?_
                      refine SO.b2 ?_
                      exact SO.nilZ fun a w h1 h2 h3 h4 h5 => PZ.of h1 h3 h5 (.cons () (.cons () (.cons () (.cons () (.cons () (.cons () (.cons () (.nil ⟨EnvAll.of h2 ⟨rfl, rfl, rfl, rfl, trivial⟩, h4⟩))))))))
                    · rintro Fr _ _ _
                      refine SO.takeT rfl rfl rfl b66 ?_
                      refine SO.v rfl (opv_neq rfl rfl) ?_
                      exact SO.nilZ fun a w h1 h2 h3 h4 h5 => PZ.of h1 h3 h5 (.cons () (.cons () (.cons () (.cons () (.nil ⟨EnvAll.of h2 ⟨rfl, rfl, rfl, rfl, trivial⟩, h4⟩)))))
                    · rintro Fr _ _
                      refine SO.v rfl (opv_pick_f' b66 rfl rfl) ?_
                      exact SO.nilZ fun a w h1 h2 h3 h4 h5 => PZ.of h1 h3 h5 (.cons () (.cons () (.cons () (.nil ⟨EnvAll.of h2 ⟨rfl, rfl, rfl, trivial⟩, h4⟩))))
                    rintro _ _ _ _ _ v61 _ _ _ _ _ _
                    refine S.to (ρ' := [(0, v0), (2, .bool false), (3, .bool t1), (6, .int .i64 x6_1), (8, .bool ((((decide (0 ≤ x14.A)) && (decide (x14.A < 96))) && (decide (0 ≤ x14.B))) && (decide (x14.B < 96)))), (4, bp b6 0), (5, v8), (7, bp b16 0), (127, .bool (t68 != t72))]) ⟨rfl, rfl, rfl, rfl, rfl, rfl, rfl, rfl, rfl, trivial⟩ ?_
                    refine S.rd fun hr74 => ?_
                    refine S.b5 ?_
                    refine S.rd fun hr75 => ?_
                    cases h
                    refine S.b1 ?_
                    refine S.drop ?_
                    refine S.b5 ?_
                    refine S.b1 ?_
                    refine S.b5 ?_
                    refine S.b5 ?_
                    refine S.b5 ?_
                    refine S.b5 ?_
                    refine S.to ?_ (hk3 () trivial)
                    exact ⟨rfl, rfl, rfl, rfl, rfl, rfl, rfl, rfl, rfl, trivial⟩
              rintro _ -
              replace h := hJ3
              refine S.b4 ?_
              refine S.rd fun hr76 => ?_
              rcases bool_or j127_3 with b77 | b77
              · replace h := cond_t b77 h
                refine S.condT rfl b77 ?_
                refine S.seq ?_
                refine S.region ?_
                refine SO.v rfl (opv_assign rfl) ?_
                refine SO.nil ?_
                refine S.to (ρ' := [(2, .bool false)]) ⟨rfl, trivial⟩ ?_
                cases h
                replace h := hK1.1 _ rfl
                cases h
                refine S.b1 ?_
                refine S.closeR ?_
                refine S.b2 ?_
                refine S.closeR ?_
                refine S.drop ?_
                refine S.drop ?_
                refine S.drop ?_
                refine S.drop ?_
                refine S.drop ?_
                exact S.ret1 Try.func3 rfl rfl (fun w hs hk => hR w _ _ ⟨rfl, rfl⟩ hs hk)
              · replace h := cond_f b77 h
                refine S.condF rfl b77 ?_
                refine S.skip ?_
                refine S.seq ?_
                refine S.seq ?_
                refine S.region ?_
                refine SO.v rfl (opv_move rfl) ?_
                refine SO.v rfl (opv_not rfl) ?_
                refine SO.nil ?_
                rcases bool_or (!((((decide (0 ≤ x14.A)) && (decide (x14.A < 96))) && (decide (0 ≤ x14.B))) && (decide (x14.B < 96)))) with b78 | b78
                · replace h := cond_t b78 h
                  refine S.condT rfl b78 ?_
                  refine S.exit rfl ?_
                  refine S.region ?_
                  refine SO.v rfl (opv_move rfl) ?_
                  refine SO.v rfl (opv_add rfl rfl) ?_
                  refine SO.v rfl (opv_assign rfl) ?_
                  refine SO.nil ?_
                  refine S.to (ρ' := [(0, v0), (2, .bool false), (3, .bool t1), (4, bp b6 0), (5, v8), (6, .int .i64 (w64 (x6_1 + 1)))]) ⟨rfl, rfl, rfl, rfl, rfl, rfl, trivial⟩ ?_
                  refine S.b1 ?_
                  refine S.closeR ?_
                  refine S.b2 ?_
                  refine S.closeR ?_
                  refine S.b4 ?_
                  refine S.drop ?_
                  refine S.b4 ?_
                  refine S.b4 ?_
                  refine S.b4 ?_
                  refine S.b3 ?_
                  refine S.b4 ?_
                  refine S.to ?_ (ih1 ((w64 (x6_1 + 1), p45.Slots, p45.Objs, p45.NS, p45.NO, qv8_3), (u47_Slots, u47_Objs)) h)
                  exact ⟨rfl, rfl, rfl, rfl, rfl, rfl, trivial⟩
                · replace h := cond_f b78 h
                  refine S.condF rfl b78 ?_
                  refine S.skip ?_
                  refine S.seq ?_
                  refine S.region ?_
                  refine SO.v rfl (opv_move rfl) ?_
                  refine SO.v rfl (opv_iface Try.underlying27 rfl rfl) ?_
                  refine SO.v rfl (opv_fieldAddr Try.underlying29 rfl Try.sizeOf3 rfl rfl) ?_
                  refine SO.b4 ?_
                  refine SO.load1 rfl Try.isAgg3 rfl rfl ?_
                  obtain ⟨⟨t79, s81⟩, ht80, h⟩ := opt_bind h
                  refine SO.b1 ?_
                  refine SO.call (pre := [(plainV v8).rep _]) rfl Try.call20 rfl rfl rfl (cdt_Kids.ct (plainV v8) _ _ _ _ _ ht80) trivial ?_
                  rintro v82 _ ⟨_, rfl, rfl⟩
                  refine SO.rd fun hr83 => ?_
                  refine SO.b1 ?_
                  refine headEq (plainV_rep _ _) ?_
                  refine SO.rd fun hr84 => ?_
                  refine SO.v rfl (opv_assign rfl) ?_
                  refine SO.nil ?_
                  refine S.to (ρ' := [(0, v0), (2, .bool false), (3, .bool t1), (4, bp b6 0), (5, v8), (6, .int .i64 x6_1), (7, bp b16 0), (11, v82)]) ⟨rfl, rfl, rfl, rfl, rfl, rfl, rfl, rfl, trivial⟩ ?_
                  refine S.seq ?_
                  refine S.seq ?_
                  obtain ⟨⟨j164_4, qv8_4⟩, hC4, hJ4⟩ := opt_bind h
                  clear h
                  refine S.cutP (G := Unit) (fun _ => True) (fun _ => [(0, v0), (2, .bool false), (3, .bool t1), (4, bp b6 0), (5, v8), (6, .int .i64 x6_1), (7, bp b16 0), (11, v82), (164, .bool j164_4)]) (fun _ => [Own 65 (ekI .u64) v8 qv8_4, Own 3 (ekI .i64) v82 t79, Box b16 [.int .i64 x14.What, .int .i64 x14.A, .int .i64 x14.B], OwnO 56 kr_ref10_Obj u47_Objs raws52 A53 p45.Objs, OwnO 46 kr_ref10_Slot u47_Slots raws48 A49 p45.Slots, Box b6 [u47_Slots, u47_Objs, .int .i64 p45.NS, .int .i64 p45.NO], F]) (fun hk4 => ?_) ?_
                  · replace h := hC4
                    obtain ⟨⟨t85, s87⟩, ht86, h⟩ := opt_bind h
                    obtain ⟨x89, hx90, h⟩ := opt_bind h
                    obtain ⟨r91, hr92, hc93⟩ := relR.at hrel50 hx90
                    rcases bool_or (t85 != x89.Parent) with b94 | b94
                    · replace h := cond_t b94 h
                      refine S.draw' (Z := fun Q => ∀ (_ : Unit) (_ : Unit) (_ : Unit) (_ : Unit) (_ : Unit) (_ : Unit) (_ : Unit) (_ : Unit) (_ : Unit) (_ : Unit) (_ : Unit) (_ : Unit) (_ : Unit), Q [(0, v0), (2, .bool false), (3, .bool t1), (6, .int .i64 x6_1), (4, bp b6 0), (5, v8), (7, bp b16 0), (11, v82), (164, .bool true)] [Own 65 (ekI .u64) v8 s87, Own 3 (ekI .i64) v82 t79, Box b16 [.int .i64 x14.What, .int .i64 x14.A, .int .i64 x14.B], OwnO 56 kr_ref10_Obj u47_Objs raws52 A53 p45.Objs, OwnO 46 kr_ref10_Slot u47_Slots raws48 A49 p45.Slots, Box b6 [u47_Slots, u47_Objs, .int .i64 p45.NS, .int .i64 p45.NO], F]) (T := [tS 5 (v8), tS 7 (bp b16 0), tS 4 (bp b6 0), tS 11 (v82), tE [(0, v0), (2, .bool false), (3, .bool t1), (6, .int .i64 x6_1)], tR (Own 65 (ekI .u64) v8 s81), tR (Own 3 (ekI .i64) v82 t79), tR (Box b16 [.int .i64 x14.What, .int .i64 x14.A, .int .i64 x14.B]), tR (OwnO 56 kr_ref10_Obj u47_Objs raws52 A53 p45.Objs), tR (OwnO 46 kr_ref10_Slot u47_Slots raws48 A49 p45.Slots), tR (Box b6 [u47_Slots, u47_Objs, .int .i64 p45.NS, .int .i64 p45.NO]), tR (F), tS 135 (v8), tS 136 ((plainV v8).val), tS 137 (bp b16 1), tS 138 (.int .i64 x14.A), tR (Own 65 (ekI .u64) v8 s87), tS 139 (.int .i64 t85), tS 140 (bp b6 0), tS 141 (bp b6 0), tS 142 (bp b6 0), tS 143 (u47_Slots), tS 144 (bp b16 1), tS 145 (.int .i64 x14.A), tS 146 (idxp u47_Slots (x14.A.toNat * kr_ref10_Slot.sz)), tS 147 (idxp u47_Slots (x14.A.toNat * kr_ref10_Slot.sz + 6)), tS 148 (.int .i64 x89.Parent), tS 149 (.bool (t85 != x89.Parent)), tS 150 (.bool (t85 != x89.Parent)), tS 151 (undef), tS 152 (undef), tS 153 (undef), tS 154 (undef), tS 155 (undef), tS 156 (undef), tS 157 (undef), tS 158 (undef), tS 159 (undef), tS 160 (undef), tS 161 (undef), tS 162 (undef), tS 163 (undef), tS 164 (.bool true)]) (D := [⟨[0], [], [12]⟩, ⟨[12], [], [13]⟩, ⟨[1], [], [14]⟩, ⟨[14, 7], [], [15]⟩, ⟨[13, 15], [5], [16, 17]⟩, ⟨[2], [], [18]⟩, ⟨[18], [], [19]⟩, ⟨[19], [], [20]⟩, ⟨[20, 10], [], [21]⟩, ⟨[1], [], [22]⟩, ⟨[22, 7], [], [23]⟩, ⟨[21, 23, 9], [], [24]⟩, ⟨[24, 9], [], [25]⟩, ⟨[25, 9], [], [26]⟩, ⟨[17, 26], [], [27]⟩, ⟨[27], [], [28]⟩, ⟨[28], [], [29]⟩, ⟨[28], [], [30]⟩, ⟨[28], [], [31]⟩, ⟨[28], [], [32]⟩, ⟨[28], [], [33]⟩, ⟨[28], [], [34]⟩, ⟨[28], [], [35]⟩, ⟨[28], [], [36]⟩, ⟨[28], [], [37]⟩, ⟨[28], [], [38]⟩, ⟨[28], [], [39]⟩, ⟨[28], [], [40]⟩, ⟨[28], [], [41]⟩, ⟨[28, 41], [], [42]⟩]) (ini := [0, 1, 2, 3, 4, 5, 6, 7, 8, 9, 10, 11]) (fin := [4, 2, 0, 1, 3, 42, 16, 6, 7, 8, 9, 10, 11]) (bf := [[], [0], [], [2], [0, 1, 2, 3], [], [5], [5, 6], [5, 6, 7], [], [9], [5, 6, 7, 8, 9, 10], [5, 6, 7, 8, 9, 10, 11], [5, 6, 7, 8, 9, 10, 11, 12], [0, 1, 2, 3, 4, 5, 6, 7, 8, 9, 10, 11, 12, 13], [0, 1, 2, 3, 4, 5, 6, 7, 8, 9, 10, 11, 12, 13, 14], [0, 1, 2, 3, 4, 5, 6, 7, 8, 9, 10, 11, 12, 13, 14, 15], [0, 1, 2, 3, 4, 5, 6, 7, 8, 9, 10, 11, 12, 13, 14, 15, 16], [0, 1, 2, 3, 4, 5, 6, 7, 8, 9, 10, 11, 12, 13, 14, 15], [0, 1, 2, 3, 4, 5, 6, 7, 8, 9, 10, 11, 12, 13, 14, 15, 18], [0, 1, 2, 3, 4, 5, 6, 7, 8, 9, 10, 11, 12, 13, 14, 15, 18, 19], [0, 1, 2, 3, 4, 5, 6, 7, 8, 9, 10, 11, 12, 13, 14, 15, 18, 19, 20], [0, 1, 2, 3, 4, 5, 6, 7, 8, 9, 10, 11, 12, 13, 14, 15], [0, 1, 2, 3, 4, 5, 6, 7, 8, 9, 10, 11, 12, 13, 14, 15, 22], [0, 1, 2, 3, 4, 5, 6, 7, 8, 9, 10, 11, 12, 13, 14, 15, 18, 19, 20, 21, 22, 23], [0, 1, 2, 3, 4, 5, 6, 7, 8, 9, 10, 11, 12, 13, 14, 15, 18, 19, 20, 21, 22, 23, 24], [0, 1, 2, 3, 4, 5, 6, 7, 8, 9, 10, 11, 12, 13, 14, 15, 18, 19, 20, 21, 22, 23, 24, 25], [0, 1, 2, 3, 4, 5, 6, 7, 8, 9, 10, 11, 12, 13, 14, 15, 18, 19, 20, 21, 22, 23, 24, 25, 26], [0, 1, 2, 3, 4, 5, 6, 7, 8, 9, 10, 11, 12, 13, 14, 15, 16, 17, 18, 19, 20, 21, 22, 23, 24, 25, 26, 27], [0, 1, 2, 3, 4, 5, 6, 7, 8, 9, 10, 11, 12, 13, 14, 15, 16, 17, 18, 19, 20, 21, 22, 23, 24, 25, 26, 27, 28]]) (by kernel_rfl) (by kernel_rfl) (fun x w h1 h2 => (.cons () (.cons () (.cons () (.cons () (.cons () (.cons () (.cons () (.cons () (.cons () (.cons () (.cons () (.cons () (.nil ⟨EnvAll.of h1 ⟨rfl, rfl, rfl, rfl, rfl, rfl, rfl, rfl, trivial⟩, h2⟩)))))))))))))) (fun Q => by kernel_rfl) ⟨?_, ?_, ?_, ?_, ?_, ?_, ?_, ?_, ?_, ?_, ?_, ?_, ?_, ?_, ?_, ?_, ?_, ?_, ?_, ?_, ?_, ?_, ?_, ?_, ?_, ?_, ?_, ?_, ?_, ?_, trivial⟩ ?_
                      · rintro Fr _
                        refine SO.v rfl (opv_move rfl) ?_
                        exact SO.nilZ fun a w h1 h2 h3 h4 h5 => PZ.of h1 h3 h5 (.cons () (.cons () (.nil ⟨EnvAll.of h2 ⟨rfl, rfl, trivial⟩, h4⟩)))
                      · rintro Fr _
                        refine SO.v rfl (opv_iface Try.underlying27 rfl rfl) ?_
                        exact SO.nilZ fun a w h1 h2 h3 h4 h5 => PZ.of h1 h3 h5 (.cons () (.cons () (.nil ⟨EnvAll.of h2 ⟨rfl, rfl, trivial⟩, h4⟩)))
                      · rintro Fr _
                        refine SO.v rfl (opv_fieldAddr Try.underlying29 rfl Try.sizeOf3 rfl rfl) ?_
                        exact SO.nilZ fun a w h1 h2 h3 h4 h5 => PZ.of h1 h3 h5 (.cons () (.cons () (.nil ⟨EnvAll.of h2 ⟨rfl, rfl, trivial⟩, h4⟩)))
                      · rintro Fr _ _
                        refine SO.load1 rfl Try.isAgg3 rfl rfl ?_
                        exact SO.nilZ fun a w h1 h2 h3 h4 h5 => PZ.of h1 h3 h5 (.cons () (.cons () (.cons () (.nil ⟨EnvAll.of h2 ⟨rfl, rfl, trivial⟩, h4⟩))))
                      · rintro Fr _ _ _
                        refine SO.call (pre := [(plainV v8).rep _]) rfl Try.call21 rfl rfl rfl (cdt_Parent.ct (plainV v8) _ _ _ _ ht86) trivial ?_
                        rintro _ _ ⟨rfl, rfl⟩
                        refine headEq (plainV_rep _ _) ?_
                        refine SO.rd fun hr88 => ?_
                        exact SO.nilZ fun a w h1 h2 h3 h4 h5 => PZ.of h1 h3 h5 (.cons () (.cons () (.cons () (.cons () (.nil ⟨EnvAll.of h2 ⟨rfl, rfl, rfl, trivial⟩, h4⟩)))))
                      · rintro Fr _
                        refine SO.v rfl (opv_move rfl) ?_
                        exact SO.nilZ fun a w h1 h2 h3 h4 h5 => PZ.of h1 h3 h5 (.cons () (.cons () (.nil ⟨EnvAll.of h2 ⟨rfl, rfl, trivial⟩, h4⟩)))
                      · rintro Fr _
                        refine SO.v rfl (opv_nilCheck rfl) ?_
                        exact SO.nilZ fun a w h1 h2 h3 h4 h5 => PZ.of h1 h3 h5 (.cons () (.cons () (.nil ⟨EnvAll.of h2 ⟨rfl, rfl, trivial⟩, h4⟩)))
                      · rintro Fr _
                        refine SO.v rfl (opv_fieldAddr Try.underlying50 rfl Try.sizeOf47 rfl rfl) ?_
                        exact SO.nilZ fun a w h1 h2 h3 h4 h5 => PZ.of h1 h3 h5 (.cons () (.cons () (.nil ⟨EnvAll.of h2 ⟨rfl, rfl, trivial⟩, h4⟩)))
                      · rintro Fr _ _
                        refine SO.load1 rfl Try.isAgg47 rfl rfl ?_
                        exact SO.nilZ fun a w h1 h2 h3 h4 h5 => PZ.of h1 h3 h5 (.cons () (.cons () (.cons () (.nil ⟨EnvAll.of h2 ⟨rfl, rfl, trivial⟩, h4⟩))))
                      · rintro Fr _
                        refine SO.v rfl (opv_fieldAddr Try.underlying29 rfl Try.sizeOf3 rfl rfl) ?_
                        exact SO.nilZ fun a w h1 h2 h3 h4 h5 => PZ.of h1 h3 h5 (.cons () (.cons () (.nil ⟨EnvAll.of h2 ⟨rfl, rfl, trivial⟩, h4⟩)))
                      · rintro Fr _ _
                        refine SO.load1 rfl Try.isAgg3 rfl rfl ?_
                        exact SO.nilZ fun a w h1 h2 h3 h4 h5 => PZ.of h1 h3 h5 (.cons () (.cons () (.cons () (.nil ⟨EnvAll.of h2 ⟨rfl, rfl, trivial⟩, h4⟩))))
                      · rintro Fr _ _ _
                        refine SO.v rfl (opv_idx Try.underlying47 Try.sizeOf46 hR51 rfl rfl hr92) ?_
                        exact SO.nilZ fun a w h1 h2 h3 h4 h5 => PZ.of h1 h3 h5 (.cons () (.cons () (.cons () (.cons () (.nil ⟨EnvAll.of h2 ⟨rfl, rfl, rfl, trivial⟩, h4⟩)))))
                      · rintro Fr _ _
                        refine SO.v rfl (opv_fieldIdx Try.underlying46 rfl Try.sizeOf3 hR51 hr92 rfl rfl) ?_
                        exact SO.nilZ fun a w h1 h2 h3 h4 h5 => PZ.of h1 h3 h5 (.cons () (.cons () (.cons () (.nil ⟨EnvAll.of h2 ⟨rfl, rfl, trivial⟩, h4⟩))))
                      · rintro Fr _ _
                        refine SO.loadI1 (j := 6) rfl Try.isAgg3 (Rd.head hR51) hr92 rfl rfl rfl (hc93.val rfl) ?_
                        exact SO.nilZ fun a w h1 h2 h3 h4 h5 => PZ.of h1 h3 h5 (.cons () (.cons () (.cons () (.nil ⟨EnvAll.of h2 ⟨rfl, rfl, trivial⟩, h4⟩))))
                      · rintro Fr _ _
                        refine SO.v rfl (opv_neq rfl rfl) ?_
                        exact SO.nilZ fun a w h1 h2 h3 h4 h5 => PZ.of h1 h3 h5 (.cons () (.cons () (.cons () (.nil ⟨EnvAll.of h2 ⟨rfl, rfl, rfl, trivial⟩, h4⟩))))
                      · rintro Fr _
                        refine SO.v rfl (opv_move rfl) ?_
                        exact SO.nilZ fun a w h1 h2 h3 h4 h5 => PZ.of h1 h3 h5 (.cons () (.cons () (.nil ⟨EnvAll.of h2 ⟨rfl, rfl, trivial⟩, h4⟩)))
                      · rintro Fr _
                        refine SO.passF rfl rfl rfl b94 rfl rfl ?_
                        exact SO.nilZ fun a w h1 h2 h3 h4 h5 => PZ.of h1 h3 h5 (.cons () (.cons () (.nil ⟨EnvAll.of h2 ⟨rfl, rfl, trivial⟩, h4⟩)))
                      · rintro Fr _
                        refine SO.passF rfl rfl rfl b94 rfl rfl ?_
                        exact SO.nilZ fun a w h1 h2 h3 h4 h5 => PZ.of h1 h3 h5 (.cons () (.cons () (.nil ⟨EnvAll.of h2 ⟨rfl, rfl, trivial⟩, h4⟩)))
                      · rintro Fr _
                        refine SO.passF rfl rfl rfl b94 rfl rfl ?_
                        exact SO.nilZ fun a w h1 h2 h3 h4 h5 => PZ.of h1 h3 h5 (.cons () (.cons () (.nil ⟨EnvAll.of h2 ⟨rfl, rfl, trivial⟩, h4⟩)))
                      · rintro Fr _
                        refine SO.passF rfl rfl rfl b94 rfl rfl ?_
                        exact SO.nilZ fun a w h1 h2 h3 h4 h5 => PZ.of h1 h3 h5 (.cons () (.cons () (.nil ⟨EnvAll.of h2 ⟨rfl, rfl, trivial⟩, h4⟩)))
                      · rintro Fr _
                        refine SO.passF rfl rfl rfl b94 rfl rfl ?_
                        exact SO.nilZ fun a w h1 h2 h3 h4 h5 => PZ.of h1 h3 h5 (.cons () (.cons () (.nil ⟨EnvAll.of h2 ⟨rfl, rfl, trivial⟩, h4⟩)))
                      · rintro Fr _
                        refine SO.passF rfl rfl rfl b94 rfl rfl ?_
                        exact SO.nilZ fun a w h1 h2 h3 h4 h5 => PZ.of h1 h3 h5 (.cons () (.cons () (.nil ⟨EnvAll.of h2 ⟨rfl, rfl, trivial⟩, h4⟩)))
                      · rintro Fr _
                        refine SO.passF rfl rfl rfl b94 rfl rfl ?_
                        exact SO.nilZ fun a w h1 h2 h3 h4 h5 => PZ.of h1 h3 h5 (.cons () (.cons () (.nil ⟨EnvAll.of h2 ⟨rfl, rfl, trivial⟩, h4⟩)))
                      · rintro Fr _
                        refine SO.passF rfl rfl rfl b94 rfl rfl ?_
                        exact SO.nilZ fun a w h1 h2 h3 h4 h5 => PZ.of h1 h3 h5 (.cons () (.cons () (.nil ⟨EnvAll.of h2 ⟨rfl, rfl, trivial⟩, h4⟩)))
                      · rintro Fr _
                        refine SO.passF rfl rfl rfl b94 rfl rfl ?_
                        exact SO.nilZ fun a w h1 h2 h3 h4 h5 => PZ.of h1 h3 h5 (.cons () (.cons () (.nil ⟨EnvAll.of h2 ⟨rfl, rfl, trivial⟩, h4⟩)))
                      · rintro Fr _
                        refine SO.passF rfl rfl rfl b94 rfl rfl ?_
                        exact SO.nilZ fun a w h1 h2 h3 h4 h5 => PZ.of h1 h3 h5 (.cons () (.cons () (.nil ⟨EnvAll.of h2 ⟨rfl, rfl, trivial⟩, h4⟩)))
                      · rintro Fr _
                        refine SO.passF rfl rfl rfl b94 rfl rfl ?_
                        exact SO.nilZ fun a w h1 h2 h3 h4 h5 => PZ.of h1 h3 h5 (.cons () (.cons () (.nil ⟨EnvAll.of h2 ⟨rfl, rfl, trivial⟩, h4⟩)))
                      · rintro Fr _
                        refine SO.passF rfl rfl rfl b94 rfl rfl ?_
                        exact SO.nilZ fun a w h1 h2 h3 h4 h5 => PZ.of h1 h3 h5 (.cons () (.cons () (.nil ⟨EnvAll.of h2 ⟨rfl, rfl, trivial⟩, h4⟩)))
                      · rintro Fr _
                        refine SO.passF rfl rfl rfl b94 rfl rfl ?_
                        exact SO.nilZ fun a w h1 h2 h3 h4 h5 => PZ.of h1 h3 h5 (.cons () (.cons () (.nil ⟨EnvAll.of h2 ⟨rfl, rfl, trivial⟩, h4⟩)))
                      · rintro Fr _ _
                        refine SO.v rfl (opv_pick_t' b94 rfl rfl) ?_
                        exact SO.nilZ fun a w h1 h2 h3 h4 h5 => PZ.of h1 h3 h5 (.cons () (.cons () (.cons () (.nil ⟨EnvAll.of h2 ⟨rfl, rfl, rfl, trivial⟩, h4⟩))))
                      rintro _ _ _ _ _ _ _ _ _ _ _ _ _
                      refine S.to (ρ' := [(0, v0), (2, .bool false), (3, .bool t1), (6, .int .i64 x6_1), (4, bp b6 0), (5, v8), (7, bp b16 0), (11, v82), (164, .bool true)]) ⟨rfl, rfl, rfl, rfl, rfl, rfl, rfl, rfl, rfl, trivial⟩ ?_
                      refine S.rd fun hr95 => ?_
                      cases h
                      refine S.b6 ?_
                      refine S.b6 ?_
                      refine S.b6 ?_
                      refine S.b6 ?_
                      refine S.b6 ?_
                      refine S.b6 ?_
                      refine S.b6 ?_
                      refine S.to ?_ (hk4 () trivial)
                      exact ⟨rfl, rfl, rfl, rfl, rfl, rfl, rfl, rfl, rfl, trivial⟩
                    · replace h := cond_f b94 h
                      obtain ⟨x96, hx97, h⟩ := opt_bind h
                      obtain ⟨r98, hr99, hc100⟩ := relR.at hrel50 hx97
                      obtain ⟨u101, hu102, hru103⟩ := hc100.sl 7 rfl
                      refine S.draw' (Z := fun Q => ∀ (_ : Unit) (_ : Unit) (_ : Unit) (_ : Unit) (_ : Unit) (_ : Unit) (_ : Unit) (_ : Unit) (_ : Unit) (_ : Unit) (_ : Unit) (_ : Unit) (_ : Unit), Q [(0, v0), (2, .bool false), (3, .bool t1), (6, .int .i64 x6_1), (4, bp b6 0), (5, v8), (7, bp b16 0), (11, v82), (164, .bool ((t79.length : Int) != (x96.Kids.length : Int)))] [Own 65 (ekI .u64) v8 s87, Own 3 (ekI .i64) v82 t79, Box b16 [.int .i64 x14.What, .int .i64 x14.A, .int .i64 x14.B], OwnO 56 kr_ref10_Obj u47_Objs raws52 A53 p45.Objs, OwnO 46 kr_ref10_Slot u47_Slots raws48 A49 p45.Slots, Box b6 [u47_Slots, u47_Objs, .int .i64 p45.NS, .int .i64 p45.NO], F]) (T := [tS 5 (v8), tS 7 (bp b16 0), tS 4 (bp b6 0), tS 11 (v82), tE [(0, v0), (2, .bool false), (3, .bool t1), (6, .int .i64 x6_1)], tR (Own 65 (ekI .u64) v8 s81), tR (Own 3 (ekI .i64) v82 t79), tR (Box b16 [.int .i64 x14.What, .int .i64 x14.A, .int .i64 x14.B]), tR (OwnO 56 kr_ref10_Obj u47_Objs raws52 A53 p45.Objs), tR (OwnO 46 kr_ref10_Slot u47_Slots raws48 A49 p45.Slots), tR (Box b6 [u47_Slots, u47_Objs, .int .i64 p45.NS, .int .i64 p45.NO]), tR (F), tS 135 (v8), tS 136 ((plainV v8).val), tS 137 (bp b16 1), tS 138 (.int .i64 x14.A), tR (Own 65 (ekI .u64) v8 s87), tS 139 (.int .i64 t85), tS 140 (bp b6 0), tS 141 (bp b6 0), tS 142 (bp b6 0), tS 143 (u47_Slots), tS 144 (bp b16 1), tS 145 (.int .i64 x14.A), tS 146 (idxp u47_Slots (x14.A.toNat * kr_ref10_Slot.sz)), tS 147 (idxp u47_Slots (x14.A.toNat * kr_ref10_Slot.sz + 6)), tS 148 (.int .i64 x89.Parent), tS 149 (.bool (t85 != x89.Parent)), tS 150 (.bool (t85 != x89.Parent)), tS 151 (v82), tS 152 (.int .i64 (t79.length : Int)), tS 153 (bp b6 0), tS 154 (bp b6 0), tS 155 (bp b6 0), tS 156 (u47_Slots), tS 157 (bp b16 2), tS 158 (.int .i64 x14.B), tS 159 (idxp u47_Slots (x14.B.toNat * kr_ref10_Slot.sz)), tS 160 (idxp u47_Slots (x14.B.toNat * kr_ref10_Slot.sz + 7)), tS 161 (u101), tS 162 (.int .i64 (x96.Kids.length : Int)), tS 163 (.bool ((t79.length : Int) != (x96.Kids.length : Int))), tS 164 (.bool ((t79.length : Int) != (x96.Kids.length : Int)))]) (D := [⟨[0], [], [12]⟩, ⟨[12], [], [13]⟩, ⟨[1], [], [14]⟩, ⟨[14, 7], [], [15]⟩, ⟨[13, 15], [5], [16, 17]⟩, ⟨[2], [], [18]⟩, ⟨[18], [], [19]⟩, ⟨[19], [], [20]⟩, ⟨[20, 10], [], [21]⟩, ⟨[1], [], [22]⟩, ⟨[22, 7], [], [23]⟩, ⟨[21, 23, 9], [], [24]⟩, ⟨[24, 9], [], [25]⟩, ⟨[25, 9], [], [26]⟩, ⟨[17, 26], [], [27]⟩, ⟨[27], [], [28]⟩, ⟨[3, 28], [], [29]⟩, ⟨[28, 29, 6], [], [30]⟩, ⟨[2, 28], [], [31]⟩, ⟨[28, 31], [], [32]⟩, ⟨[28, 32], [], [33]⟩, ⟨[28, 33, 10], [], [34]⟩, ⟨[1, 28], [], [35]⟩, ⟨[28, 35, 7], [], [36]⟩, ⟨[28, 34, 36, 9], [], [37]⟩, ⟨[28, 37, 9], [], [38]⟩, ⟨[28, 38, 9], [], [39]⟩, ⟨[28, 39, 9], [], [40]⟩, ⟨[28, 30, 40], [], [41]⟩, ⟨[28, 41], [], [42]⟩]) (ini := [0, 1, 2, 3, 4, 5, 6, 7, 8, 9, 10, 11]) (fin := [4, 2, 0, 1, 3, 42, 16, 6, 7, 8, 9, 10, 11]) (bf := [[], [0], [], [2], [0, 1, 2, 3], [], [5], [5, 6], [5, 6, 7], [], [9], [5, 6, 7, 8, 9, 10], [5, 6, 7, 8, 9, 10, 11], [5, 6, 7, 8, 9, 10, 11, 12], [0, 1, 2, 3, 4, 5, 6, 7, 8, 9, 10, 11, 12, 13], [0, 1, 2, 3, 4, 5, 6, 7, 8, 9, 10, 11, 12, 13, 14], [0, 1, 2, 3, 4, 5, 6, 7, 8, 9, 10, 11, 12, 13, 14, 15], [0, 1, 2, 3, 4, 5, 6, 7, 8, 9, 10, 11, 12, 13, 14, 15, 16], [0, 1, 2, 3, 4, 5, 6, 7, 8, 9, 10, 11, 12, 13, 14, 15], [0, 1, 2, 3, 4, 5, 6, 7, 8, 9, 10, 11, 12, 13, 14, 15, 18], [0, 1, 2, 3, 4, 5, 6, 7, 8, 9, 10, 11, 12, 13, 14, 15, 18, 19], [0, 1, 2, 3, 4, 5, 6, 7, 8, 9, 10, 11, 12, 13, 14, 15, 18, 19, 20], [0, 1, 2, 3, 4, 5, 6, 7, 8, 9, 10, 11, 12, 13, 14, 15], [0, 1, 2, 3, 4, 5, 6, 7, 8, 9, 10, 11, 12, 13, 14, 15, 22], [0, 1, 2, 3, 4, 5, 6, 7, 8, 9, 10, 11, 12, 13, 14, 15, 18, 19, 20, 21, 22, 23], [0, 1, 2, 3, 4, 5, 6, 7, 8, 9, 10, 11, 12, 13, 14, 15, 18, 19, 20, 21, 22, 23, 24], [0, 1, 2, 3, 4, 5, 6, 7, 8, 9, 10, 11, 12, 13, 14, 15, 18, 19, 20, 21, 22, 23, 24, 25], [0, 1, 2, 3, 4, 5, 6, 7, 8, 9, 10, 11, 12, 13, 14, 15, 18, 19, 20, 21, 22, 23, 24, 25, 26], [0, 1, 2, 3, 4, 5, 6, 7, 8, 9, 10, 11, 12, 13, 14, 15, 16, 17, 18, 19, 20, 21, 22, 23, 24, 25, 26, 27], [0, 1, 2, 3, 4, 5, 6, 7, 8, 9, 10, 11, 12, 13, 14, 15, 16, 17, 18, 19, 20, 21, 22, 23, 24, 25, 26, 27, 28]]) (by kernel_rfl) (by kernel_rfl) (fun x w h1 h2 => (.cons () (.cons () (.cons () (.cons () (.cons () (.cons () (.cons () (.cons () (.cons () (.cons () (.cons () (.cons () (.nil ⟨EnvAll.of h1 ⟨rfl, rfl, rfl, rfl, rfl, rfl, rfl, rfl, trivial⟩, h2⟩)))))))))))))) (fun Q => by kernel_rfl) ⟨?_, ?_, ?_, ?_, ?_, ?_, ?_, ?_, ?_, ?_, ?_, ?_, ?_, ?_, ?_, ?_, ?_, ?_, ?_, ?_, ?_, ?_, ?_, ?_, ?_, ?_, ?_, ?_, ?_, ?_, trivial⟩ ?_
                      · rintro Fr _
                        refine SO.v rfl (opv_move rfl) ?_
                        exact SO.nilZ fun a w h1 h2 h3 h4 h5 => PZ.of h1 h3 h5 (.cons () (.cons () (.nil ⟨EnvAll.of h2 ⟨rfl, rfl, trivial⟩, h4⟩)))
                      · rintro Fr _
                        refine SO.v rfl (opv_iface Try.underlying27 rfl rfl) ?_
                        exact SO.nilZ fun a w h1 h2 h3 h4 h5 => PZ.of h1 h3 h5 (.cons () (.cons () (.nil ⟨EnvAll.of h2 ⟨rfl, rfl, trivial⟩, h4⟩)))
                      · rintro Fr _
                        refine SO.v rfl (opv_fieldAddr Try.underlying29 rfl Try.sizeOf3 rfl rfl) ?_
                        exact SO.nilZ fun a w h1 h2 h3 h4 h5 => PZ.of h1 h3 h5 (.cons () (.cons () (.nil ⟨EnvAll.of h2 ⟨rfl, rfl, trivial⟩, h4⟩)))
                      · rintro Fr _ _
                        refine SO.load1 rfl Try.isAgg3 rfl rfl ?_
                        exact SO.nilZ fun a w h1 h2 h3 h4 h5 => PZ.of h1 h3 h5 (.cons () (.cons () (.cons () (.nil ⟨EnvAll.of h2 ⟨rfl, rfl, trivial⟩, h4⟩))))
                      · rintro Fr _ _ _
                        refine SO.call (pre := [(plainV v8).rep _]) rfl Try.call21 rfl rfl rfl (cdt_Parent.ct (plainV v8) _ _ _ _ ht86) trivial ?_
                        rintro _ _ ⟨rfl, rfl⟩
                        refine headEq (plainV_rep _ _) ?_
                        refine SO.rd fun hr88 => ?_
                        exact SO.nilZ fun a w h1 h2 h3 h4 h5 => PZ.of h1 h3 h5 (.cons () (.cons () (.cons () (.cons () (.nil ⟨EnvAll.of h2 ⟨rfl, rfl, rfl, trivial⟩, h4⟩)))))
                      · rintro Fr _
                        refine SO.v rfl (opv_move rfl) ?_
                        exact SO.nilZ fun a w h1 h2 h3 h4 h5 => PZ.of h1 h3 h5 (.cons () (.cons () (.nil ⟨EnvAll.of h2 ⟨rfl, rfl, trivial⟩, h4⟩)))
                      · rintro Fr _
                        refine SO.v rfl (opv_nilCheck rfl) ?_
                        exact SO.nilZ fun a w h1 h2 h3 h4 h5 => PZ.of h1 h3 h5 (.cons () (.cons () (.nil ⟨EnvAll.of h2 ⟨rfl, rfl, trivial⟩, h4⟩)))
                      · rintro Fr _
                        refine SO.v rfl (opv_fieldAddr Try.underlying50 rfl Try.sizeOf47 rfl rfl) ?_
                        exact SO.nilZ fun a w h1 h2 h3 h4 h5 => PZ.of h1 h3 h5 (.cons () (.cons () (.nil ⟨EnvAll.of h2 ⟨rfl, rfl, trivial⟩, h4⟩)))
                      · rintro Fr _ _
                        refine SO.load1 rfl Try.isAgg47 rfl rfl ?_
                        exact SO.nilZ fun a w h1 h2 h3 h4 h5 => PZ.of h1 h3 h5 (.cons () (.cons () (.cons () (.nil ⟨EnvAll.of h2 ⟨rfl, rfl, trivial⟩, h4⟩))))
                      · rintro Fr _
                        refine SO.v rfl (opv_fieldAddr Try.underlying29 rfl Try.sizeOf3 rfl rfl) ?_
                        exact SO.nilZ fun a w h1 h2 h3 h4 h5 => PZ.of h1 h3 h5 (.cons () (.cons () (.nil ⟨EnvAll.of h2 ⟨rfl, rfl, trivial⟩, h4⟩)))
                      · rintro Fr _ _
                        refine SO.load1 rfl Try.isAgg3 rfl rfl ?_
                        exact SO.nilZ fun a w h1 h2 h3 h4 h5 => PZ.of h1 h3 h5 (.cons () (.cons () (.cons () (.nil ⟨EnvAll.of h2 ⟨rfl, rfl, trivial⟩, h4⟩))))
                      · rintro Fr _ _ _
                        refine SO.v rfl (opv_idx Try.underlying47 Try.sizeOf46 hR51 rfl rfl hr92) ?_
                        exact SO.nilZ fun a w h1 h2 h3 h4 h5 => PZ.of h1 h3 h5 (.cons () (.cons () (.cons () (.cons () (.nil ⟨EnvAll.of h2 ⟨rfl, rfl, rfl, trivial⟩, h4⟩)))))
                      · rintro Fr _ _
                        refine SO.v rfl (opv_fieldIdx Try.underlying46 rfl Try.sizeOf3 hR51 hr92 rfl rfl) ?_
                        exact SO.nilZ fun a w h1 h2 h3 h4 h5 => PZ.of h1 h3 h5 (.cons () (.cons () (.cons () (.nil ⟨EnvAll.of h2 ⟨rfl, rfl, trivial⟩, h4⟩))))
                      · rintro Fr _ _
                        refine SO.loadI1 (j := 6) rfl Try.isAgg3 (Rd.head hR51) hr92 rfl rfl rfl (hc93.val rfl) ?_
                        exact SO.nilZ fun a w h1 h2 h3 h4 h5 => PZ.of h1 h3 h5 (.cons () (.cons () (.cons () (.nil ⟨EnvAll.of h2 ⟨rfl, rfl, trivial⟩, h4⟩))))
                      · rintro Fr _ _
                        refine SO.v rfl (opv_neq rfl rfl) ?_
                        exact SO.nilZ fun a w h1 h2 h3 h4 h5 => PZ.of h1 h3 h5 (.cons () (.cons () (.cons () (.nil ⟨EnvAll.of h2 ⟨rfl, rfl, rfl, trivial⟩, h4⟩))))
                      · rintro Fr _
                        refine SO.v rfl (opv_move rfl) ?_
                        exact SO.nilZ fun a w h1 h2 h3 h4 h5 => PZ.of h1 h3 h5 (.cons () (.cons () (.nil ⟨EnvAll.of h2 ⟨rfl, rfl, trivial⟩, h4⟩)))
                      · rintro Fr _ _
                        refine SO.takeT rfl rfl rfl b94 ?_
                        refine SO.v rfl (opv_move rfl) ?_
                        exact SO.nilZ fun a w h1 h2 h3 h4 h5 => PZ.of h1 h3 h5 (.cons () (.cons () (.cons () (.nil ⟨EnvAll.of h2 ⟨rfl, rfl, rfl, trivial⟩, h4⟩))))
                      · rintro Fr _ _ _
                        refine SO.takeT rfl rfl rfl b94 ?_
                        refine SO.v rfl (opv_lenR rfl Try.underlying41 hr83 rfl) ?_
                        exact SO.nilZ fun a w h1 h2 h3 h4 h5 => PZ.of h1 h3 h5 (.cons () (.cons () (.cons () (.cons () (.nil ⟨EnvAll.of h2 ⟨rfl, rfl, rfl, trivial⟩, h4⟩)))))
                      · rintro Fr _ _
                        refine SO.takeT rfl rfl rfl b94 ?_
                        refine SO.v rfl (opv_move rfl) ?_
                        exact SO.nilZ fun a w h1 h2 h3 h4 h5 => PZ.of h1 h3 h5 (.cons () (.cons () (.cons () (.nil ⟨EnvAll.of h2 ⟨rfl, rfl, rfl, trivial⟩, h4⟩))))
                      · rintro Fr _ _
                        refine SO.takeT rfl rfl rfl b94 ?_
                        refine SO.v rfl (opv_nilCheck rfl) ?_
                        exact SO.nilZ fun a w h1 h2 h3 h4 h5 => PZ.of h1 h3 h5 (.cons () (.cons () (.cons () (.nil ⟨EnvAll.of h2 ⟨rfl, rfl, rfl, trivial⟩, h4⟩))))
                      · rintro Fr _ _
                        refine SO.takeT rfl rfl rfl b94 ?_
                        refine SO.v rfl (opv_fieldAddr Try.underlying50 rfl Try.sizeOf47 rfl rfl) ?_
                        exact SO.nilZ fun a w h1 h2 h3 h4 h5 => PZ.of h1 h3 h5 (.cons () (.cons () (.cons () (.nil ⟨EnvAll.of h2 ⟨rfl, rfl, rfl, trivial⟩, h4⟩))))
                      · rintro Fr _ _ _
                        refine SO.takeT rfl rfl rfl b94 ?_
                        refine SO.load1 rfl Try.isAgg47 rfl rfl ?_
                        exact SO.nilZ fun a w h1 h2 h3 h4 h5 => PZ.of h1 h3 h5 (.cons () (.cons () (.cons () (.cons () (.nil ⟨EnvAll.of h2 ⟨rfl, rfl, rfl, trivial⟩, h4⟩)))))
                      · rintro Fr _ _
                        refine SO.takeT rfl rfl rfl b94 ?_
                        refine SO.v rfl (opv_fieldAddr Try.underlying29 rfl Try.sizeOf3 rfl rfl) ?_
                        exact SO.nilZ fun a w h1 h2 h3 h4 h5 => PZ.of h1 h3 h5 (.cons () (.cons () (.cons () (.nil ⟨EnvAll.of h2 ⟨rfl, rfl, rfl, trivial⟩, h4⟩))))
                      · rintro Fr _ _ _
                        refine SO.takeT rfl rfl rfl b94 ?_
                        refine SO.load1 rfl Try.isAgg3 rfl rfl ?_
                        exact SO.nilZ fun a w h1 h2 h3 h4 h5 => PZ.of h1 h3 h5 (.cons () (.cons () (.cons () (.cons () (.nil ⟨EnvAll.of h2 ⟨rfl, rfl, rfl, trivial⟩, h4⟩)))))
                      · rintro Fr _ _ _ _
                        refine SO.takeT rfl rfl rfl b94 ?_
                        refine SO.v rfl (opv_idx Try.underlying47 Try.sizeOf46 hR51 rfl rfl hr99) ?_
                        exact SO.nilZ fun a w h1 h2 h3 h4 h5 => PZ.of h1 h3 h5 (.cons () (.cons () (.cons () (.cons () (.cons () (.nil ⟨EnvAll.of h2 ⟨rfl, rfl, rfl, rfl, trivial⟩, h4⟩))))))
                      · rintro Fr _ _ _
                        refine SO.takeT rfl rfl rfl b94 ?_
                        refine SO.v rfl (opv_fieldIdx Try.underlying46 rfl Try.sizeOf41 hR51 hr99 rfl rfl) ?_
                        exact SO.nilZ fun a w h1 h2 h3 h4 h5 => PZ.of h1 h3 h5 (.cons () (.cons () (.cons () (.cons () (.nil ⟨EnvAll.of h2 ⟨rfl, rfl, rfl, trivial⟩, h4⟩)))))
                      · rintro Fr _ _ _
                        refine SO.takeT rfl rfl rfl b94 ?_
                        refine SO.loadI1 (j := 7) rfl Try.isAgg41 (Rd.head hR51) hr99 rfl rfl rfl hu102 ?_
                        exact SO.nilZ fun a w h1 h2 h3 h4 h5 => PZ.of h1 h3 h5 (.cons () (.cons () (.cons () (.cons () (.nil ⟨EnvAll.of h2 ⟨rfl, rfl, rfl, trivial⟩, h4⟩)))))
                      · rintro Fr _ _ _
                        refine SO.takeT rfl rfl rfl b94 ?_
                        refine SO.v rfl (opv_lenR rfl Try.underlying41 hru103 rfl) ?_
                        exact SO.nilZ fun a w h1 h2 h3 h4 h5 => PZ.of h1 h3 h5 (.cons () (.cons () (.cons () (.cons () (.nil ⟨EnvAll.of h2 ⟨rfl, rfl, rfl, trivial⟩, h4⟩)))))
                      · rintro Fr _ _ _
                        refine SO.takeT rfl rfl rfl b94 ?_
                        refine SO.v rfl (opv_neq rfl rfl) ?_
                        exact SO.nilZ fun a w h1 h2 h3 h4 h5 => PZ.of h1 h3 h5 (.cons () (.cons () (.cons () (.cons () (.nil ⟨EnvAll.of h2 ⟨rfl, rfl, rfl, rfl, trivial⟩, h4⟩)))))
                      · rintro Fr _ _
                        refine SO.v rfl (opv_pick_f' b94 rfl rfl) ?_
                        exact SO.nilZ fun a w h1 h2 h3 h4 h5 => PZ.of h1 h3 h5 (.cons () (.cons () (.cons () (.nil ⟨EnvAll.of h2 ⟨rfl, rfl, rfl, trivial⟩, h4⟩))))
                      rintro _ _ _ _ _ _ _ _ _ _ _ _ _
                      refine S.to (ρ' := [(0, v0), (2, .bool false), (3, .bool t1), (6, .int .i64 x6_1), (4, bp b6 0), (5, v8), (7, bp b16 0), (11, v82), (164, .bool ((t79.length : Int) != (x96.Kids.length : Int)))]) ⟨rfl, rfl, rfl, rfl, rfl, rfl, rfl, rfl, rfl, trivial⟩ ?_
                      refine S.rd fun hr104 => ?_
                      cases h
                      refine S.b6 ?_
                      refine S.b6 ?_
                      refine S.b6 ?_
                      refine S.b6 ?_
                      refine S.b6 ?_
                      refine S.b6 ?_
                      refine S.b6 ?_
                      refine S.to ?_ (hk4 () trivial)
                      exact ⟨rfl, rfl, rfl, rfl, rfl, rfl, rfl, rfl, rfl, trivial⟩
                  rintro _ -
                  replace h := hJ4
                  refine S.rd fun hr105 => ?_
                  rcases bool_or j164_4 with b106 | b106
                  · replace h := cond_t b106 h
                    refine S.condT rfl b106 ?_
                    refine S.seq ?_
                    refine S.region ?_
                    refine SO.v rfl (opv_assign rfl) ?_
                    refine SO.nil ?_
                    refine S.to (ρ' := [(2, .bool false)]) ⟨rfl, trivial⟩ ?_
                    cases h
                    replace h := hK1.1 _ rfl
                    cases h
                    refine S.b3 ?_
                    refine S.closeR ?_
                    refine S.b4 ?_
                    refine S.closeR ?_
                    refine S.drop ?_
                    refine S.drop ?_
                    refine S.drop ?_
                    refine S.drop ?_
                    refine S.drop ?_
                    refine S.drop ?_
                    exact S.ret1 Try.func3 rfl rfl (fun w hs hk => hR w _ _ ⟨rfl, rfl⟩ hs hk)
                  · replace h := cond_f b106 h
                    refine S.condF rfl b106 ?_
                    refine S.skip ?_
                    refine S.seq ?_
                    refine S.region ?_
                    refine SO.v rfl (opv_assign rfl) ?_
                    refine SO.nil ?_
                    obtain ⟨o5, hl5, h⟩ := opt_bind h
                    refine S.b6 ?_
                    refine S.b6 ?_
                    refine S.b6 ?_
                    refine S.b6 ?_
                    refine S.b6 ?_
                    refine S.b6 ?_
                    refine S.b6 ?_
                    refine S.to (ρ' := [(12, .int .i64 0), (0, v0), (2, .bool false), (3, .bool t1), (4, bp b6 0), (5, v8), (6, .int .i64 x6_1), (7, bp b16 0), (11, v82)]) ⟨rfl, rfl, rfl, rfl, rfl, rfl, rfl, rfl, rfl, trivial⟩ ?_
                    refine S.forloop (X := Int × Unit) (O := Brk Bool Unit) (fun m x => law10_CdtPlays.l5 x14 p45 t79 m x.1) (fun x => match x with | (x12_5, _) => [(12, .int .i64 x12_5), (0, v0), (2, .bool false), (3, .bool t1), (4, bp b6 0), (5, v8), (6, .int .i64 x6_1), (7, bp b16 0), (11, v82)]) (fun x => match x with | (x12_5, _) => [Own 65 (ekI .u64) v8 qv8_4, Own 3 (ekI .i64) v82 t79, Box b16 [.int .i64 x14.What, .int .i64 x14.A, .int .i64 x14.B], OwnO 56 kr_ref10_Obj u47_Objs raws52 A53 p45.Objs, OwnO 46 kr_ref10_Slot u47_Slots raws48 A49 p45.Slots, Box b6 [u47_Slots, u47_Objs, .int .i64 p45.NS, .int .i64 p45.NO], F]) (fun Sk o' => (∀ r', o' = Brk.ret r' → some (Brk.ret r') = some o_1) ∧ ∀ _ : Unit, ∀ _ : Unit, o' = Brk.nx () → Sk [(0, v0), (2, .bool false), (3, .bool t1), (4, bp b6 0), (5, v8), (6, .int .i64 x6_1)] [Own 65 (ekI .u64) v8 qv8_4, Own 3 (ekI .i64) v82 t79, Box b16 [.int .i64 x14.What, .int .i64 x14.A, .int .i64 x14.B], OwnO 56 kr_ref10_Obj u47_Objs raws52 A53 p45.Objs, OwnO 46 kr_ref10_Slot u47_Slots raws48 A49 p45.Slots, Box b6 [u47_Slots, u47_Objs, .int .i64 p45.NS, .int .i64 p45.NO], F]) (fun _ => rfl) ?_ (m := k) (x := (0, ())) hl5 ?_
                    · clear h hl5
                      intro k x o_5 h hK5 ih5
                      obtain ⟨x12_5, _⟩ := x
                      replace h : law10_CdtPlays.l5 x14 p45 t79 (k + 1) x12_5 = some o_5 := h
                      first | rw [law10_CdtPlays.l5] at h | unfold law10_CdtPlays.l5 at h
                      refine S.seq ?_
                      refine S.seq ?_
                      refine S.region ?_
                      refine SO.v rfl (opv_move rfl) ?_
                      refine SO.v rfl (opv_move rfl) ?_
                      refine SO.v rfl (opv_lenR rfl Try.underlying41 hr83 rfl) ?_
                      refine SO.v rfl (opv_lss rfl rfl) ?_
                      refine SO.nil ?_
                      rcases bool_or (decide (x12_5 < (t79.length : Int))) with b107 | b107
                      · replace h := cond_t b107 h
                        refine S.condT rfl b107 ?_
                        refine S.skip ?_
                        refine S.seq ?_
                        refine S.block ?_
                        refine S.seq ?_
                        obtain ⟨x108, hx109, h⟩ := opt_bind h
                        obtain ⟨x110, hx111, h⟩ := opt_bind h
                        obtain ⟨r112, hr113, hc114⟩ := relR.at hrel50 hx111
                        obtain ⟨u115, hu116, hru117⟩ := hc114.sl 7 rfl
                        obtain ⟨x118, hx119, h⟩ := opt_bind h
                        refine S.draw' (Z := fun Q => ∀ (_ : Unit) (_ : Unit) (_ : Unit) (_ : Unit) (_ : Unit) (_ : Unit) (_ : Unit) (_ : Unit) (_ : Unit) (_ : Unit) (_ : Unit) (_ : Unit) (_ : Unit), Q [(12, .int .i64 x12_5), (0, v0), (2, .bool false), (3, .bool t1), (5, v8), (6, .int .i64 x6_1), (4, bp b6 0), (7, bp b16 0), (11, v82), (187, .bool (x108 != x118))] [Own 65 (ekI .u64) v8 qv8_4, Own 3 (ekI .i64) v82 t79, Box b16 [.int .i64 x14.What, .int .i64 x14.A, .int .i64 x14.B], OwnO 56 kr_ref10_Obj u47_Objs raws52 A53 p45.Objs, OwnO 46 kr_ref10_Slot u47_Slots raws48 A49 p45.Slots, Box b6 [u47_Slots, u47_Objs, .int .i64 p45.NS, .int .i64 p45.NO], F]) (T := [tS 11 (v82), tS 12 (.int .i64 x12_5), tS 4 (bp b6 0), tS 7 (bp b16 0), tE [(0, v0), (2, .bool false), (3, .bool t1), (5, v8), (6, .int .i64 x6_1)], tR (Own 65 (ekI .u64) v8 qv8_4), tR (Own 3 (ekI .i64) v82 t79), tR (Box b16 [.int .i64 x14.What, .int .i64 x14.A, .int .i64 x14.B]), tR (OwnO 56 kr_ref10_Obj u47_Objs raws52 A53 p45.Objs), tR (OwnO 46 kr_ref10_Slot u47_Slots raws48 A49 p45.Slots), tR (Box b6 [u47_Slots, u47_Objs, .int .i64 p45.NS, .int .i64 p45.NO]), tR (F), tS 171 (v82), tS 172 (.int .i64 x12_5), tS 173 (idxp v82 (x12_5.toNat * (ekI .i64).sz)), tS 174 (.int .i64 x108), tS 175 (bp b6 0), tS 176 (bp b6 0), tS 177 (bp b6 0), tS 178 (u47_Slots), tS 179 (bp b16 2), tS 180 (.int .i64 x14.B), tS 181 (idxp u47_Slots (x14.B.toNat * kr_ref10_Slot.sz)), tS 182 (idxp u47_Slots (x14.B.toNat * kr_ref10_Slot.sz + 7)), tS 183 (u115), tS 184 (.int .i64 x12_5), tS 185 (idxp u115 (x12_5.toNat * (ekI .i64).sz)), tS 186 (.int .i64 x118), tS 187 (.bool (x108 != x118))]) (D := [⟨[0], [], [12]⟩, ⟨[1], [], [13]⟩, ⟨[12, 13, 6], [], [14]⟩, ⟨[14, 6], [], [15]⟩, ⟨[2], [], [16]⟩, ⟨[16], [], [17]⟩, ⟨[17], [], [18]⟩, ⟨[18, 10], [], [19]⟩, ⟨[3], [], [20]⟩, ⟨[20, 7], [], [21]⟩, ⟨[19, 21, 9], [], [22]⟩, ⟨[22, 9], [], [23]⟩, ⟨[23, 9], [], [24]⟩, ⟨[1], [], [25]⟩, ⟨[24, 25, 9], [], [26]⟩, ⟨[26, 9], [], [27]⟩, ⟨[15, 27], [], [28]⟩]) (ini := [0, 1, 2, 3, 4, 5, 6, 7, 8, 9, 10, 11]) (fin := [1, 4, 2, 3, 0, 28, 5, 6, 7, 8, 9, 10, 11]) (bf := [[], [], [0, 1], [0, 1, 2], [], [4], [4, 5], [4, 5, 6], [], [8], [4, 5, 6, 7, 8, 9], [4, 5, 6, 7, 8, 9, 10], [4, 5, 6, 7, 8, 9, 10, 11], [], [4, 5, 6, 7, 8, 9, 10, 11, 12, 13], [4, 5, 6, 7, 8, 9, 10, 11, 12, 13, 14], [0, 1, 2, 3, 4, 5, 6, 7, 8, 9, 10, 11, 12, 13, 14, 15]]) (by kernel_rfl) (by kernel_rfl) (fun x w h1 h2 => (.cons () (.cons () (.cons () (.cons () (.cons () (.cons () (.cons () (.cons () (.cons () (.cons () (.cons () (.cons () (.nil ⟨EnvAll.of h1 ⟨rfl, rfl, rfl, rfl, rfl, rfl, rfl, rfl, rfl, trivial⟩, h2⟩)))))))))))))) (fun Q => by kernel_rfl) ⟨?_, ?_, ?_, ?_, ?_, ?_, ?_, ?_, ?_, ?_, ?_, ?_, ?_, ?_, ?_, ?_, ?_, trivial⟩ ?_
                        · rintro Fr _
                          refine SO.v rfl (opv_move rfl) ?_
                          exact SO.nilZ fun a w h1 h2 h3 h4 h5 => PZ.of h1 h3 h5 (.cons () (.cons () (.nil ⟨EnvAll.of h2 ⟨rfl, rfl, trivial⟩, h4⟩)))
                        · rintro Fr _
                          refine SO.v rfl (opv_move rfl) ?_
                          exact SO.nilZ fun a w h1 h2 h3 h4 h5 => PZ.of h1 h3 h5 (.cons () (.cons () (.nil ⟨EnvAll.of h2 ⟨rfl, rfl, trivial⟩, h4⟩)))
                        · rintro Fr _ _ _
                          refine SO.v rfl (opv_idx Try.underlying41 Try.sizeOf3 hr83 rfl rfl hx109) ?_
                          exact SO.nilZ fun a w h1 h2 h3 h4 h5 => PZ.of h1 h3 h5 (.cons () (.cons () (.cons () (.cons () (.nil ⟨EnvAll.of h2 ⟨rfl, rfl, rfl, trivial⟩, h4⟩)))))
                        · rintro Fr _ _
                          refine SO.loadI1 (j := 0) rfl Try.isAgg3 (Rd.head hr83) hx109 rfl rfl rfl rfl ?_
                          exact SO.nilZ fun a w h1 h2 h3 h4 h5 => PZ.of h1 h3 h5 (.cons () (.cons () (.cons () (.nil ⟨EnvAll.of h2 ⟨rfl, rfl, trivial⟩, h4⟩))))
                        · rintro Fr _
                          refine SO.v rfl (opv_move rfl) ?_
                          exact SO.nilZ fun a w h1 h2 h3 h4 h5 => PZ.of h1 h3 h5 (.cons () (.cons () (.nil ⟨EnvAll.of h2 ⟨rfl, rfl, trivial⟩, h4⟩)))
                        · rintro Fr _
                          refine SO.v rfl (opv_nilCheck rfl) ?_
                          exact SO.nilZ fun a w h1 h2 h3 h4 h5 => PZ.of h1 h3 h5 (.cons () (.cons () (.nil ⟨EnvAll.of h2 ⟨rfl, rfl, trivial⟩, h4⟩)))
                        · rintro Fr _
                          refine SO.v rfl (opv_fieldAddr Try.underlying50 rfl Try.sizeOf47 rfl rfl) ?_
                          exact SO.nilZ fun a w h1 h2 h3 h4 h5 => PZ.of h1 h3 h5 (.cons () (.cons () (.nil ⟨EnvAll.of h2 ⟨rfl, rfl, trivial⟩, h4⟩)))
                        · rintro Fr _ _
                          refine SO.load1 rfl Try.isAgg47 rfl rfl ?_
                          exact SO.nilZ fun a w h1 h2 h3 h4 h5 => PZ.of h1 h3 h5 (.cons () (.cons () (.cons () (.nil ⟨EnvAll.of h2 ⟨rfl, rfl, trivial⟩, h4⟩))))
                        · rintro Fr _
                          refine SO.v rfl (opv_fieldAddr Try.underlying29 rfl Try.sizeOf3 rfl rfl) ?_
                          exact SO.nilZ fun a w h1 h2 h3 h4 h5 => PZ.of h1 h3 h5 (.cons () (.cons () (.nil ⟨EnvAll.of h2 ⟨rfl, rfl, trivial⟩, h4⟩)))
                        · rintro Fr _ _
                          refine SO.load1 rfl Try.isAgg3 rfl rfl ?_
                          exact SO.nilZ fun a w h1 h2 h3 h4 h5 => PZ.of h1 h3 h5 (.cons () (.cons () (.cons () (.nil ⟨EnvAll.of h2 ⟨rfl, rfl, trivial⟩, h4⟩))))
                        · rintro Fr _ _ _
                          refine SO.v rfl (opv_idx Try.underlying47 Try.sizeOf46 hR51 rfl rfl hr113) ?_
                          exact SO.nilZ fun a w h1 h2 h3 h4 h5 => PZ.of h1 h3 h5 (.cons () (.cons () (.cons () (.cons () (.nil ⟨EnvAll.of h2 ⟨rfl, rfl, rfl, trivial⟩, h4⟩)))))
                        · rintro Fr _ _
                          refine SO.v rfl (opv_fieldIdx Try.underlying46 rfl Try.sizeOf41 hR51 hr113 rfl rfl) ?_
                          exact SO.nilZ fun a w h1 h2 h3 h4 h5 => PZ.of h1 h3 h5 (.cons () (.cons () (.cons () (.nil ⟨EnvAll.of h2 ⟨rfl, rfl, trivial⟩, h4⟩))))
                        · rintro Fr _ _
                          refine SO.loadI1 (j := 7) rfl Try.isAgg41 (Rd.head hR51) hr113 rfl rfl rfl hu116 ?_
                          exact SO.nilZ fun a w h1 h2 h3 h4 h5 => PZ.of h1 h3 h5 (.cons () (.cons () (.cons () (.nil ⟨EnvAll.of h2 ⟨rfl, rfl, trivial⟩, h4⟩))))
                        · rintro Fr _
                          refine SO.v rfl (opv_move rfl) ?_
                          exact SO.nilZ fun a w h1 h2 h3 h4 h5 => PZ.of h1 h3 h5 (.cons () (.cons () (.nil ⟨EnvAll.of h2 ⟨rfl, rfl, trivial⟩, h4⟩)))
                        · rintro Fr _ _ _
                          refine SO.v rfl (opv_idx Try.underlying41 Try.sizeOf3 hru117 rfl rfl hx119) ?_
                          exact SO.nilZ fun a w h1 h2 h3 h4 h5 => PZ.of h1 h3 h5 (.cons () (.cons () (.cons () (.cons () (.nil ⟨EnvAll.of h2 ⟨rfl, rfl, rfl, trivial⟩, h4⟩)))))
                        · rintro Fr _ _
                          refine SO.loadI1 (j := 0) rfl Try.isAgg3 (Rd.head (Rd.pool hru117)) hx119 rfl rfl rfl rfl ?_
                          exact SO.nilZ fun a w h1 h2 h3 h4 h5 => PZ.of h1 h3 h5 (.cons () (.cons () (.cons () (.nil ⟨EnvAll.of h2 ⟨rfl, rfl, trivial⟩, h4⟩))))
                        · rintro Fr _ _
                          refine SO.v rfl (opv_neq rfl rfl) ?_
                          exact SO.nilZ fun a w h1 h2 h3 h4 h5 => PZ.of h1 h3 h5 (.cons () (.cons () (.cons () (.nil ⟨EnvAll.of h2 ⟨rfl, rfl, rfl, trivial⟩, h4⟩))))
                        rintro _ _ _ _ _ _ _ _ _ _ _ _ _
                        refine S.to (ρ' := [(12, .int .i64 x12_5), (0, v0), (2, .bool false), (3, .bool t1), (5, v8), (6, .int .i64 x6_1), (4, bp b6 0), (7, bp b16 0), (11, v82), (187, .bool (x108 != x118))]) ⟨rfl, rfl, rfl, rfl, rfl, rfl, rfl, rfl, rfl, rfl, trivial⟩ ?_
                        rcases bool_or (x108 != x118) with b120 | b120
                        · replace h := cond_t b120 h
                          refine S.condT rfl b120 ?_
                          refine S.seq ?_
                          refine S.region ?_
                          refine SO.v rfl (opv_assign rfl) ?_
                          refine SO.nil ?_
                          refine S.to (ρ' := [(2, .bool false)]) ⟨rfl, trivial⟩ ?_
                          cases h
                          replace h := hK5.1 _ rfl
                          cases h
                          replace h := hK1.1 _ rfl
                          cases h
                          refine S.b3 ?_
                          refine S.closeR ?_
                          refine S.b4 ?_
                          refine S.closeR ?_
                          refine S.drop ?_
                          refine S.drop ?_
                          refine S.drop ?_
                          refine S.drop ?_
                          refine S.drop ?_
                          refine S.drop ?_
                          exact S.ret1 Try.func3 rfl rfl (fun w hs hk => hR w _ _ ⟨rfl, rfl⟩ hs hk)
                        · replace h := cond_f b120 h
                          refine S.condF rfl b120 ?_
                          refine S.skip ?_
                          refine S.inBlock ?_
                          refine S.region ?_
                          refine SO.v rfl (opv_move rfl) ?_
                          refine SO.v rfl (opv_add rfl rfl) ?_
                          refine SO.v rfl (opv_assign rfl) ?_
                          refine SO.nil ?_
                          refine S.b6 ?_
                          refine S.b6 ?_
                          refine S.b6 ?_
                          refine S.b6 ?_
                          refine S.b6 ?_
                          refine S.b6 ?_
                          refine S.b6 ?_
                          refine S.to ?_ (ih5 (w64 (x12_5 + 1), ()) h)
                          exact ⟨rfl, rfl, rfl, rfl, rfl, rfl, rfl, rfl, rfl, trivial⟩
                      · replace h := cond_f b107 h
                        refine S.condF rfl b107 ?_
                        refine S.exit rfl ?_
                        cases h
                        refine S.b6 ?_
                        refine S.b6 ?_
                        refine S.b6 ?_
                        refine S.b6 ?_
                        refine S.b6 ?_
                        refine S.b6 ?_
                        refine S.b6 ?_
                        refine S.to ?_ (hK5.2 () () rfl)
                        exact ⟨rfl, rfl, rfl, rfl, rfl, rfl, trivial⟩
                    refine ⟨fun r' e' => ?_, ?_⟩
                    · subst e'
                      have h9 := Brk.of_ret h
                      exact h9
                    rintro _ _ e'
                    subst e'
                    replace h := Brk.of_nx h
                    refine S.inBlock ?_
                    refine S.region ?_
                    refine SO.v rfl (opv_move rfl) ?_
                    refine SO.v rfl (opv_add rfl rfl) ?_
                    refine SO.v rfl (opv_assign rfl) ?_
                    refine SO.nil ?_
                    refine S.b3 ?_
                    refine S.closeR ?_
                    refine S.b4 ?_
                    refine S.closeR ?_
                    refine S.b3 ?_
                    refine S.drop ?_
                    refine S.b3 ?_
                    refine S.drop ?_
                    refine S.b4 ?_
                    refine S.b4 ?_
                    refine S.b4 ?_
                    refine S.b3 ?_
                    refine S.b4 ?_
                    refine S.to ?_ (ih1 ((w64 (x6_1 + 1), p45.Slots, p45.Objs, p45.NS, p45.NO, qv8_4), (u47_Slots, u47_Objs)) h)
                    exact ⟨rfl, rfl, rfl, rfl, rfl, rfl, trivial⟩
          · replace h := cond_f b24 h
            refine S.condF rfl b24 ?_
            refine S.skip ?_
            refine S.seq ?_
            refine S.region ?_
            refine SO.v rfl (opv_move rfl) ?_
            refine SO.v rfl (opv_iface Try.underlying27 rfl rfl) ?_
            refine SO.v rfl (opv_fieldAddr Try.underlying29 rfl Try.sizeOf3 rfl rfl) ?_
            refine SO.load1 rfl Try.isAgg3 rfl rfl ?_
            refine SO.v rfl (opv_fieldAddr Try.underlying29 rfl Try.sizeOf3 rfl rfl) ?_
            refine SO.load1 rfl Try.isAgg3 rfl rfl ?_
            obtain ⟨⟨t122, s124⟩, ht123, h⟩ := opt_bind h
            refine SO.b1 ?_
            refine SO.call (pre := [(plainV v8).rep _]) rfl Try.call9 rfl rfl rfl (cdt_Link.ct (plainV v8) _ _ _ _ _ ht123) trivial ?_
            rintro _ _ ⟨rfl, rfl⟩
            refine headEq (plainV_rep _ _) ?_
            refine SO.rd fun hr125 => ?_
            refine SO.v rfl (opv_assign rfl) ?_
            refine SO.nil ?_
            refine S.to (ρ' := [(0, v0), (2, .bool false), (3, .bool t1), (4, bp b6 0), (5, v8), (6, .int .i64 x6_1), (7, bp b16 0), (8, .bool ((((decide (0 ≤ x14.A)) && (decide (x14.A < 96))) && (decide (0 ≤ x14.B))) && (decide (x14.B < 96)))), (10, errV 53 t122)]) ⟨rfl, rfl, rfl, rfl, rfl, rfl, rfl, rfl, rfl, trivial⟩ ?_
            refine S.region ?_
            refine SO.v rfl (opv_move rfl) ?_
            refine SO.v rfl (opv_fieldAddr Try.underlying29 rfl Try.sizeOf3 rfl rfl) ?_
            refine SO.b1 ?_
            refine SO.load1 rfl Try.isAgg3 rfl rfl ?_
            refine SO.v rfl (opv_fieldAddr Try.underlying29 rfl Try.sizeOf3 rfl rfl) ?_
            refine SO.load1 rfl Try.isAgg3 rfl rfl ?_
            obtain ⟨⟨t126, p127⟩, ht128, h⟩ := opt_bind h
            refine SO.b2 ?_
            refine SO.b3 ?_
            refine SO.b4 ?_
            have ct203 := ref10_State_Link.ct b6 vy6_0_1 vy6_1_1 _ _ _ _ _ ht128
            dsimp only at ct203
            refine SO.call (pre := [Box _ _, OwnR _ _ _ _, OwnR _ _ _ _]) rfl Try.call10 rfl rfl rfl ct203 trivial ?_
            rintro _ _ ⟨u129_Slots, u129_Objs, rfl, rfl⟩
            refine SO.v rfl (opv_assign rfl) ?_
            refine SO.nil ?_
            refine S.inBlock ?_
            refine S.seq ?_
            refine S.seq ?_
            refine S.b1 ?_
            refine S.openR fun raws130 A131 hrel132 hR133 => ?_
            refine S.b2 ?_
            refine S.openR fun raws134 A135 hrel136 hR137 => ?_
            obtain ⟨⟨j127_6, qv8_6⟩, hC6, hJ6⟩ := opt_bind h
            clear h
            refine S.cutP (G := Unit) (fun _ => True) (fun _ => [(0, v0), (2, .bool false), (3, .bool t1), (4, bp b6 0), (5, v8), (6, .int .i64 x6_1), (7, bp b16 0), (8, .bool ((((decide (0 ≤ x14.A)) && (decide (x14.A < 96))) && (decide (0 ≤ x14.B))) && (decide (x14.B < 96)))), (127, .bool j127_6)]) (fun _ => [OwnO 56 kr_ref10_Obj u129_Objs raws134 A135 p127.Objs, OwnO 46 kr_ref10_Slot u129_Slots raws130 A131 p127.Slots, Box b6 [u129_Slots, u129_Objs, .int .i64 p127.NS, .int .i64 p127.NO], Box b16 [.int .i64 x14.What, .int .i64 x14.A, .int .i64 x14.B], Own 65 (ekI .u64) v8 qv8_6, F]) (fun hk6 => ?_) ?_
            · replace h := hC6
              obtain ⟨t138, ht139, h⟩ := opt_bind h
              rcases bool_or (t138 != t126) with b140 | b140
              · replace h := cond_t b140 h
                refine S.draw' (Z := fun Q => ∀ (_ : Unit) (_ : Unit) (_ : Unit) (_ : Unit) (_ : Unit) (_ : Unit) (_ : Unit) (_ : Unit) (_ : Unit) (_ : Unit) (_ : Unit), Q [(0, v0), (2, .bool false), (3, .bool t1), (6, .int .i64 x6_1), (8, .bool ((((decide (0 ≤ x14.A)) && (decide (x14.A < 96))) && (decide (0 ≤ x14.B))) && (decide (x14.B < 96)))), (4, bp b6 0), (5, v8), (7, bp b16 0), (127, .bool true)] [OwnO 56 kr_ref10_Obj u129_Objs raws134 A135 p127.Objs, OwnO 46 kr_ref10_Slot u129_Slots raws130 A131 p127.Slots, Box b6 [u129_Slots, u129_Objs, .int .i64 p127.NS, .int .i64 p127.NO], Box b16 [.int .i64 x14.What, .int .i64 x14.A, .int .i64 x14.B], Own 65 (ekI .u64) v8 s124, F]) (T := [tS 10 (errV 53 t122), tS 9 (.int .i64 t126), tS 5 (v8), tS 4 (bp b6 0), tS 7 (bp b16 0), tE [(0, v0), (2, .bool false), (3, .bool t1), (6, .int .i64 x6_1), (8, .bool ((((decide (0 ≤ x14.A)) && (decide (x14.A < 96))) && (decide (0 ≤ x14.B))) && (decide (x14.B < 96))))], tR (OwnO 56 kr_ref10_Obj u129_Objs raws134 A135 p127.Objs), tR (OwnO 46 kr_ref10_Slot u129_Slots raws130 A131 p127.Slots), tR (Box b6 [u129_Slots, u129_Objs, .int .i64 p127.NS, .int .i64 p127.NO]), tR (Box b16 [.int .i64 x14.What, .int .i64 x14.A, .int .i64 x14.B]), tR (Own 65 (ekI .u64) v8 s124), tR (F), tS 105 (errV 53 t122), tS 106 (.int .i64 t138), tS 107 (.int .i64 t126), tS 108 (.bool (t138 != t126)), tS 109 (.bool (t138 != t126)), tS 110 (undef), tS 111 (undef), tS 112 (undef), tS 113 (undef), tS 114 (undef), tS 115 (.bool true), tS 116 (.bool true), tS 117 (undef), tS 118 (undef), tS 119 (undef), tS 120 (undef), tS 121 (undef), tS 122 (undef), tS 123 (undef), tS 124 (undef), tS 125 (undef), tS 126 (undef), tS 127 (.bool true)]) (D := [⟨[0], [], [12]⟩, ⟨[12], [], [13]⟩, ⟨[1], [], [14]⟩, ⟨[13, 14], [], [15]⟩, ⟨[15], [], [16]⟩, ⟨[16], [], [17]⟩, ⟨[16], [], [18]⟩, ⟨[16], [], [19]⟩, ⟨[16], [], [20]⟩, ⟨[16], [], [21]⟩, ⟨[16, 21], [], [22]⟩, ⟨[22], [], [23]⟩, ⟨[23], [], [24]⟩, ⟨[23], [], [25]⟩, ⟨[23], [], [26]⟩, ⟨[23], [], [27]⟩, ⟨[23], [], [28]⟩, ⟨[23], [], [29]⟩, ⟨[23], [], [30]⟩, ⟨[23], [], [31]⟩, ⟨[23], [], [32]⟩, ⟨[23], [], [33]⟩, ⟨[23, 33], [], [34]⟩]) (ini := [0, 1, 2, 3, 4, 5, 6, 7, 8, 9, 10, 11]) (fin := [5, 3, 2, 4, 34, 6, 7, 8, 9, 10, 11]) (bf := [[], [0], [], [0, 1, 2], [0, 1, 2, 3], [0, 1, 2, 3, 4], [0, 1, 2, 3, 4], [0, 1, 2, 3, 4, 6], [0, 1, 2, 3, 4, 5, 6, 7], [0, 1, 2, 3, 4, 5, 6, 7, 8], [0, 1, 2, 3, 4, 5, 6, 7, 8, 9], [0, 1, 2, 3, 4, 5, 6, 7, 8, 9, 10], [0, 1, 2, 3, 4, 5, 6, 7, 8, 9, 10, 11], [0, 1, 2, 3, 4, 5, 6, 7, 8, 9, 10, 11, 12], [0, 1, 2, 3, 4, 5, 6, 7, 8, 9, 10, 11], [0, 1, 2, 3, 4, 5, 6, 7, 8, 9, 10, 11, 14], [0, 1, 2, 3, 4, 5, 6, 7, 8, 9, 10, 11, 12, 13, 14, 15], [0, 1, 2, 3, 4, 5, 6, 7, 8, 9, 10, 11], [0, 1, 2, 3, 4, 5, 6, 7, 8, 9, 10, 11], [0, 1, 2, 3, 4, 5, 6, 7, 8, 9, 10, 11, 18], [0, 1, 2, 3, 4, 5, 6, 7, 8, 9, 10, 11, 12, 13, 14, 15, 16, 17, 18, 19], [0, 1, 2, 3, 4, 5, 6, 7, 8, 9, 10, 11, 12, 13, 14, 15, 16, 17, 18, 19, 20], [0, 1, 2, 3, 4, 5, 6, 7, 8, 9, 10, 11, 12, 13, 14, 15, 16, 17, 18, 19, 20, 21]]) (by kernel_rfl) (by kernel_rfl) (fun x w h1 h2 => (.cons () (.cons () (.cons () (.cons () (.cons () (.cons () (.cons () (.cons () (.cons () (.cons () (.cons () (.cons () (.nil ⟨EnvAll.of h1 ⟨rfl, rfl, rfl, rfl, rfl, rfl, rfl, rfl, rfl, rfl, trivial⟩, h2⟩)))))))))))))) (fun Q => by kernel_rfl) ⟨?_, ?_, ?_, ?_, ?_, ?_, ?_, ?_, ?_, ?_, ?_, ?_, ?_, ?_, ?_, ?_, ?_, ?_, ?_, ?_, ?_, ?_, ?_, trivial⟩ ?_
                · rintro Fr _
                  refine SO.v rfl (opv_move rfl) ?_
                  exact SO.nilZ fun a w h1 h2 h3 h4 h5 => PZ.of h1 h3 h5 (.cons () (.cons () (.nil ⟨EnvAll.of h2 ⟨rfl, rfl, trivial⟩, h4⟩)))
                · rintro Fr _
                  refine SO.call (pre := []) rfl Try.call15 rfl rfl rfl (law00_Code.ct _ _ _ ht139) trivial ?_
                  rintro _ _ ⟨rfl, rfl⟩
                  exact SO.nilZ fun a w h1 h2 h3 h4 h5 => PZ.of h1 h3 h5 (.cons () (.cons () (.nil ⟨EnvAll.of h2 ⟨rfl, rfl, trivial⟩, h4⟩)))
                · rintro Fr _
                  refine SO.v rfl (opv_move rfl) ?_
                  exact SO.nilZ fun a w h1 h2 h3 h4 h5 => PZ.of h1 h3 h5 (.cons () (.cons () (.nil ⟨EnvAll.of h2 ⟨rfl, rfl, trivial⟩, h4⟩)))
                · rintro Fr _ _
                  refine SO.v rfl (opv_neq rfl rfl) ?_
                  exact SO.nilZ fun a w h1 h2 h3 h4 h5 => PZ.of h1 h3 h5 (.cons () (.cons () (.cons () (.nil ⟨EnvAll.of h2 ⟨rfl, rfl, rfl, trivial⟩, h4⟩))))
                · rintro Fr _
                  refine SO.v rfl (opv_move rfl) ?_
                  exact SO.nilZ fun a w h1 h2 h3 h4 h5 => PZ.of h1 h3 h5 (.cons () (.cons () (.nil ⟨EnvAll.of h2 ⟨rfl, rfl, trivial⟩, h4⟩)))
                · rintro Fr _
                  refine SO.passF rfl rfl rfl b140 rfl rfl ?_
                  exact SO.nilZ fun a w h1 h2 h3 h4 h5 => PZ.of h1 h3 h5 (.cons () (.cons () (.nil ⟨EnvAll.of h2 ⟨rfl, rfl, trivial⟩, h4⟩)))
                · rintro Fr _
                  refine SO.passF rfl rfl rfl b140 rfl rfl ?_
                  exact SO.nilZ fun a w h1 h2 h3 h4 h5 => PZ.of h1 h3 h5 (.cons () (.cons () (.nil ⟨EnvAll.of h2 ⟨rfl, rfl, trivial⟩, h4⟩)))
                · rintro Fr _
                  refine SO.passF rfl rfl rfl b140 rfl rfl ?_
                  exact SO.nilZ fun a w h1 h2 h3 h4 h5 => PZ.of h1 h3 h5 (.cons () (.cons () (.nil ⟨EnvAll.of h2 ⟨rfl, rfl, trivial⟩, h4⟩)))
                · rintro Fr _
                  refine SO.passF rfl rfl rfl b140 rfl rfl ?_
                  exact SO.nilZ fun a w h1 h2 h3 h4 h5 => PZ.of h1 h3 h5 (.cons () (.cons () (.nil ⟨EnvAll.of h2 ⟨rfl, rfl, trivial⟩, h4⟩)))
                · rintro Fr _
                  refine SO.passF rfl rfl rfl b140 rfl rfl ?_
                  exact SO.nilZ fun a w h1 h2 h3 h4 h5 => PZ.of h1 h3 h5 (.cons () (.cons () (.nil ⟨EnvAll.of h2 ⟨rfl, rfl, trivial⟩, h4⟩)))
                · rintro Fr _ _
                  refine SO.v rfl (opv_pick_t' b140 rfl rfl) ?_
                  exact SO.nilZ fun a w h1 h2 h3 h4 h5 => PZ.of h1 h3 h5 (.cons () (.cons () (.cons () (.nil ⟨EnvAll.of h2 ⟨rfl, rfl, rfl, trivial⟩, h4⟩))))
                · rintro Fr _
                  refine SO.v rfl (opv_move rfl) ?_
                  exact SO.nilZ fun a w h1 h2 h3 h4 h5 => PZ.of h1 h3 h5 (.cons () (.cons () (.nil ⟨EnvAll.of h2 ⟨rfl, rfl, trivial⟩, h4⟩)))
                · rintro Fr _
                  refine SO.passF rfl rfl rfl rfl rfl rfl ?_
                  exact SO.nilZ fun a w h1 h2 h3 h4 h5 => PZ.of h1 h3 h5 (.cons () (.cons () (.nil ⟨EnvAll.of h2 ⟨rfl, rfl, trivial⟩, h4⟩)))
                · rintro Fr _
                  refine SO.passF rfl rfl rfl rfl rfl rfl ?_
                  exact SO.nilZ fun a w h1 h2 h3 h4 h5 => PZ.of h1 h3 h5 (.cons () (.cons () (.nil ⟨EnvAll.of h2 ⟨rfl, rfl, trivial⟩, h4⟩)))
                · rintro Fr _
                  refine SO.passF rfl rfl rfl rfl rfl rfl ?_
                  exact SO.nilZ fun a w h1 h2 h3 h4 h5 => PZ.of h1 h3 h5 (.cons () (.cons () (.nil ⟨EnvAll.of h2 ⟨rfl, rfl, trivial⟩, h4⟩)))
                · rintro Fr _
                  refine SO.passF rfl rfl rfl rfl rfl rfl ?_
                  exact SO.nilZ fun a w h1 h2 h3 h4 h5 => PZ.of h1 h3 h5 (.cons () (.cons () (.nil ⟨EnvAll.of h2 ⟨rfl, rfl, trivial⟩, h4⟩)))
                · rintro Fr _
                  refine SO.passF rfl rfl rfl rfl rfl rfl ?_
                  exact SO.nilZ fun a w h1 h2 h3 h4 h5 => PZ.of h1 h3 h5 (.cons () (.cons () (.nil ⟨EnvAll.of h2 ⟨rfl, rfl, trivial⟩, h4⟩)))
                · rintro Fr _
                  refine SO.passF rfl rfl rfl rfl rfl rfl ?_
                  exact SO.nilZ fun a w h1 h2 h3 h4 h5 => PZ.of h1 h3 h5 (.cons () (.cons () (.nil ⟨EnvAll.of h2 ⟨rfl, rfl, trivial⟩, h4⟩)))
                · rintro Fr _
                  refine SO.passF rfl rfl rfl rfl rfl rfl ?_
                  exact SO.nilZ fun a w h1 h2 h3 h4 h5 => PZ.of h1 h3 h5 (.cons () (.cons () (.nil ⟨EnvAll.of h2 ⟨rfl, rfl, trivial⟩, h4⟩)))
                · rintro Fr _
                  refine SO.passF rfl rfl rfl rfl rfl rfl ?_
                  exact SO.nilZ fun a w h1 h2 h3 h4 h5 => PZ.of h1 h3 h5 (.cons () (.cons () (.nil ⟨EnvAll.of h2 ⟨rfl, rfl, trivial⟩, h4⟩)))
                · rintro Fr _
                  refine SO.passF rfl rfl rfl rfl rfl rfl ?_
                  exact SO.nilZ fun a w h1 h2 h3 h4 h5 => PZ.of h1 h3 h5 (.cons () (.cons () (.nil ⟨EnvAll.of h2 ⟨rfl, rfl, trivial⟩, h4⟩)))
                · rintro Fr _
                  refine SO.passF rfl rfl rfl rfl rfl rfl ?_
                  exact SO.nilZ fun a w h1 h2 h3 h4 h5 => PZ.of h1 h3 h5 (.cons () (.cons () (.nil ⟨EnvAll.of h2 ⟨rfl, rfl, trivial⟩, h4⟩)))
                · rintro Fr _ _
                  refine SO.v rfl (opv_pick_tt rfl rfl) ?_
                  exact SO.nilZ fun a w h1 h2 h3 h4 h5 => PZ.of h1 h3 h5 (.cons () (.cons () (.cons () (.nil ⟨EnvAll.of h2 ⟨rfl, rfl, rfl, trivial⟩, h4⟩))))
                rintro _ _ _ _ _ _ _ _ _ _ _
                refine S.to (ρ' := [(0, v0), (2, .bool false), (3, .bool t1), (6, .int .i64 x6_1), (8, .bool ((((decide (0 ≤ x14.A)) && (decide (x14.A < 96))) && (decide (0 ≤ x14.B))) && (decide (x14.B < 96)))), (4, bp b6 0), (5, v8), (7, bp b16 0), (127, .bool true)]) ⟨rfl, rfl, rfl, rfl, rfl, rfl, rfl, rfl, rfl, trivial⟩ ?_
                cases h
                refine S.b5 ?_
                refine S.b5 ?_
                refine S.b5 ?_
                refine S.b5 ?_
                refine S.b5 ?_
                refine S.b5 ?_
                refine S.to ?_ (hk6 () trivial)
                exact ⟨rfl, rfl, rfl, rfl, rfl, rfl, rfl, rfl, rfl, trivial⟩
              · replace h := cond_f b140 h
                obtain ⟨t141, ht142, h⟩ := opt_bind h
                obtain ⟨t146, ht147, h⟩ := opt_bind h
                rcases bool_or (!t146) with b148 | b148
                · replace h := cond_t b148 h
                  refine S.draw' (Z := fun Q => ∀ (_ : Unit) (_ : Unit) (_ : Unit) (_ : Unit) (_ : Unit) (v143 : Value) (_ : Unit) (_ : Unit) (_ : Unit) (_ : Unit) (_ : Unit) (_ : Unit), Q [(0, v0), (2, .bool false), (3, .bool t1), (6, .int .i64 x6_1), (8, .bool ((((decide (0 ≤ x14.A)) && (decide (x14.A < 96))) && (decide (0 ≤ x14.B))) && (decide (x14.B < 96)))), (4, bp b6 0), (5, v8), (7, bp b16 0), (127, .bool true), (112, v143)] [Own 65 (ekI .u64) v143 t141, OwnO 56 kr_ref10_Obj u129_Objs raws134 A135 p127.Objs, OwnO 46 kr_ref10_Slot u129_Slots raws130 A131 p127.Slots, Box b6 [u129_Slots, u129_Objs, .int .i64 p127.NS, .int .i64 p127.NO], Box b16 [.int .i64 x14.What, .int .i64 x14.A, .int .i64 x14.B], Own 65 (ekI .u64) v8 s124, F]) (T := [tS 10 (errV 53 t122), tS 9 (.int .i64 t126), tS 5 (v8), tS 4 (bp b6 0), tS 7 (bp b16 0), tE [(0, v0), (2, .bool false), (3, .bool t1), (6, .int .i64 x6_1), (8, .bool ((((decide (0 ≤ x14.A)) && (decide (x14.A < 96))) && (decide (0 ≤ x14.B))) && (decide (x14.B < 96))))], tR (OwnO 56 kr_ref10_Obj u129_Objs raws134 A135 p127.Objs), tR (OwnO 46 kr_ref10_Slot u129_Slots raws130 A131 p127.Slots), tR (Box b6 [u129_Slots, u129_Objs, .int .i64 p127.NS, .int .i64 p127.NO]), tR (Box b16 [.int .i64 x14.What, .int .i64 x14.A, .int .i64 x14.B]), tR (Own 65 (ekI .u64) v8 s124), tR (F), tS 105 (errV 53 t122), tS 106 (.int .i64 t138), tS 107 (.int .i64 t126), tS 108 (.bool (t138 != t126)), tS 109 (.bool (t138 != t126)), tS 110 (v8), tS 111 (bp b6 0), ⟨Value, [112], (fun v143 => [(112, v143)]), (fun v143 => [Own 65 (ekI .u64) v143 t141]), fun _ => rfl⟩, tS 113 (.bool t146), tS 114 (.bool (!t146)), tS 115 (.bool (!t146)), tS 116 (.bool (!t146)), tS 117 (undef), tS 118 (undef), tS 119 (undef), tS 120 (undef), tS 121 (undef), tS 122 (undef), tS 123 (undef), tS 124 (undef), tS 125 (undef), tS 126 (undef), tS 127 (.bool true)]) (D := [⟨[0], [], [12]⟩, ⟨[12], [], [13]⟩, ⟨[1], [], [14]⟩, ⟨[13, 14], [], [15]⟩, ⟨[15], [], [16]⟩, ⟨[2, 16], [], [17]⟩, ⟨[3, 16], [], [18]⟩, ⟨[16, 18, 8, 7, 6], [], [19]⟩, ⟨[16, 17, 19, 10], [], [20]⟩, ⟨[16, 20], [], [21]⟩, ⟨[16, 21], [], [22]⟩, ⟨[22], [], [23]⟩, ⟨[23], [], [24]⟩, ⟨[23], [], [25]⟩, ⟨[23], [], [26]⟩, ⟨[23], [], [27]⟩, ⟨[23], [], [28]⟩, ⟨[23], [], [29]⟩, ⟨[23], [], [30]⟩, ⟨[23], [], [31]⟩, ⟨[23], [], [32]⟩, ⟨[23], [], [33]⟩, ⟨[23, 33], [], [34]⟩]) (ini := [0, 1, 2, 3, 4, 5, 6, 7, 8, 9, 10, 11]) (fin := [5, 3, 2, 4, 34, 19, 6, 7, 8, 9, 10, 11]) (bf := [[], [0], [], [0, 1, 2], [0, 1, 2, 3], [0, 1, 2, 3, 4], [0, 1, 2, 3, 4], [0, 1, 2, 3, 4, 6], [0, 1, 2, 3, 4, 5, 6, 7], [0, 1, 2, 3, 4, 5, 6, 7, 8], [0, 1, 2, 3, 4, 5, 6, 7, 8, 9], [0, 1, 2, 3, 4, 5, 6, 7, 8, 9, 10], [0, 1, 2, 3, 4, 5, 6, 7, 8, 9, 10, 11], [0, 1, 2, 3, 4, 5, 6, 7, 8, 9, 10, 11, 12], [0, 1, 2, 3, 4, 5, 6, 7, 8, 9, 10, 11], [0, 1, 2, 3, 4, 5, 6, 7, 8, 9, 10, 11, 14], [0, 1, 2, 3, 4, 5, 6, 7, 8, 9, 10, 11, 12, 13, 14, 15], [0, 1, 2, 3, 4, 5, 6, 7, 8, 9, 10, 11], [0, 1, 2, 3, 4, 5, 6, 7, 8, 9, 10, 11], [0, 1, 2, 3, 4, 5, 6, 7, 8, 9, 10, 11, 18], [0, 1, 2, 3, 4, 5, 6, 7, 8, 9, 10, 11, 12, 13, 14, 15, 16, 17, 18, 19], [0, 1, 2, 3, 4, 5, 6, 7, 8, 9, 10, 11, 12, 13, 14, 15, 16, 17, 18, 19, 20], [0, 1, 2, 3, 4, 5, 6, 7, 8, 9, 10, 11, 12, 13, 14, 15, 16, 17, 18, 19, 20, 21]]) (by kernel_rfl) (by kernel_rfl) (fun x w h1 h2 => (.cons () (.cons () (.cons () (.cons () (.cons () (.cons () (.cons () (.cons () (.cons () (.cons () (.cons () (.cons () (.nil ⟨EnvAll.of h1 ⟨rfl, rfl, rfl, rfl, rfl, rfl, rfl, rfl, rfl, rfl, trivial⟩, h2⟩)))))))))))))) (fun Q => by kernel_rfl) ⟨?_, ?_, ?_, ?_, ?_, ?_, ?_, ?_, ?_, ?_, ?_, ?_, ?_, ?_, ?_, ?_, ?_, ?_, ?_, ?_, ?_, ?_, ?_, trivial⟩ ?_
                  · rintro Fr _
                    refine SO.v rfl (opv_move rfl) ?_
                    exact SO.nilZ fun a w h1 h2 h3 h4 h5 => PZ.of h1 h3 h5 (.cons () (.cons () (.nil ⟨EnvAll.of h2 ⟨rfl, rfl, trivial⟩, h4⟩)))
                  · rintro Fr _
                    refine SO.call (pre := []) rfl Try.call15 rfl rfl rfl (law00_Code.ct _ _ _ ht139) trivial ?_
                    rintro _ _ ⟨rfl, rfl⟩
                    exact SO.nilZ fun a w h1 h2 h3 h4 h5 => PZ.of h1 h3 h5 (.cons () (.cons () (.nil ⟨EnvAll.of h2 ⟨rfl, rfl, trivial⟩, h4⟩)))
                  · rintro Fr _
                    refine SO.v rfl (opv_move rfl) ?_
                    exact SO.nilZ fun a w h1 h2 h3 h4 h5 => PZ.of h1 h3 h5 (.cons () (.cons () (.nil ⟨EnvAll.of h2 ⟨rfl, rfl, trivial⟩, h4⟩)))
                  · rintro Fr _ _
                    refine SO.v rfl (opv_neq rfl rfl) ?_
                    exact SO.nilZ fun a w h1 h2 h3 h4 h5 => PZ.of h1 h3 h5 (.cons () (.cons () (.cons () (.nil ⟨EnvAll.of h2 ⟨rfl, rfl, rfl, trivial⟩, h4⟩))))
                  · rintro Fr _
                    refine SO.v rfl (opv_move rfl) ?_
                    exact SO.nilZ fun a w h1 h2 h3 h4 h5 => PZ.of h1 h3 h5 (.cons () (.cons () (.nil ⟨EnvAll.of h2 ⟨rfl, rfl, trivial⟩, h4⟩)))
                  · rintro Fr _ _
                    refine SO.takeT rfl rfl rfl b140 ?_
                    refine SO.v rfl (opv_move rfl) ?_
                    exact SO.nilZ fun a w h1 h2 h3 h4 h5 => PZ.of h1 h3 h5 (.cons () (.cons () (.cons () (.nil ⟨EnvAll.of h2 ⟨rfl, rfl, rfl, trivial⟩, h4⟩))))
                  · rintro Fr _ _
                    refine SO.takeT rfl rfl rfl b140 ?_
                    refine SO.v rfl (opv_move rfl) ?_
                    exact SO.nilZ fun a w h1 h2 h3 h4 h5 => PZ.of h1 h3 h5 (.cons () (.cons () (.cons () (.nil ⟨EnvAll.of h2 ⟨rfl, rfl, rfl, trivial⟩, h4⟩))))
                  · rintro Fr _ _ _ _ _
                    refine SO.takeT rfl rfl rfl b140 ?_
                    refine SO.b2 ?_
                    refine SO.b2 ?_
                    refine SO.b2 ?_
                    refine SO.call (pre := [Box _ _, OwnO _ _ _ _ _ _, OwnO _ _ _ _ _ _]) rfl Try.call17 rfl rfl rfl (ref10_State_Words.ct _ b6 u129_Slots u129_Objs raws130 A131 raws134 A135 _ _ ht142) trivial ?_
                    rintro v143 _ ⟨_, rfl, rfl⟩
                    refine SO.rd fun hr144 => ?_
                    refine SO.b3 ?_
                    refine SO.b3 ?_
                    refine SO.b3 ?_
                    exact SO.nilZ fun a w h1 h2 h3 h4 h5 => PZ.of h1 h3 h5 (.cons () (.cons () (.cons () (.cons () (.cons () (.cons v143 (.nil ⟨EnvAll.of h2 ⟨rfl, rfl, rfl, trivial⟩, h4⟩)))))))
                  · rintro Fr _ _ v143 _
                    refine SO.rd fun hr145 => ?_
                    refine SO.takeT rfl rfl rfl b140 ?_
                    refine SO.call (pre := []) rfl Try.call16 rfl rfl rfl (ref10_Same.ct _ v8 v143 _ _ _ ht147) ⟨(Rd.tail (Rd.head hr125)), (Rd.head hr145)⟩ ?_
                    rintro _ _ ⟨rfl, rfl⟩
                    refine SO.b1 ?_
                    refine SO.b1 ?_
                    exact SO.nilZ fun a w h1 h2 h3 h4 h5 => PZ.of h1 h3 h5 (.cons () (.cons () (.cons v143 (.cons () (.cons () (.nil ⟨EnvAll.of h2 ⟨rfl, rfl, rfl, rfl, trivial⟩, h4⟩))))))
                  · rintro Fr _ _
                    refine SO.takeT rfl rfl rfl b140 ?_
                    refine SO.v rfl (opv_not rfl) ?_
                    exact SO.nilZ fun a w h1 h2 h3 h4 h5 => PZ.of h1 h3 h5 (.cons () (.cons () (.cons () (.nil ⟨EnvAll.of h2 ⟨rfl, rfl, rfl, trivial⟩, h4⟩))))
                  · rintro Fr _ _
                    refine SO.v rfl (opv_pick_f' b140 rfl rfl) ?_
                    exact SO.nilZ fun a w h1 h2 h3 h4 h5 => PZ.of h1 h3 h5 (.cons () (.cons () (.cons () (.nil ⟨EnvAll.of h2 ⟨rfl, rfl, rfl, trivial⟩, h4⟩))))
                  · rintro Fr _
                    refine SO.v rfl (opv_move rfl) ?_
                    exact SO.nilZ fun a w h1 h2 h3 h4 h5 => PZ.of h1 h3 h5 (.cons () (.cons () (.nil ⟨EnvAll.of h2 ⟨rfl, rfl, trivial⟩, h4⟩)))
                  · rintro Fr _
                    refine SO.passF rfl rfl rfl b148 rfl rfl ?_
                    exact SO.nilZ fun a w h1 h2 h3 h4 h5 => PZ.of h1 h3 h5 (.cons () (.cons () (.nil ⟨EnvAll.of h2 ⟨rfl, rfl, trivial⟩, h4⟩)))
                  · rintro Fr _
                    refine SO.passF rfl rfl rfl b148 rfl rfl ?_
                    exact SO.nilZ fun a w h1 h2 h3 h4 h5 => PZ.of h1 h3 h5 (.cons () (.cons () (.nil ⟨EnvAll.of h2 ⟨rfl, rfl, trivial⟩, h4⟩)))
                  · rintro Fr _
                    refine SO.passF rfl rfl rfl b148 rfl rfl ?_
                    exact SO.nilZ fun a w h1 h2 h3 h4 h5 => PZ.of h1 h3 h5 (.cons () (.cons () (.nil ⟨EnvAll.of h2 ⟨rfl, rfl, trivial⟩, h4⟩)))
                  · rintro Fr _
                    refine SO.passF rfl rfl rfl b148 rfl rfl ?_
                    exact SO.nilZ fun a w h1 h2 h3 h4 h5 => PZ.of h1 h3 h5 (.cons () (.cons () (.nil ⟨EnvAll.of h2 ⟨rfl, rfl, trivial⟩, h4⟩)))
                  · rintro Fr _
                    refine SO.passF rfl rfl rfl b148 rfl rfl ?_
                    exact SO.nilZ fun a w h1 h2 h3 h4 h5 => PZ.of h1 h3 h5 (.cons () (.cons () (.nil ⟨EnvAll.of h2 ⟨rfl, rfl, trivial⟩, h4⟩)))
                  · rintro Fr _
                    refine SO.passF rfl rfl rfl b148 rfl rfl ?_
                    exact SO.nilZ fun a w h1 h2 h3 h4 h5 => PZ.of h1 h3 h5 (.cons () (.cons () (.nil ⟨EnvAll.of h2 ⟨rfl, rfl, trivial⟩, h4⟩)))
                  · rintro Fr _
                    refine SO.passF rfl rfl rfl b148 rfl rfl ?_
                    exact SO.nilZ fun a w h1 h2 h3 h4 h5 => PZ.of h1 h3 h5 (.cons () (.cons () (.nil ⟨EnvAll.of h2 ⟨rfl, rfl, trivial⟩, h4⟩)))
                  · rintro Fr _
                    refine SO.passF rfl rfl rfl b148 rfl rfl ?_
                    exact SO.nilZ fun a w h1 h2 h3 h4 h5 => PZ.of h1 h3 h5 (.cons () (.cons () (.nil ⟨EnvAll.of h2 ⟨rfl, rfl, trivial⟩, h4⟩)))
                  · rintro Fr _
                    refine SO.passF rfl rfl rfl b148 rfl rfl ?_
                    exact SO.nilZ fun a w h1 h2 h3 h4 h5 => PZ.of h1 h3 h5 (.cons () (.cons () (.nil ⟨EnvAll.of h2 ⟨rfl, rfl, trivial⟩, h4⟩)))
                  · rintro Fr _
                    refine SO.passF rfl rfl rfl b148 rfl rfl ?_
                    exact SO.nilZ fun a w h1 h2 h3 h4 h5 => PZ.of h1 h3 h5 (.cons () (.cons () (.nil ⟨EnvAll.of h2 ⟨rfl, rfl, trivial⟩, h4⟩)))
                  · rintro Fr _ _
                    refine SO.v rfl (opv_pick_t' b148 rfl rfl) ?_
                    exact SO.nilZ fun a w h1 h2 h3 h4 h5 => PZ.of h1 h3 h5 (.cons () (.cons () (.cons () (.nil ⟨EnvAll.of h2 ⟨rfl, rfl, rfl, trivial⟩, h4⟩))))
                  rintro _ _ _ _ _ v143 _ _ _ _ _ _
                  refine S.to (ρ' := [(0, v0), (2, .bool false), (3, .bool t1), (6, .int .i64 x6_1), (8, .bool ((((decide (0 ≤ x14.A)) && (decide (x14.A < 96))) && (decide (0 ≤ x14.B))) && (decide (x14.B < 96)))), (4, bp b6 0), (5, v8), (7, bp b16 0), (127, .bool true)]) ⟨rfl, rfl, rfl, rfl, rfl, rfl, rfl, rfl, rfl, trivial⟩ ?_
                  refine S.rd fun hr149 => ?_
                  cases h
                  refine S.drop ?_
                  refine S.b5 ?_
                  refine S.b5 ?_
                  refine S.b5 ?_
                  refine S.b5 ?_
                  refine S.b5 ?_
                  refine S.b5 ?_
                  refine S.to ?_ (hk6 () trivial)
                  exact ⟨rfl, rfl, rfl, rfl, rfl, rfl, rfl, rfl, rfl, trivial⟩
                · replace h := cond_f b148 h
                  obtain ⟨⟨t150, s152⟩, ht151, h⟩ := opt_bind h
                  obtain ⟨t154, ht155, h⟩ := opt_bind h
                  refine S.draw' (Z := fun Q => ∀ (_ : Unit) (_ : Unit) (_ : Unit) (_ : Unit) (_ : Unit) (v143 : Value) (_ : Unit) (_ : Unit) (_ : Unit) (_ : Unit) (_ : Unit) (_ : Unit), Q [(0, v0), (2, .bool false), (3, .bool t1), (6, .int .i64 x6_1), (8, .bool ((((decide (0 ≤ x14.A)) && (decide (x14.A < 96))) && (decide (0 ≤ x14.B))) && (decide (x14.B < 96)))), (4, bp b6 0), (5, v8), (7, bp b16 0), (127, .bool (t150 != t154)), (112, v143)] [Own 65 (ekI .u64) v143 t141, OwnO 56 kr_ref10_Obj u129_Objs raws134 A135 p127.Objs, OwnO 46 kr_ref10_Slot u129_Slots raws130 A131 p127.Slots, Box b6 [u129_Slots, u129_Objs, .int .i64 p127.NS, .int .i64 p127.NO], Box b16 [.int .i64 x14.What, .int .i64 x14.A, .int .i64 x14.B], Own 65 (ekI .u64) v8 s152, F]) (T := [tS 10 (errV 53 t122), tS 9 (.int .i64 t126), tS 5 (v8), tS 4 (bp b6 0), tS 7 (bp b16 0), tE [(0, v0), (2, .bool false), (3, .bool t1), (6, .int .i64 x6_1), (8, .bool ((((decide (0 ≤ x14.A)) && (decide (x14.A < 96))) && (decide (0 ≤ x14.B))) && (decide (x14.B < 96))))], tR (OwnO 56 kr_ref10_Obj u129_Objs raws134 A135 p127.Objs), tR (OwnO 46 kr_ref10_Slot u129_Slots raws130 A131 p127.Slots), tR (Box b6 [u129_Slots, u129_Objs, .int .i64 p127.NS, .int .i64 p127.NO]), tR (Box b16 [.int .i64 x14.What, .int .i64 x14.A, .int .i64 x14.B]), tR (Own 65 (ekI .u64) v8 s124), tR (F), tS 105 (errV 53 t122), tS 106 (.int .i64 t138), tS 107 (.int .i64 t126), tS 108 (.bool (t138 != t126)), tS 109 (.bool (t138 != t126)), tS 110 (v8), tS 111 (bp b6 0), ⟨Value, [112], (fun v143 => [(112, v143)]), (fun v143 => [Own 65 (ekI .u64) v143 t141]), fun _ => rfl⟩, tS 113 (.bool t146), tS 114 (.bool (!t146)), tS 115 (.bool (!t146)), tS 116 (.bool (!t146)), tS 117 (v8), tS 118 ((plainV v8).val), tS 119 (bp b16 1), tS 120 (.int .i64 x14.A), tR (Own 65 (ekI .u64) v8 s152), tS 121 (.int .i64 t150), tS 122 (bp b6 0), tS 123 (bp b16 1), tS 124 (.int .i64 x14.A), tS 125 (.int .i64 t154), tS 126 (.bool (t150 != t154)), tS 127 (.bool (t150 != t154))]) (D := [⟨[0], [], [12]⟩, ⟨[12], [], [13]⟩, ⟨[1], [], [14]⟩, ⟨[13, 14], [], [15]⟩, ⟨[15], [], [16]⟩, ⟨[2, 16], [], [17]⟩, ⟨[3, 16], [], [18]⟩, ⟨[16, 18, 8, 7, 6], [], [19]⟩, ⟨[16, 17, 19, 10], [], [20]⟩, ⟨[16, 20], [], [21]⟩, ⟨[16, 21], [], [22]⟩, ⟨[22], [], [23]⟩, ⟨[2, 23], [], [24]⟩, ⟨[23, 24], [], [25]⟩, ⟨[4, 23], [], [26]⟩, ⟨[23, 26, 9], [], [27]⟩, ⟨[23, 25, 27], [10], [28, 29]⟩, ⟨[3, 23], [], [30]⟩, ⟨[4, 23], [], [31]⟩, ⟨[23, 31, 9], [], [32]⟩, ⟨[23, 30, 32, 8, 7, 6], [], [33]⟩, ⟨[23, 29, 33], [], [34]⟩, ⟨[23, 34], [], [35]⟩]) (ini := [0, 1, 2, 3, 4, 5, 6, 7, 8, 9, 10, 11]) (fin := [5, 3, 2, 4, 35, 19, 6, 7, 8, 9, 28, 11]) (bf := [[], [0], [], [0, 1, 2], [0, 1, 2, 3], [0, 1, 2, 3, 4], [0, 1, 2, 3, 4], [0, 1, 2, 3, 4, 6], [0, 1, 2, 3, 4, 5, 6, 7], [0, 1, 2, 3, 4, 5, 6, 7, 8], [0, 1, 2, 3, 4, 5, 6, 7, 8, 9], [0, 1, 2, 3, 4, 5, 6, 7, 8, 9, 10], [0, 1, 2, 3, 4, 5, 6, 7, 8, 9, 10, 11], [0, 1, 2, 3, 4, 5, 6, 7, 8, 9, 10, 11, 12], [0, 1, 2, 3, 4, 5, 6, 7, 8, 9, 10, 11], [0, 1, 2, 3, 4, 5, 6, 7, 8, 9, 10, 11, 14], [0, 1, 2, 3, 4, 5, 6, 7, 8, 9, 10, 11, 12, 13, 14, 15], [0, 1, 2, 3, 4, 5, 6, 7, 8, 9, 10, 11], [0, 1, 2, 3, 4, 5, 6, 7, 8, 9, 10, 11], [0, 1, 2, 3, 4, 5, 6, 7, 8, 9, 10, 11, 18], [0, 1, 2, 3, 4, 5, 6, 7, 8, 9, 10, 11, 12, 13, 14, 15, 16, 17, 18, 19], [0, 1, 2, 3, 4, 5, 6, 7, 8, 9, 10, 11, 12, 13, 14, 15, 16, 17, 18, 19, 20], [0, 1, 2, 3, 4, 5, 6, 7, 8, 9, 10, 11, 12, 13, 14, 15, 16, 17, 18, 19, 20, 21]]) (by kernel_rfl) (by kernel_rfl) (fun x w h1 h2 => (.cons () (.cons () (.cons () (.cons () (.cons () (.cons () (.cons () (.cons () (.cons () (.cons () (.cons () (.cons () (.nil ⟨EnvAll.of h1 ⟨rfl, rfl, rfl, rfl, rfl, rfl, rfl, rfl, rfl, rfl, trivial⟩, h2⟩)))))))))))))) (fun Q => by kernel_rfl) ⟨?_, ?_, ?_, ?_, ?_, ?_, ?_, ?_, ?_, ?_, ?_, ?_, ?_, ?_, ?_, ?_, ?_, ?_, ?_, ?_, ?_, ?_, ?_, trivial⟩ ?_
                  · rintro Fr _
                    refine SO.v rfl (opv_move rfl) ?_
                    exact SO.nilZ fun a w h1 h2 h3 h4 h5 => PZ.of h1 h3 h5 (.cons () (.cons () (.nil ⟨EnvAll.of h2 ⟨rfl, rfl, trivial⟩, h4⟩)))
                  · rintro Fr _
                    refine SO.call (pre := []) rfl Try.call15 rfl rfl rfl (law00_Code.ct _ _ _ ht139) trivial ?_
                    rintro _ _ ⟨rfl, rfl⟩
                    exact SO.nilZ fun a w h1 h2 h3 h4 h5 => PZ.of h1 h3 h5 (.cons () (.cons () (.nil ⟨EnvAll.of h2 ⟨rfl, rfl, trivial⟩, h4⟩)))
                  · rintro Fr _
                    refine SO.v rfl (opv_move rfl) ?_
                    exact SO.nilZ fun a w h1 h2 h3 h4 h5 => PZ.of h1 h3 h5 (.cons () (.cons () (.nil ⟨EnvAll.of h2 ⟨rfl, rfl, trivial⟩, h4⟩)))
                  · rintro Fr _ _
                    refine SO.v rfl (opv_neq rfl rfl) ?_
                    exact SO.nilZ fun a w h1 h2 h3 h4 h5 => PZ.of h1 h3 h5 (.cons () (.cons () (.cons () (.nil ⟨EnvAll.of h2 ⟨rfl, rfl, rfl, trivial⟩, h4⟩))))
                  · rintro Fr _
                    refine SO.v rfl (opv_move rfl) ?_
                    exact SO.nilZ fun a w h1 h2 h3 h4 h5 => PZ.of h1 h3 h5 (.cons () (.cons () (.nil ⟨EnvAll.of h2 ⟨rfl, rfl, trivial⟩, h4⟩)))
                  · rintro Fr _ _
                    refine SO.takeT rfl rfl rfl b140 ?_
                    refine SO.v rfl (opv_move rfl) ?_
                    exact SO.nilZ fun a w h1 h2 h3 h4 h5 => PZ.of h1 h3 h5 (.cons () (.cons () (.cons () (.nil ⟨EnvAll.of h2 ⟨rfl, rfl, rfl, trivial⟩, h4⟩))))
                  · rintro Fr _ _
                    refine SO.takeT rfl rfl rfl b140 ?_
                    refine SO.v rfl (opv_move rfl) ?_
                    exact SO.nilZ fun a w h1 h2 h3 h4 h5 => PZ.of h1 h3 h5 (.cons () (.cons () (.cons () (.nil ⟨EnvAll.of h2 ⟨rfl, rfl, rfl, trivial⟩, h4⟩))))
                  · rintro Fr _ _ _ _ _
                    refine SO.takeT rfl rfl rfl b140 ?_
                    refine SO.b2 ?_
                    refine SO.b2 ?_
                    refine SO.b2 ?_
                    refine SO.call (pre := [Box _ _, OwnO _ _ _ _ _ _, OwnO _ _ _ _ _ _]) rfl Try.call17 rfl rfl rfl (ref10_State_Words.ct _ b6 u129_Slots u129_Objs raws130 A131 raws134 A135 _ _ ht142) trivial ?_
                    rintro v143 _ ⟨_, rfl, rfl⟩
                    refine SO.rd fun hr144 => ?_
                    refine SO.b3 ?_
                    refine SO.b3 ?_
                    refine SO.b3 ?_
                    exact SO.nilZ fun a w h1 h2 h3 h4 h5 => PZ.of h1 h3 h5 (.cons () (.cons () (.cons () (.cons () (.cons () (.cons v143 (.nil ⟨EnvAll.of h2 ⟨rfl, rfl, rfl, trivial⟩, h4⟩)))))))
                  · rintro Fr _ _ v143 _
                    refine SO.rd fun hr145 => ?_
                    refine SO.takeT rfl rfl rfl b140 ?_
                    refine SO.call (pre := []) rfl Try.call16 rfl rfl rfl (ref10_Same.ct _ v8 v143 _ _ _ ht147) ⟨(Rd.tail (Rd.head hr125)), (Rd.head hr145)⟩ ?_
                    rintro _ _ ⟨rfl, rfl⟩
                    refine SO.b1 ?_
                    refine SO.b1 ?_
                    exact SO.nilZ fun a w h1 h2 h3 h4 h5 => PZ.of h1 h3 h5 (.cons () (.cons () (.cons v143 (.cons () (.cons () (.nil ⟨EnvAll.of h2 ⟨rfl, rfl, rfl, rfl, trivial⟩, h4⟩))))))
                  · rintro Fr _ _
                    refine SO.takeT rfl rfl rfl b140 ?_
                    refine SO.v rfl (opv_not rfl) ?_
                    exact SO.nilZ fun a w h1 h2 h3 h4 h5 => PZ.of h1 h3 h5 (.cons () (.cons () (.cons () (.nil ⟨EnvAll.of h2 ⟨rfl, rfl, rfl, trivial⟩, h4⟩))))
                  · rintro Fr _ _
                    refine SO.v rfl (opv_pick_f' b140 rfl rfl) ?_
                    exact SO.nilZ fun a w h1 h2 h3 h4 h5 => PZ.of h1 h3 h5 (.cons () (.cons () (.cons () (.nil ⟨EnvAll.of h2 ⟨rfl, rfl, rfl, trivial⟩, h4⟩))))
                  · rintro Fr _
                    refine SO.v rfl (opv_move rfl) ?_
                    exact SO.nilZ fun a w h1 h2 h3 h4 h5 => PZ.of h1 h3 h5 (.cons () (.cons () (.nil ⟨EnvAll.of h2 ⟨rfl, rfl, trivial⟩, h4⟩)))
                  · rintro Fr _ _
                    refine SO.takeT rfl rfl rfl b148 ?_
                    refine SO.v rfl (opv_move rfl) ?_
                    exact SO.nilZ fun a w h1 h2 h3 h4 h5 => PZ.of h1 h3 h5 (.cons () (.cons () (.cons () (.nil ⟨EnvAll.of h2 ⟨rfl, rfl, rfl, trivial⟩, h4⟩))))
                  · rintro Fr _ _
                    refine SO.takeT rfl rfl rfl b148 ?_
                    refine SO.v rfl (opv_iface Try.underlying27 rfl rfl) ?_
                    exact SO.nilZ fun a w h1 h2 h3 h4 h5 => PZ.of h1 h3 h5 (.cons () (.cons () (.cons () (.nil ⟨EnvAll.of h2 ⟨rfl, rfl, rfl, trivial⟩, h4⟩))))
                  · rintro Fr _ _
                    refine SO.takeT rfl rfl rfl b148 ?_
                    refine SO.v rfl (opv_fieldAddr Try.underlying29 rfl Try.sizeOf3 rfl rfl) ?_
                    exact SO.nilZ fun a w h1 h2 h3 h4 h5 => PZ.of h1 h3 h5 (.cons () (.cons () (.cons () (.nil ⟨EnvAll.of h2 ⟨rfl, rfl, rfl, trivial⟩, h4⟩))))
                  · rintro Fr _ _ _
                    refine SO.takeT rfl rfl rfl b148 ?_
                    refine SO.load1 rfl Try.isAgg3 rfl rfl ?_
                    exact SO.nilZ fun a w h1 h2 h3 h4 h5 => PZ.of h1 h3 h5 (.cons () (.cons () (.cons () (.cons () (.nil ⟨EnvAll.of h2 ⟨rfl, rfl, rfl, trivial⟩, h4⟩)))))
                  · rintro Fr _ _ _ _
                    refine SO.takeT rfl rfl rfl b148 ?_
                    refine SO.call (pre := [(plainV v8).rep _]) rfl Try.call18 rfl rfl rfl (cdt_Leaf.ct (plainV v8) _ _ _ _ _ ht151) trivial ?_
                    rintro _ _ ⟨rfl, rfl⟩
                    refine headEq (plainV_rep _ _) ?_
                    refine SO.rd fun hr153 => ?_
                    exact SO.nilZ fun a w h1 h2 h3 h4 h5 => PZ.of h1 h3 h5 (.cons () (.cons () (.cons () (.cons () (.cons () (.nil ⟨EnvAll.of h2 ⟨rfl, rfl, rfl, rfl, trivial⟩, h4⟩))))))
                  · rintro Fr _ _
                    refine SO.takeT rfl rfl rfl b148 ?_
                    refine SO.v rfl (opv_move rfl) ?_
                    exact SO.nilZ fun a w h1 h2 h3 h4 h5 => PZ.of h1 h3 h5 (.cons () (.cons () (.cons () (.nil ⟨EnvAll.of h2 ⟨rfl, rfl, rfl, trivial⟩, h4⟩))))
                  · rintro Fr _ _
                    refine SO.takeT rfl rfl rfl b148 ?_
                    refine SO.v rfl (opv_fieldAddr Try.underlying29 rfl Try.sizeOf3 rfl rfl) ?_
                    exact SO.nilZ fun a w h1 h2 h3 h4 h5 => PZ.of h1 h3 h5 (.cons () (.cons () (.cons () (.nil ⟨EnvAll.of h2 ⟨rfl, rfl, rfl, trivial⟩, h4⟩))))
                  · rintro Fr _ _ _
                    refine SO.takeT rfl rfl rfl b148 ?_
                    refine SO.load1 rfl Try.isAgg3 rfl rfl ?_
                    exact SO.nilZ fun a w h1 h2 h3 h4 h5 => PZ.of h1 h3 h5 (.cons () (.cons () (.cons () (.cons () (.nil ⟨EnvAll.of h2 ⟨rfl, rfl, rfl, trivial⟩, h4⟩)))))
                  · rintro Fr _ _ _ _ _ _
                    refine SO.takeT rfl rfl rfl b148 ?_
                    refine SO.b2 ?_
                    refine SO.b2 ?_
                    refine SO.b2 ?_
                    refine SO.call (pre := [Box _ _, OwnO _ _ _ _ _ _, OwnO _ _ _ _ _ _]) rfl Try.call19 rfl rfl rfl (ref10_State_Leaf.ct _ b6 u129_Slots u129_Objs raws130 A131 raws134 A135 _ _ _ ht155) trivial ?_
                    rintro _ _ ⟨rfl, rfl⟩
                    refine SO.b2 ?_
                    refine SO.b2 ?_
                    refine SO.b2 ?_
                    exact SO.nilZ fun a w h1 h2 h3 h4 h5 => PZ.of h1 h3 h5 (.cons () (.cons () (.cons () (.cons () (.cons () (.cons () (.cons () (.nil ⟨EnvAll.of h2 ⟨rfl, rfl, rfl, rfl, trivial⟩, h4⟩))))))))
                  · rintro Fr _ _ _
                    refine SO.takeT rfl rfl rfl b148 ?_
                    refine SO.v rfl (opv_neq rfl rfl) ?_
                    exact SO.nilZ fun a w h1 h2 h3 h4 h5 => PZ.of h1 h3 h5 (.cons () (.cons () (.cons () (.cons () (.nil ⟨EnvAll.of h2 ⟨rfl, rfl, rfl, rfl, trivial⟩, h4⟩)))))
                  · rintro Fr _ _
                    refine SO.v rfl (opv_pick_f' b148 rfl rfl) ?_
                    exact SO.nilZ fun a w h1 h2 h3 h4 h5 => PZ.of h1 h3 h5 (.cons () (.cons () (.cons () (.nil ⟨EnvAll.of h2 ⟨rfl, rfl, rfl, trivial⟩, h4⟩))))
                  rintro _ _ _ _ _ v143 _ _ _ _ _ _
                  refine S.to (ρ' := [(0, v0), (2, .bool false), (3, .bool t1), (6, .int .i64 x6_1), (8, .bool ((((decide (0 ≤ x14.A)) && (decide (x14.A < 96))) && (decide (0 ≤ x14.B))) && (decide (x14.B < 96)))), (4, bp b6 0), (5, v8), (7, bp b16 0), (127, .bool (t150 != t154))]) ⟨rfl, rfl, rfl, rfl, rfl, rfl, rfl, rfl, rfl, trivial⟩ ?_
                  refine S.rd fun hr156 => ?_
                  refine S.b5 ?_
                  refine S.rd fun hr157 => ?_
                  cases h
                  refine S.b1 ?_
                  refine S.drop ?_
                  refine S.b5 ?_
                  refine S.b1 ?_
                  refine S.b5 ?_
                  refine S.b5 ?_
                  refine S.b5 ?_
                  refine S.b5 ?_
                  refine S.to ?_ (hk6 () trivial)
                  exact ⟨rfl, rfl, rfl, rfl, rfl, rfl, rfl, rfl, rfl, trivial⟩
            rintro _ -
            replace h := hJ6
            refine S.b4 ?_
            refine S.rd fun hr158 => ?_
            rcases bool_or j127_6 with b159 | b159
            · replace h := cond_t b159 h
              refine S.condT rfl b159 ?_
              refine S.seq ?_
              refine S.region ?_
              refine SO.v rfl (opv_assign rfl) ?_
              refine SO.nil ?_
              refine S.to (ρ' := [(2, .bool false)]) ⟨rfl, trivial⟩ ?_
              cases h
              replace h := hK1.1 _ rfl
              cases h
              refine S.b1 ?_
              refine S.closeR ?_
              refine S.b2 ?_
              refine S.closeR ?_
              refine S.drop ?_
              refine S.drop ?_
              refine S.drop ?_
              refine S.drop ?_
              refine S.drop ?_
              exact S.ret1 Try.func3 rfl rfl (fun w hs hk => hR w _ _ ⟨rfl, rfl⟩ hs hk)
            · replace h := cond_f b159 h
              refine S.condF rfl b159 ?_
              refine S.skip ?_
              refine S.seq ?_
              refine S.seq ?_
              refine S.region ?_
              refine SO.v rfl (opv_move rfl) ?_
              refine SO.v rfl (opv_not rfl) ?_
              refine SO.nil ?_
              rcases bool_or (!((((decide (0 ≤ x14.A)) && (decide (x14.A < 96))) && (decide (0 ≤ x14.B))) && (decide (x14.B < 96)))) with b160 | b160
              · replace h := cond_t b160 h
                refine S.condT rfl b160 ?_
                refine S.exit rfl ?_
                refine S.region ?_
                refine SO.v rfl (opv_move rfl) ?_
                refine SO.v rfl (opv_add rfl rfl) ?_
                refine SO.v rfl (opv_assign rfl) ?_
                refine SO.nil ?_
                refine S.to (ρ' := [(0, v0), (2, .bool false), (3, .bool t1), (4, bp b6 0), (5, v8), (6, .int .i64 (w64 (x6_1 + 1)))]) ⟨rfl, rfl, rfl, rfl, rfl, rfl, trivial⟩ ?_
                refine S.b1 ?_
                refine S.closeR ?_
                refine S.b2 ?_
                refine S.closeR ?_
                refine S.b4 ?_
                refine S.drop ?_
                refine S.b4 ?_
                refine S.b4 ?_
                refine S.b4 ?_
                refine S.b3 ?_
                refine S.b4 ?_
                refine S.to ?_ (ih1 ((w64 (x6_1 + 1), p127.Slots, p127.Objs, p127.NS, p127.NO, qv8_6), (u129_Slots, u129_Objs)) h)
                exact ⟨rfl, rfl, rfl, rfl, rfl, rfl, trivial⟩
              · replace h := cond_f b160 h
                refine S.condF rfl b160 ?_
                refine S.skip ?_
                refine S.seq ?_
                refine S.region ?_
                refine SO.v rfl (opv_move rfl) ?_
                refine SO.v rfl (opv_iface Try.underlying27 rfl rfl) ?_
                refine SO.v rfl (opv_fieldAddr Try.underlying29 rfl Try.sizeOf3 rfl rfl) ?_
                refine SO.b4 ?_
                refine SO.load1 rfl Try.isAgg3 rfl rfl ?_
                obtain ⟨⟨t161, s163⟩, ht162, h⟩ := opt_bind h
                refine SO.b1 ?_
                refine SO.call (pre := [(plainV v8).rep _]) rfl Try.call20 rfl rfl rfl (cdt_Kids.ct (plainV v8) _ _ _ _ _ ht162) trivial ?_
                rintro v164 _ ⟨_, rfl, rfl⟩
                refine SO.rd fun hr165 => ?_
                refine SO.b1 ?_
                refine headEq (plainV_rep _ _) ?_
                refine SO.rd fun hr166 => ?_
                refine SO.v rfl (opv_assign rfl) ?_
                refine SO.nil ?_
                refine S.to (ρ' := [(0, v0), (2, .bool false), (3, .bool t1), (4, bp b6 0), (5, v8), (6, .int .i64 x6_1), (7, bp b16 0), (11, v164)]) ⟨rfl, rfl, rfl, rfl, rfl, rfl, rfl, rfl, trivial⟩ ?_
                refine S.seq ?_
                refine S.seq ?_
                obtain ⟨⟨j164_7, qv8_7⟩, hC7, hJ7⟩ := opt_bind h
                clear h
                refine S.cutP (G := Unit) (fun _ => True) (fun _ => [(0, v0), (2, .bool false), (3, .bool t1), (4, bp b6 0), (5, v8), (6, .int .i64 x6_1), (7, bp b16 0), (11, v164), (164, .bool j164_7)]) (fun _ => [Own 65 (ekI .u64) v8 qv8_7, Own 3 (ekI .i64) v164 t161, Box b16 [.int .i64 x14.What, .int .i64 x14.A, .int .i64 x14.B], OwnO 56 kr_ref10_Obj u129_Objs raws134 A135 p127.Objs, OwnO 46 kr_ref10_Slot u129_Slots raws130 A131 p127.Slots, Box b6 [u129_Slots, u129_Objs, .int .i64 p127.NS, .int .i64 p127.NO], F]) (fun hk7 => ?_) ?_
                · replace h := hC7
                  obtain ⟨⟨t167, s169⟩, ht168, h⟩ := opt_bind h
                  obtain ⟨x171, hx172, h⟩ := opt_bind h
                  obtain ⟨r173, hr174, hc175⟩ := relR.at hrel132 hx172
                  rcases bool_or (t167 != x171.Parent) with b176 | b176
                  · replace h := cond_t b176 h
                    refine S.draw' (Z := fun Q => ∀ (_ : Unit) (_ : Unit) (_ : Unit) (_ : Unit) (_ : Unit) (_ : Unit) (_ : Unit) (_ : Unit) (_ : Unit) (_ : Unit) (_ : Unit) (_ : Unit) (_ : Unit), Q [(0, v0), (2, .bool false), (3, .bool t1), (6, .int .i64 x6_1), (4, bp b6 0), (5, v8), (7, bp b16 0), (11, v164), (164, .bool true)] [Own 65 (ekI .u64) v8 s169, Own 3 (ekI .i64) v164 t161, Box b16 [.int .i64 x14.What, .int .i64 x14.A, .int .i64 x14.B], OwnO 56 kr_ref10_Obj u129_Objs raws134 A135 p127.Objs, OwnO 46 kr_ref10_Slot u129_Slots raws130 A131 p127.Slots, Box b6 [u129_Slots, u129_Objs, .int .i64 p127.NS, .int .i64 p127.NO], F]) (T := [tS 5 (v8), tS 7 (bp b16 0), tS 4 (bp b6 0), tS 11 (v164), tE [(0, v0), (2, .bool false), (3, .bool t1), (6, .int .i64 x6_1)], tR (Own 65 (ekI .u64) v8 s163), tR (Own 3 (ekI .i64) v164 t161), tR (Box b16 [.int .i64 x14.What, .int .i64 x14.A, .int .i64 x14.B]), tR (OwnO 56 kr_ref10_Obj u129_Objs raws134 A135 p127.Objs), tR (OwnO 46 kr_ref10_Slot u129_Slots raws130 A131 p127.Slots), tR (Box b6 [u129_Slots, u129_Objs, .int .i64 p127.NS, .int .i64 p127.NO]), tR (F), tS 135 (v8), tS 136 ((plainV v8).val), tS 137 (bp b16 1), tS 138 (.int .i64 x14.A), tR (Own 65 (ekI .u64) v8 s169), tS 139 (.int .i64 t167), tS 140 (bp b6 0), tS 141 (bp b6 0), tS 142 (bp b6 0), tS 143 (u129_Slots), tS 144 (bp b16 1), tS 145 (.int .i64 x14.A), tS 146 (idxp u129_Slots (x14.A.toNat * kr_ref10_Slot.sz)), tS 147 (idxp u129_Slots (x14.A.toNat * kr_ref10_Slot.sz + 6)), tS 148 (.int .i64 x171.Parent), tS 149 (.bool (t167 != x171.Parent)), tS 150 (.bool (t167 != x171.Parent)), tS 151 (undef), tS 152 (undef), tS 153 (undef), tS 154 (undef), tS 155 (undef), tS 156 (undef), tS 157 (undef), tS 158 (undef), tS 159 (undef), tS 160 (undef), tS 161 (undef), tS 162 (undef), tS 163 (undef), tS 164 (.bool true)]) (D := [⟨[0], [], [12]⟩, ⟨[12], [], [13]⟩, ⟨[1], [], [14]⟩, ⟨[14, 7], [], [15]⟩, ⟨[13, 15], [5], [16, 17]⟩, ⟨[2], [], [18]⟩, ⟨[18], [], [19]⟩, ⟨[19], [], [20]⟩, ⟨[20, 10], [], [21]⟩, ⟨[1], [], [22]⟩, ⟨[22, 7], [], [23]⟩, ⟨[21, 23, 9], [], [24]⟩, ⟨[24, 9], [], [25]⟩, ⟨[25, 9], [], [26]⟩, ⟨[17, 26], [], [27]⟩, ⟨[27], [], [28]⟩, ⟨[28], [], [29]⟩, ⟨[28], [], [30]⟩, ⟨[28], [], [31]⟩, ⟨[28], [], [32]⟩, ⟨[28], [], [33]⟩, ⟨[28], [], [34]⟩, ⟨[28], [], [35]⟩, ⟨[28], [], [36]⟩, ⟨[28], [], [37]⟩, ⟨[28], [], [38]⟩, ⟨[28], [], [39]⟩, ⟨[28], [], [40]⟩, ⟨[28], [], [41]⟩, ⟨[28, 41], [], [42]⟩]) (ini := [0, 1, 2, 3, 4, 5, 6, 7, 8, 9, 10, 11]) (fin := [4, 2, 0, 1, 3, 42, 16, 6, 7, 8, 9, 10, 11]) (bf := [[], [0], [], [2], [0, 1, 2, 3], [], [5], [5, 6], [5, 6, 7], [], [9], [5, 6, 7, 8, 9, 10], [5, 6, 7, 8, 9, 10, 11], [5, 6, 7, 8, 9, 10, 11, 12], [0, 1, 2, 3, 4, 5, 6, 7, 8, 9, 10, 11, 12, 13], [0, 1, 2, 3, 4, 5, 6, 7, 8, 9, 10, 11, 12, 13, 14], [0, 1, 2, 3, 4, 5, 6, 7, 8, 9, 10, 11, 12, 13, 14, 15], [0, 1, 2, 3, 4, 5, 6, 7, 8, 9, 10, 11, 12, 13, 14, 15, 16], [0, 1, 2, 3, 4, 5, 6, 7, 8, 9, 10, 11, 12, 13, 14, 15], [0, 1, 2, 3, 4, 5, 6, 7, 8, 9, 10, 11, 12, 13, 14, 15, 18], [0, 1, 2, 3, 4, 5, 6, 7, 8, 9, 10, 11, 12, 13, 14, 15, 18, 19], [0, 1, 2, 3, 4, 5, 6, 7, 8, 9, 10, 11, 12, 13, 14, 15, 18, 19, 20], [0, 1, 2, 3, 4, 5, 6, 7, 8, 9, 10, 11, 12, 13, 14, 15], [0, 1, 2, 3, 4, 5, 6, 7, 8, 9, 10, 11, 12, 13, 14, 15, 22], [0, 1, 2, 3, 4, 5, 6, 7, 8, 9, 10, 11, 12, 13, 14, 15, 18, 19, 20, 21, 22, 23], [0, 1, 2, 3, 4, 5, 6, 7, 8, 9, 10, 11, 12, 13, 14, 15, 18, 19, 20, 21, 22, 23, 24], [0, 1, 2, 3, 4, 5, 6, 7, 8, 9, 10, 11, 12, 13, 14, 15, 18, 19, 20, 21, 22, 23, 24, 25], [0, 1, 2, 3, 4, 5, 6, 7, 8, 9, 10, 11, 12, 13, 14, 15, 18, 19, 20, 21, 22, 23, 24, 25, 26], [0, 1, 2, 3, 4, 5, 6, 7, 8, 9, 10, 11, 12, 13, 14, 15, 16, 17, 18, 19, 20, 21, 22, 23, 24, 25, 26, 27], [0, 1, 2, 3, 4, 5, 6, 7, 8, 9, 10, 11, 12, 13, 14, 15, 16, 17, 18, 19, 20, 21, 22, 23, 24, 25, 26, 27, 28]]) (by kernel_rfl) (by kernel_rfl) (fun x w h1 h2 => (.cons () (.cons () (.cons () (.cons () (.cons () (.cons () (.cons () (.cons () (.cons () (.cons () (.cons () (.cons () (.nil ⟨EnvAll.of h1 ⟨rfl, rfl, rfl, rfl, rfl, rfl, rfl, rfl, trivial⟩, h2⟩)))))))))))))) (fun Q => by kernel_rfl) ⟨?_, ?_, ?_, ?_, ?_, ?_, ?_, ?_, ?_, ?_, ?_, ?_, ?_, ?_, ?_, ?_, ?_, ?_, ?_, ?_, ?_, ?_, ?_, ?_, ?_, ?_, ?_, ?_, ?_, ?_, trivial⟩ ?_
                    · rintro Fr _
                      refine SO.v rfl (opv_move rfl) ?_
                      exact SO.nilZ fun a w h1 h2 h3 h4 h5 => PZ.of h1 h3 h5 (.cons () (.cons () (.nil ⟨EnvAll.of h2 ⟨rfl, rfl, trivial⟩, h4⟩)))
                    · rintro Fr _
                      refine SO.v rfl (opv_iface Try.underlying27 rfl rfl) ?_
                      exact SO.nilZ fun a w h1 h2 h3 h4 h5 => PZ.of h1 h3 h5 (.cons () (.cons () (.nil ⟨EnvAll.of h2 ⟨rfl, rfl, trivial⟩, h4⟩)))
                    · rintro Fr _
                      refine SO.v rfl (opv_fieldAddr Try.underlying29 rfl Try.sizeOf3 rfl rfl) ?_
                      exact SO.nilZ fun a w h1 h2 h3 h4 h5 => PZ.of h1 h3 h5 (.cons () (.cons () (.nil ⟨EnvAll.of h2 ⟨rfl, rfl, trivial⟩, h4⟩)))
                    · rintro Fr _ _
                      refine SO.load1 rfl Try.isAgg3 rfl rfl ?_
                      exact SO.nilZ fun a w h1 h2 h3 h4 h5 => PZ.of h1 h3 h5 (.cons () (.cons () (.cons () (.nil ⟨EnvAll.of h2 ⟨rfl, rfl, trivial⟩, h4⟩))))
                    · rintro Fr _ _ _
                      refine SO.call (pre := [(plainV v8).rep _]) rfl Try.call21 rfl rfl rfl (cdt_Parent.ct (plainV v8) _ _ _ _ ht168) trivial ?_
                      rintro _ _ ⟨rfl, rfl⟩
                      refine headEq (plainV_rep _ _) ?_
                      refine SO.rd fun hr170 => ?_
                      exact SO.nilZ fun a w h1 h2 h3 h4 h5 => PZ.of h1 h3 h5 (.cons () (.cons () (.cons () (.cons () (.nil ⟨EnvAll.of h2 ⟨rfl, rfl, rfl, trivial⟩, h4⟩)))))
                    · rintro Fr _
                      refine SO.v rfl (opv_move rfl) ?_
                      exact SO.nilZ fun a w h1 h2 h3 h4 h5 => PZ.of h1 h3 h5 (.cons () (.cons () (.nil ⟨EnvAll.of h2 ⟨rfl, rfl, trivial⟩, h4⟩)))
                    · rintro Fr _
                      refine SO.v rfl (opv_nilCheck rfl) ?_
                      exact SO.nilZ fun a w h1 h2 h3 h4 h5 => PZ.of h1 h3 h5 (.cons () (.cons () (.nil ⟨EnvAll.of h2 ⟨rfl, rfl, trivial⟩, h4⟩)))
                    · rintro Fr _
                      refine SO.v rfl (opv_fieldAddr Try.underlying50 rfl Try.sizeOf47 rfl rfl) ?_
                      exact SO.nilZ fun a w h1 h2 h3 h4 h5 => PZ.of h1 h3 h5 (.cons () (.cons () (.nil ⟨EnvAll.of h2 ⟨rfl, rfl, trivial⟩, h4⟩)))
                    · rintro Fr _ _
                      refine SO.load1 rfl Try.isAgg47 rfl rfl ?_
                      exact SO.nilZ fun a w h1 h2 h3 h4 h5 => PZ.of h1 h3 h5 (.cons () (.cons () (.cons () (.nil ⟨EnvAll.of h2 ⟨rfl, rfl, trivial⟩, h4⟩))))
                    · rintro Fr _
                      refine SO.v rfl (opv_fieldAddr Try.underlying29 rfl Try.sizeOf3 rfl rfl) ?_
                      exact SO.nilZ fun a w h1 h2 h3 h4 h5 => PZ.of h1 h3 h5 (.cons () (.cons () (.nil ⟨EnvAll.of h2 ⟨rfl, rfl, trivial⟩, h4⟩)))
                    · rintro Fr _ _
                      refine SO.load1 rfl Try.isAgg3 rfl rfl ?_
                      exact SO.nilZ fun a w h1 h2 h3 h4 h5 => PZ.of h1 h3 h5 (.cons () (.cons () (.cons () (.nil ⟨EnvAll.of h2 ⟨rfl, rfl, trivial⟩, h4⟩))))
                    · rintro Fr _ _ _
                      refine SO.v rfl (opv_idx Try.underlying47 Try.sizeOf46 hR133 rfl rfl hr174) ?_
                      exact SO.nilZ fun a w h1 h2 h3 h4 h5 => PZ.of h1 h3 h5 (.cons () (.cons () (.cons () (.cons () (.nil ⟨EnvAll.of h2 ⟨rfl, rfl, rfl, trivial⟩, h4⟩)))))
                    · rintro Fr _ _
                      refine SO.v rfl (opv_fieldIdx Try.underlying46 rfl Try.sizeOf3 hR133 hr174 rfl rfl) ?_
                      exact SO.nilZ fun a w h1 h2 h3 h4 h5 => PZ.of h1 h3 h5 (.cons () (.cons () (.cons () (.nil ⟨EnvAll.of h2 ⟨rfl, rfl, trivial⟩, h4⟩))))
                    · rintro Fr _ _
                      refine SO.loadI1 (j := 6) rfl Try.isAgg3 (Rd.head hR133) hr174 rfl rfl rfl (hc175.val rfl) ?_
                      exact SO.nilZ fun a w h1 h2 h3 h4 h5 => PZ.of h1 h3 h5 (.cons () (.cons () (.cons () (.nil ⟨EnvAll.of h2 ⟨rfl, rfl, trivial⟩, h4⟩))))
                    · rintro Fr _ _
                      refine SO.v rfl (opv_neq rfl rfl) ?_
                      exact SO.nilZ fun a w h1 h2 h3 h4 h5 => PZ.of h1 h3 h5 (.cons () (.cons () (.cons () (.nil ⟨EnvAll.of h2 ⟨rfl, rfl, rfl, trivial⟩, h4⟩))))
                    · rintro Fr _
                      refine SO.v rfl (opv_move rfl) ?_
                      exact SO.nilZ fun a w h1 h2 h3 h4 h5 => PZ.of h1 h3 h5 (.cons () (.cons () (.nil ⟨EnvAll.of h2 ⟨rfl, rfl, trivial⟩, h4⟩)))
                    · rintro Fr _
                      refine SO.passF rfl rfl rfl b176 rfl rfl ?_
                      exact SO.nilZ fun a w h1 h2 h3 h4 h5 => PZ.of h1 h3 h5 (.cons () (.cons () (.nil ⟨EnvAll.of h2 ⟨rfl, rfl, trivial⟩, h4⟩)))
                    · rintro Fr _
                      refine SO.passF rfl rfl rfl b176 rfl rfl ?_
                      exact SO.nilZ fun a w h1 h2 h3 h4 h5 => PZ.of h1 h3 h5 (.cons () (.cons () (.nil ⟨EnvAll.of h2 ⟨rfl, rfl, trivial⟩, h4⟩)))
                    · rintro Fr _
                      refine SO.passF rfl rfl rfl b176 rfl rfl ?_
                      exact SO.nilZ fun a w h1 h2 h3 h4 h5 => PZ.of h1 h3 h5 (.cons () (.cons () (.nil ⟨EnvAll.of h2 ⟨rfl, rfl, trivial⟩, h4⟩)))
                    · rintro Fr _
                      refine SO.passF rfl rfl rfl b176 rfl rfl ?_
                      exact SO.nilZ fun a w h1 h2 h3 h4 h5 => PZ.of h1 h3 h5 (.cons () (.cons () (.nil ⟨EnvAll.of h2 ⟨rfl, rfl, trivial⟩, h4⟩)))
                    · rintro Fr _
                      refine SO.passF rfl rfl rfl b176 rfl rfl ?_
                      exact SO.nilZ fun a w h1 h2 h3 h4 h5 => PZ.of h1 h3 h5 (.cons () (.cons () (.nil ⟨EnvAll.of h2 ⟨rfl, rfl, trivial⟩, h4⟩)))
                    · rintro Fr _
                      refine SO.passF rfl rfl rfl b176 rfl rfl ?_
                      exact SO.nilZ fun a w h1 h2 h3 h4 h5 => PZ.of h1 h3 h5 (.cons () (.cons () (.nil ⟨EnvAll.of h2 ⟨rfl, rfl, trivial⟩, h4⟩)))
                    · rintro Fr _
                      refine SO.passF rfl rfl rfl b176 rfl rfl ?_
                      exact SO.nilZ fun a w h1 h2 h3 h4 h5 => PZ.of h1 h3 h5 (.cons () (.cons () (.nil ⟨EnvAll.of h2 ⟨rfl, rfl, trivial⟩, h4⟩)))
                    · rintro Fr _
                      refine SO.passF rfl rfl rfl b176 rfl rfl ?_
                      exact SO.nilZ fun a w h1 h2 h3 h4 h5 => PZ.of h1 h3 h5 (.cons () (.cons () (.nil ⟨EnvAll.of h2 ⟨rfl, rfl, trivial⟩, h4⟩)))
                    · rintro Fr _
                      refine SO.passF rfl rfl rfl b176 rfl rfl ?_
                      exact SO.nilZ fun a w h1 h2 h3 h4 h5 => PZ.of h1 h3 h5 (.cons () (.cons () (.nil ⟨EnvAll.of h2 ⟨rfl, rfl, trivial⟩, h4⟩)))
                    · rintro Fr _
                      refine SO.passF rfl rfl rfl b176 rfl rfl ?_
                      exact SO.nilZ fun a w h1 h2 h3 h4 h5 => PZ.of h1 h3 h5 (.cons () (.cons () (.nil ⟨EnvAll.of h2 ⟨rfl, rfl, trivial⟩, h4⟩)))
                    · rintro Fr _
                      refine SO.passF rfl rfl rfl b176 rfl rfl ?_
                      exact SO.nilZ fun a w h1 h2 h3 h4 h5 => PZ.of h1 h3 h5 (.cons () (.cons () (.nil ⟨EnvAll.of h2 ⟨rfl, rfl, trivial⟩, h4⟩)))
                    · rintro Fr _
                      refine SO.passF rfl rfl rfl b176 rfl rfl ?_
                      exact SO.nilZ fun a w h1 h2 h3 h4 h5 => PZ.of h1 h3 h5 (.cons () (.cons () (.nil ⟨EnvAll.of h2 ⟨rfl, rfl, trivial⟩, h4⟩)))
                    · rintro Fr _
                      refine SO.passF rfl rfl rfl b176 rfl rfl ?_
                      exact SO.nilZ fun a w h1 h2 h3 h4 h5 => PZ.of h1 h3 h5 (.cons () (.cons () (.nil ⟨EnvAll.of h2 ⟨rfl, rfl, trivial⟩, h4⟩)))
                    · rintro Fr _ _
                      refine SO.v rfl (opv_pick_t' b176 rfl rfl) ?_
                      exact SO.nilZ fun a w h1 h2 h3 h4 h5 => PZ.of h1 h3 h5 (.cons () (.cons () (.cons () (.nil ⟨EnvAll.of h2 ⟨rfl, rfl, rfl, trivial⟩, h4⟩))))
                    rintro _ _ _ _ _ _ _ _ _ _ _ _ _
                    refine S.to (ρ' := [(0, v0), (2, .bool false), (3, .bool t1), (6, .int .i64 x6_1), (4, bp b6 0), (5, v8), (7, bp b16 0), (11, v164), (164, .bool true)]) ⟨rfl, rfl, rfl, rfl, rfl, rfl, rfl, rfl, rfl, trivial⟩ ?_
                    refine S.rd fun hr177 => ?_
                    cases h
                    refine S.b6 ?_
                    refine S.b6 ?_
                    refine S.b6 ?_
                    refine S.b6 ?_
                    refine S.b6 ?_
                    refine S.b6 ?_
                    refine S.b6 ?_
                    refine S.to ?_ (hk7 () trivial)
                    exact ⟨rfl, rfl, rfl, rfl, rfl, rfl, rfl, rfl, rfl, trivial⟩
                  · replace h := cond_f b176 h
                    obtain ⟨x178, hx179, h⟩ := opt_bind h
                    obtain ⟨r180, hr181, hc182⟩ := relR.at hrel132 hx179
                    obtain ⟨u183, hu184, hru185⟩ := hc182.sl 7 rfl
                    refine S.draw' (Z := fun Q => ∀ (_ : Unit) (_ : Unit) (_ : Unit) (_ : Unit) (_ : Unit) (_ : Unit) (_ : Unit) (_ : Unit) (_ : Unit) (_ : Unit) (_ : Unit) (_ : Unit) (_ : Unit), Q [(0, v0), (2, .bool false), (3, .bool t1), (6, .int .i64 x6_1), (4, bp b6 0), (5, v8), (7, bp b16 0), (11, v164), (164, .bool ((t161.length : Int) != (x178.Kids.length : Int)))] [Own 65 (ekI .u64) v8 s169, Own 3 (ekI .i64) v164 t161, Box b16 [.int .i64 x14.What, .int .i64 x14.A, .int .i64 x14.B], OwnO 56 kr_ref10_Obj u129_Objs raws134 A135 p127.Objs, OwnO 46 kr_ref10_Slot u129_Slots raws130 A131 p127.Slots, Box b6 [u129_Slots, u129_Objs, .int .i64 p127.NS, .int .i64 p127.NO], F]) (T := [tS 5 (v8), tS 7 (bp b16 0), tS 4 (bp b6 0), tS 11 (v164), tE [(0, v0), (2, .bool false), (3, .bool t1), (6, .int .i64 x6_1)], tR (Own 65 (ekI .u64) v8 s163), tR (Own 3 (ekI .i64) v164 t161), tR (Box b16 [.int .i64 x14.What, .int .i64 x14.A, .int .i64 x14.B]), tR (OwnO 56 kr_ref10_Obj u129_Objs raws134 A135 p127.Objs), tR (OwnO 46 kr_ref10_Slot u129_Slots raws130 A131 p127.Slots), tR (Box b6 [u129_Slots, u129_Objs, .int .i64 p127.NS, .int .i64 p127.NO]), tR (F), tS 135 (v8), tS 136 ((plainV v8).val), tS 137 (bp b16 1), tS 138 (.int .i64 x14.A), tR (Own 65 (ekI .u64) v8 s169), tS 139 (.int .i64 t167), tS 140 (bp b6 0), tS 141 (bp b6 0), tS 142 (bp b6 0), tS 143 (u129_Slots), tS 144 (bp b16 1), tS 145 (.int .i64 x14.A), tS 146 (idxp u129_Slots (x14.A.toNat * kr_ref10_Slot.sz)), tS 147 (idxp u129_Slots (x14.A.toNat * kr_ref10_Slot.sz + 6)), tS 148 (.int .i64 x171.Parent), tS 149 (.bool (t167 != x171.Parent)), tS 150 (.bool (t167 != x171.Parent)), tS 151 (v164), tS 152 (.int .i64 (t161.length : Int)), tS 153 (bp b6 0), tS 154 (bp b6 0), tS 155 (bp b6 0), tS 156 (u129_Slots), tS 157 (bp b16 2), tS 158 (.int .i64 x14.B), tS 159 (idxp u129_Slots (x14.B.toNat * kr_ref10_Slot.sz)), tS 160 (idxp u129_Slots (x14.B.toNat * kr_ref10_Slot.sz + 7)), tS 161 (u183), tS 162 (.int .i64 (x178.Kids.length : Int)), tS 163 (.bool ((t161.length : Int) != (x178.Kids.length : Int))), tS 164 (.bool ((t161.length : Int) != (x178.Kids.length : Int)))]) (D := [⟨[0], [], [12]⟩, ⟨[12], [], [13]⟩, ⟨[1], [], [14]⟩, ⟨[14, 7], [], [15]⟩, ⟨[13, 15], [5], [16, 17]⟩, ⟨[2], [], [18]⟩, ⟨[18], [], [19]⟩, ⟨[19], [], [20]⟩, ⟨[20, 10], [], [21]⟩, ⟨[1], [], [22]⟩, ⟨[22, 7], [], [23]⟩, ⟨[21, 23, 9], [], [24]⟩, ⟨[24, 9], [], [25]⟩, ⟨[25, 9], [], [26]⟩, ⟨[17, 26], [], [27]⟩, ⟨[27], [], [28]⟩, ⟨[3, 28], [], [29]⟩, ⟨[28, 29, 6], [], [30]⟩, ⟨[2, 28], [], [31]⟩, ⟨[28, 31], [], [32]⟩, ⟨[28, 32], [], [33]⟩, ⟨[28, 33, 10], [], [34]⟩, ⟨[1, 28], [], [35]⟩, ⟨[28, 35, 7], [], [36]⟩, ⟨[28, 34, 36, 9], [], [37]⟩, ⟨[28, 37, 9], [], [38]⟩, ⟨[28, 38, 9], [], [39]⟩, ⟨[28, 39, 9], [], [40]⟩, ⟨[28, 30, 40], [], [41]⟩, ⟨[28, 41], [], [42]⟩]) (ini := [0, 1, 2, 3, 4, 5, 6, 7, 8, 9, 10, 11]) (fin := [4, 2, 0, 1, 3, 42, 16, 6, 7, 8, 9, 10, 11]) (bf := [[], [0], [], [2], [0, 1, 2, 3], [], [5], [5, 6], [5, 6, 7], [], [9], [5, 6, 7, 8, 9, 10], [5, 6, 7, 8, 9, 10, 11], [5, 6, 7, 8, 9, 10, 11, 12], [0, 1, 2, 3, 4, 5, 6, 7, 8, 9, 10, 11, 12, 13], [0, 1, 2, 3, 4, 5, 6, 7, 8, 9, 10, 11, 12, 13, 14], [0, 1, 2, 3, 4, 5, 6, 7, 8, 9, 10, 11, 12, 13, 14, 15], [0, 1, 2, 3, 4, 5, 6, 7, 8, 9, 10, 11, 12, 13, 14, 15, 16], [0, 1, 2, 3, 4, 5, 6, 7, 8, 9, 10, 11, 12, 13, 14, 15], [0, 1, 2, 3, 4, 5, 6, 7, 8, 9, 10, 11, 12, 13, 14, 15, 18], [0, 1, 2, 3, 4, 5, 6, 7, 8, 9, 10, 11, 12, 13, 14, 15, 18, 19], [0, 1, 2, 3, 4, 5, 6, 7, 8, 9, 10, 11, 12, 13, 14, 15, 18, 19, 20], [0, 1, 2, 3, 4, 5, 6, 7, 8, 9, 10, 11, 12, 13, 14, 15], [0, 1, 2, 3, 4, 5, 6, 7, 8, 9, 10, 11, 12, 13, 14, 15, 22], [0, 1, 2, 3, 4, 5, 6, 7, 8, 9, 10, 11, 12, 13, 14, 15, 18, 19, 20, 21, 22, 23], [0, 1, 2, 3, 4, 5, 6, 7, 8, 9, 10, 11, 12, 13, 14, 15, 18, 19, 20, 21, 22, 23, 24], [0, 1, 2, 3, 4, 5, 6, 7, 8, 9, 10, 11, 12, 13, 14, 15, 18, 19, 20, 21, 22, 23, 24, 25], [0, 1, 2, 3, 4, 5, 6, 7, 8, 9, 10, 11, 12, 13, 14, 15, 18, 19, 20, 21, 22, 23, 24, 25, 26], [0, 1, 2, 3, 4, 5, 6, 7, 8, 9, 10, 11, 12, 13, 14, 15, 16, 17, 18, 19, 20, 21, 22, 23, 24, 25, 26, 27], [0, 1, 2, 3, 4, 5, 6, 7, 8, 9, 10, 11, 12, 13, 14, 15, 16, 17, 18, 19, 20, 21, 22, 23, 24, 25, 26, 27, 28]]) (by kernel_rfl) (by kernel_rfl) (fun x w h1 h2 => (.cons () (.cons () (.cons () (.cons () (.cons () (.cons () (.cons () (.cons () (.cons () (.cons () (.cons () (.cons () (.nil ⟨EnvAll.of h1 ⟨rfl, rfl, rfl, rfl, rfl, rfl, rfl, rfl, trivial⟩, h2⟩)))))))))))))) (fun Q => by kernel_rfl) ⟨?_, ?_, ?_, ?_, ?_, ?_, ?_, ?_, ?_, ?_, ?_, ?_, ?_, ?_, ?_, ?_, ?_, ?_, ?_, ?_, ?_, ?_, ?_, ?_, ?_, ?_, ?_, ?_, ?_, ?_, trivial⟩ ?_
                    · rintro Fr _
                      refine SO.v rfl (opv_move rfl) ?_
                      exact SO.nilZ fun a w h1 h2 h3 h4 h5 => PZ.of h1 h3 h5 (.cons () (.cons () (.nil ⟨EnvAll.of h2 ⟨rfl, rfl, trivial⟩, h4⟩)))
                    · rintro Fr _
                      refine SO.v rfl (opv_iface Try.underlying27 rfl rfl) ?_
                      exact SO.nilZ fun a w h1 h2 h3 h4 h5 => PZ.of h1 h3 h5 (.cons () (.cons () (.nil ⟨EnvAll.of h2 ⟨rfl, rfl, trivial⟩, h4⟩)))
                    · rintro Fr _
                      refine SO.v rfl (opv_fieldAddr Try.underlying29 rfl Try.sizeOf3 rfl rfl) ?_
                      exact SO.nilZ fun a w h1 h2 h3 h4 h5 => PZ.of h1 h3 h5 (.cons () (.cons () (.nil ⟨EnvAll.of h2 ⟨rfl, rfl, trivial⟩, h4⟩)))
                    · rintro Fr _ _
                      refine SO.load1 rfl Try.isAgg3 rfl rfl ?_
                      exact SO.nilZ fun a w h1 h2 h3 h4 h5 => PZ.of h1 h3 h5 (.cons () (.cons () (.cons () (.nil ⟨EnvAll.of h2 ⟨rfl, rfl, trivial⟩, h4⟩))))
                    · rintro Fr _ _ _
                      refine SO.call (pre := [(plainV v8).rep _]) rfl Try.call21 rfl rfl rfl (cdt_Parent.ct (plainV v8) _ _ _ _ ht168) trivial ?_
                      rintro _ _ ⟨rfl, rfl⟩
                      refine headEq (plainV_rep _ _) ?_
                      refine SO.rd fun hr170 => ?_
                      exact SO.nilZ fun a w h1 h2 h3 h4 h5 => PZ.of h1 h3 h5 (.cons () (.cons () (.cons () (.cons () (.nil ⟨EnvAll.of h2 ⟨rfl, rfl, rfl, trivial⟩, h4⟩)))))
                    · rintro Fr _
                      refine SO.v rfl (opv_move rfl) ?_
                      exact SO.nilZ fun a w h1 h2 h3 h4 h5 => PZ.of h1 h3 h5 (.cons () (.cons () (.nil ⟨EnvAll.of h2 ⟨rfl, rfl, trivial⟩, h4⟩)))
                    · rintro Fr _
                      refine SO.v rfl (opv_nilCheck rfl) ?_
                      exact SO.nilZ fun a w h1 h2 h3 h4 h5 => PZ.of h1 h3 h5 (.cons () (.cons () (.nil ⟨EnvAll.of h2 ⟨rfl, rfl, trivial⟩, h4⟩)))
                    · rintro Fr _
                      refine SO.v rfl (opv_fieldAddr Try.underlying50 rfl Try.sizeOf47 rfl rfl) ?_
                      exact SO.nilZ fun a w h1 h2 h3 h4 h5 => PZ.of h1 h3 h5 (.cons () (.cons () (.nil ⟨EnvAll.of h2 ⟨rfl, rfl, trivial⟩, h4⟩)))
                    · rintro Fr _ _
                      refine SO.load1 rfl Try.isAgg47 rfl rfl ?_
                      exact SO.nilZ fun a w h1 h2 h3 h4 h5 => PZ.of h1 h3 h5 (.cons () (.cons () (.cons () (.nil ⟨EnvAll.of h2 ⟨rfl, rfl, trivial⟩, h4⟩))))
                    · rintro Fr _
                      refine SO.v rfl (opv_fieldAddr Try.underlying29 rfl Try.sizeOf3 rfl rfl) ?_
                      exact SO.nilZ fun a w h1 h2 h3 h4 h5 => PZ.of h1 h3 h5 (.cons () (.cons () (.nil ⟨EnvAll.of h2 ⟨rfl, rfl, trivial⟩, h4⟩)))
                    · rintro Fr _ _
                      refine SO.load1 rfl Try.isAgg3 rfl rfl ?_
                      exact SO.nilZ fun a w h1 h2 h3 h4 h5 => PZ.of h1 h3 h5 (.cons () (.cons () (.cons () (.nil ⟨EnvAll.of h2 ⟨rfl, rfl, trivial⟩, h4⟩))))
                    · rintro Fr _ _ _
                      refine SO.v rfl (opv_idx Try.underlying47 Try.sizeOf46 hR133 rfl rfl hr174) ?_
                      exact SO.nilZ fun a w h1 h2 h3 h4 h5 => PZ.of h1 h3 h5 (.cons () (.cons () (.cons () (.cons () (.nil ⟨EnvAll.of h2 ⟨rfl, rfl, rfl, trivial⟩, h4⟩)))))
                    · rintro Fr _ _
                      refine SO.v rfl (opv_fieldIdx Try.underlying46 rfl Try.sizeOf3 hR133 hr174 rfl rfl) ?_
                      exact SO.nilZ fun a w h1 h2 h3 h4 h5 => PZ.of h1 h3 h5 (.cons () (.cons () (.cons () (.nil ⟨EnvAll.of h2 ⟨rfl, rfl, trivial⟩, h4⟩))))
                    · rintro Fr _ _
                      refine SO.loadI1 (j := 6) rfl Try.isAgg3 (Rd.head hR133) hr174 rfl rfl rfl (hc175.val rfl) ?_
                      exact SO.nilZ fun a w h1 h2 h3 h4 h5 => PZ.of h1 h3 h5 (.cons () (.cons () (.cons () (.nil ⟨EnvAll.of h2 ⟨rfl, rfl, trivial⟩, h4⟩))))
                    · rintro Fr _ _
                      refine SO.v rfl (opv_neq rfl rfl) ?_
                      exact SO.nilZ fun a w h1 h2 h3 h4 h5 => PZ.of h1 h3 h5 (.cons () (.cons () (.cons () (.nil ⟨EnvAll.of h2 ⟨rfl, rfl, rfl, trivial⟩, h4⟩))))
                    · rintro Fr _
                      refine SO.v rfl (opv_move rfl) ?_
                      exact SO.nilZ fun a w h1 h2 h3 h4 h5 => PZ.of h1 h3 h5 (.cons () (.cons () (.nil ⟨EnvAll.of h2 ⟨rfl, rfl, trivial⟩, h4⟩)))
                    · rintro Fr _ _
                      refine SO.takeT rfl rfl rfl b176 ?_
                      refine SO.v rfl (opv_move rfl) ?_
                      exact SO.nilZ fun a w h1 h2 h3 h4 h5 => PZ.of h1 h3 h5 (.cons () (.cons () (.cons () (.nil ⟨EnvAll.of h2 ⟨rfl, rfl, rfl, trivial⟩, h4⟩))))
                    · rintro Fr _ _ _
                      refine SO.takeT rfl rfl rfl b176 ?_
                      refine SO.v rfl (opv_lenR rfl Try.underlying41 hr165 rfl) ?_
                      exact SO.nilZ fun a w h1 h2 h3 h4 h5 => PZ.of h1 h3 h5 (.cons () (.cons () (.cons () (.cons () (.nil ⟨EnvAll.of h2 ⟨rfl, rfl, rfl, trivial⟩, h4⟩)))))
                    · rintro Fr _ _
                      refine SO.takeT rfl rfl rfl b176 ?_
                      refine SO.v rfl (opv_move rfl) ?_
                      exact SO.nilZ fun a w h1 h2 h3 h4 h5 => PZ.of h1 h3 h5 (.cons () (.cons () (.cons () (.nil ⟨EnvAll.of h2 ⟨rfl, rfl, rfl, trivial⟩, h4⟩))))
                    · rintro Fr _ _
                      refine SO.takeT rfl rfl rfl b176 ?_
                      refine SO.v rfl (opv_nilCheck rfl) ?_
                      exact SO.nilZ fun a w h1 h2 h3 h4 h5 => PZ.of h1 h3 h5 (.cons () (.cons () (.cons () (.nil ⟨EnvAll.of h2 ⟨rfl, rfl, rfl, trivial⟩, h4⟩))))
                    · rintro Fr _ _
                      refine SO.takeT rfl rfl rfl b176 ?_
                      refine SO.v rfl (opv_fieldAddr Try.underlying50 rfl Try.sizeOf47 rfl rfl) ?_
                      exact SO.nilZ fun a w h1 h2 h3 h4 h5 => PZ.of h1 h3 h5 (.cons () (.cons () (.cons () (.nil ⟨EnvAll.of h2 ⟨rfl, rfl, rfl, trivial⟩, h4⟩))))
                    · rintro Fr _ _ _
                      refine SO.takeT rfl rfl rfl b176 ?_
                      refine SO.load1 rfl Try.isAgg47 rfl rfl ?_
                      exact SO.nilZ fun a w h1 h2 h3 h4 h5 => PZ.of h1 h3 h5 (.cons () (.cons () (.cons () (.cons () (.nil ⟨EnvAll.of h2 ⟨rfl, rfl, rfl, trivial⟩, h4⟩)))))
                    · rintro Fr _ _
                      refine SO.takeT rfl rfl rfl b176 ?_
                      refine SO.v rfl (opv_fieldAddr Try.underlying29 rfl Try.sizeOf3 rfl rfl) ?_
                      exact SO.nilZ fun a w h1 h2 h3 h4 h5 => PZ.of h1 h3 h5 (.cons () (.cons () (.cons () (.nil ⟨EnvAll.of h2 ⟨rfl, rfl, rfl, trivial⟩, h4⟩))))
                    · rintro Fr _ _ _
                      refine SO.takeT rfl rfl rfl b176 ?_
                      refine SO.load1 rfl Try.isAgg3 rfl rfl ?_
                      exact SO.nilZ fun a w h1 h2 h3 h4 h5 => PZ.of h1 h3 h5 (.cons () (.cons () (.cons () (.cons () (.nil ⟨EnvAll.of h2 ⟨rfl, rfl, rfl, trivial⟩, h4⟩)))))
                    · rintro Fr _ _ _ _
                      refine SO.takeT rfl rfl rfl b176 ?_
                      refine SO.v rfl (opv_idx Try.underlying47 Try.sizeOf46 hR133 rfl rfl hr181) ?_
                      exact SO.nilZ fun a w h1 h2 h3 h4 h5 => PZ.of h1 h3 h5 (.cons () (.cons () (.cons () (.cons () (.cons () (.nil ⟨EnvAll.of h2 ⟨rfl, rfl, rfl, rfl, trivial⟩, h4⟩))))))
                    · rintro Fr _ _ _
                      refine SO.takeT rfl rfl rfl b176 ?_
                      refine SO.v rfl (opv_fieldIdx Try.underlying46 rfl Try.sizeOf41 hR133 hr181 rfl rfl) ?_
                      exact SO.nilZ fun a w h1 h2 h3 h4 h5 => PZ.of h1 h3 h5 (.cons () (.cons () (.cons () (.cons () (.nil ⟨EnvAll.of h2 ⟨rfl, rfl, rfl, trivial⟩, h4⟩)))))
                    · rintro Fr _ _ _
                      refine SO.takeT rfl rfl rfl b176 ?_
                      refine SO.loadI1 (j := 7) rfl Try.isAgg41 (Rd.head hR133) hr181 rfl rfl rfl hu184 ?_
                      exact SO.nilZ fun a w h1 h2 h3 h4 h5 => PZ.of h1 h3 h5 (.cons () (.cons () (.cons () (.cons () (.nil ⟨EnvAll.of h2 ⟨rfl, rfl, rfl, trivial⟩, h4⟩)))))
                    · rintro Fr _ _ _
                      refine SO.takeT rfl rfl rfl b176 ?_
                      refine SO.v rfl (opv_lenR rfl Try.underlying41 hru185 rfl) ?_
                      exact SO.nilZ fun a w h1 h2 h3 h4 h5 => PZ.of h1 h3 h5 (.cons () (.cons () (.cons () (.cons () (.nil ⟨EnvAll.of h2 ⟨rfl, rfl, rfl, trivial⟩, h4⟩)))))
                    · rintro Fr _ _ _
                      refine SO.takeT rfl rfl rfl b176 ?_
                      refine SO.v rfl (opv_neq rfl rfl) ?_
                      exact SO.nilZ fun a w h1 h2 h3 h4 h5 => PZ.of h1 h3 h5 (.cons () (.cons () (.cons () (.cons () (.nil ⟨EnvAll.of h2 ⟨rfl, rfl, rfl, rfl, trivial⟩, h4⟩)))))
                    · rintro Fr _ _
                      refine SO.v rfl (opv_pick_f' b176 rfl rfl) ?_
                      exact SO.nilZ fun a w h1 h2 h3 h4 h5 => PZ.of h1 h3 h5 (.cons () (.cons () (.cons () (.nil ⟨EnvAll.of h2 ⟨rfl, rfl, rfl, trivial⟩, h4⟩))))
                    rintro _ _ _ _ _ _ _ _ _ _ _ _ _
                    refine S.to (ρ' := [(0, v0), (2, .bool false), (3, .bool t1), (6, .int .i64 x6_1), (4, bp b6 0), (5, v8), (7, bp b16 0), (11, v164), (164, .bool ((t161.length : Int) != (x178.Kids.length : Int)))]) ⟨rfl, rfl, rfl, rfl, rfl, rfl, rfl, rfl, rfl, trivial⟩ ?_
                    refine S.rd fun hr186 => ?_
                    cases h
                    refine S.b6 ?_
                    refine S.b6 ?_
                    refine S.b6 ?_
                    refine S.b6 ?_
                    refine S.b6 ?_
                    refine S.b6 ?_
                    refine S.b6 ?_
                    refine S.to ?_ (hk7 () trivial)
                    exact ⟨rfl, rfl, rfl, rfl, rfl, rfl, rfl, rfl, rfl, trivial⟩
                rintro _ -
                replace h := hJ7
                refine S.rd fun hr187 => ?_
                rcases bool_or j164_7 with b188 | b188
                · replace h := cond_t b188 h
                  refine S.condT rfl b188 ?_
                  refine S.seq ?_
                  refine S.region ?_
                  refine SO.v rfl (opv_assign rfl) ?_
                  refine SO.nil ?_
                  refine S.to (ρ' := [(2, .bool false)]) ⟨rfl, trivial⟩ ?_
                  cases h
                  replace h := hK1.1 _ rfl
                  cases h
                  refine S.b3 ?_
                  refine S.closeR ?_
                  refine S.b4 ?_
                  refine S.closeR ?_
                  refine S.drop ?_
                  refine S.drop ?_
                  refine S.drop ?_
                  refine S.drop ?_
                  refine S.drop ?_
                  refine S.drop ?_
                  exact S.ret1 Try.func3 rfl rfl (fun w hs hk => hR w _ _ ⟨rfl, rfl⟩ hs hk)
                · replace h := cond_f b188 h
                  refine S.condF rfl b188 ?_
                  refine S.skip ?_
                  refine S.seq ?_
                  refine S.region ?_
                  refine SO.v rfl (opv_assign rfl) ?_
                  refine SO.nil ?_
                  obtain ⟨o8, hl8, h⟩ := opt_bind h
                  refine S.b6 ?_
                  refine S.b6 ?_
                  refine S.b6 ?_
                  refine S.b6 ?_
                  refine S.b6 ?_
                  refine S.b6 ?_
                  refine S.b6 ?_
                  refine S.to (ρ' := [(12, .int .i64 0), (0, v0), (2, .bool false), (3, .bool t1), (4, bp b6 0), (5, v8), (6, .int .i64 x6_1), (7, bp b16 0), (11, v164)]) ⟨rfl, rfl, rfl, rfl, rfl, rfl, rfl, rfl, rfl, trivial⟩ ?_
                  refine S.forloop (X := Int × Unit) (O := Brk Bool Unit) (fun m x => law10_CdtPlays.l8 x14 p127 t161 m x.1) (fun x => match x with | (x12_8, _) => [(12, .int .i64 x12_8), (0, v0), (2, .bool false), (3, .bool t1), (4, bp b6 0), (5, v8), (6, .int .i64 x6_1), (7, bp b16 0), (11, v164)]) (fun x => match x with | (x12_8, _) => [Own 65 (ekI .u64) v8 qv8_7, Own 3 (ekI .i64) v164 t161, Box b16 [.int .i64 x14.What, .int .i64 x14.A, .int .i64 x14.B], OwnO 56 kr_ref10_Obj u129_Objs raws134 A135 p127.Objs, OwnO 46 kr_ref10_Slot u129_Slots raws130 A131 p127.Slots, Box b6 [u129_Slots, u129_Objs, .int .i64 p127.NS, .int .i64 p127.NO], F]) (fun Sk o' => (∀ r', o' = Brk.ret r' → some (Brk.ret r') = some o_1) ∧ ∀ _ : Unit, ∀ _ : Unit, o' = Brk.nx () → Sk [(0, v0), (2, .bool false), (3, .bool t1), (4, bp b6 0), (5, v8), (6, .int .i64 x6_1)] [Own 65 (ekI .u64) v8 qv8_7, Own 3 (ekI .i64) v164 t161, Box b16 [.int .i64 x14.What, .int .i64 x14.A, .int .i64 x14.B], OwnO 56 kr_ref10_Obj u129_Objs raws134 A135 p127.Objs, OwnO 46 kr_ref10_Slot u129_Slots raws130 A131 p127.Slots, Box b6 [u129_Slots, u129_Objs, .int .i64 p127.NS, .int .i64 p127.NO], F]) (fun _ => rfl) ?_ (m := k) (x := (0, ())) hl8 ?_
                  · clear h hl8
                    intro k x o_8 h hK8 ih8
                    obtain ⟨x12_8, _⟩ := x
                    replace h : law10_CdtPlays.l8 x14 p127 t161 (k + 1) x12_8 = some o_8 := h
                    first | rw [law10_CdtPlays.l8] at h | unfold law10_CdtPlays.l8 at h
                    refine S.seq ?_
                    refine S.seq ?_
                    refine S.region ?_
                    refine SO.v rfl (opv_move rfl) ?_
                    refine SO.v rfl (opv_move rfl) ?_
                    refine SO.v rfl (opv_lenR rfl Try.underlying41 hr165 rfl) ?_
                    refine SO.v rfl (opv_lss rfl rfl) ?_
                    refine SO.nil ?_
                    rcases bool_or (decide (x12_8 < (t161.length : Int))) with b189 | b189
                    · replace h := cond_t b189 h
                      refine S.condT rfl b189 ?_
                      refine S.skip ?_
                      refine S.seq ?_
                      refine S.block ?_
                      refine S.seq ?_
                      obtain ⟨x190, hx191, h⟩ := opt_bind h
                      obtain ⟨x192, hx193, h⟩ := opt_bind h
                      obtain ⟨r194, hr195, hc196⟩ := relR.at hrel132 hx193
                      obtain ⟨u197, hu198, hru199⟩ := hc196.sl 7 rfl
                      obtain ⟨x200, hx201, h⟩ := opt_bind h
                      refine S.draw' (Z := fun Q => ∀ (_ : Unit) (_ : Unit) (_ : Unit) (_ : Unit) (_ : Unit) (_ : Unit) (_ : Unit) (_ : Unit) (_ : Unit) (_ : Unit) (_ : Unit) (_ : Unit) (_ : Unit), Q [(12, .int .i64 x12_8), (0, v0), (2, .bool false), (3, .bool t1), (5, v8), (6, .int .i64 x6_1), (4, bp b6 0), (7, bp b16 0), (11, v164), (187, .bool (x190 != x200))] [Own 65 (ekI .u64) v8 qv8_7, Own 3 (ekI .i64) v164 t161, Box b16 [.int .i64 x14.What, .int .i64 x14.A, .int .i64 x14.B], OwnO 56 kr_ref10_Obj u129_Objs raws134 A135 p127.Objs, OwnO 46 kr_ref10_Slot u129_Slots raws130 A131 p127.Slots, Box b6 [u129_Slots, u129_Objs, .int .i64 p127.NS, .int .i64 p127.NO], F]) (T := [tS 11 (v164), tS 12 (.int .i64 x12_8), tS 4 (bp b6 0), tS 7 (bp b16 0), tE [(0, v0), (2, .bool false), (3, .bool t1), (5, v8), (6, .int .i64 x6_1)], tR (Own 65 (ekI .u64) v8 qv8_7), tR (Own 3 (ekI .i64) v164 t161), tR (Box b16 [.int .i64 x14.What, .int .i64 x14.A, .int .i64 x14.B]), tR (OwnO 56 kr_ref10_Obj u129_Objs raws134 A135 p127.Objs), tR (OwnO 46 kr_ref10_Slot u129_Slots raws130 A131 p127.Slots), tR (Box b6 [u129_Slots, u129_Objs, .int .i64 p127.NS, .int .i64 p127.NO]), tR (F), tS 171 (v164), tS 172 (.int .i64 x12_8), tS 173 (idxp v164 (x12_8.toNat * (ekI .i64).sz)), tS 174 (.int .i64 x190), tS 175 (bp b6 0), tS 176 (bp b6 0), tS 177 (bp b6 0), tS 178 (u129_Slots), tS 179 (bp b16 2), tS 180 (.int .i64 x14.B), tS 181 (idxp u129_Slots (x14.B.toNat * kr_ref10_Slot.sz)), tS 182 (idxp u129_Slots (x14.B.toNat * kr_ref10_Slot.sz + 7)), tS 183 (u197), tS 184 (.int .i64 x12_8), tS 185 (idxp u197 (x12_8.toNat * (ekI .i64).sz)), tS 186 (.int .i64 x200), tS 187 (.bool (x190 != x200))]) (D := [⟨[0], [], [12]⟩, ⟨[1], [], [13]⟩, ⟨[12, 13, 6], [], [14]⟩, ⟨[14, 6], [], [15]⟩, ⟨[2], [], [16]⟩, ⟨[16], [], [17]⟩, ⟨[17], [], [18]⟩, ⟨[18, 10], [], [19]⟩, ⟨[3], [], [20]⟩, ⟨[20, 7], [], [21]⟩, ⟨[19, 21, 9], [], [22]⟩, ⟨[22, 9], [], [23]⟩, ⟨[23, 9], [], [24]⟩, ⟨[1], [], [25]⟩, ⟨[24, 25, 9], [], [26]⟩, ⟨[26, 9], [], [27]⟩, ⟨[15, 27], [], [28]⟩]) (ini := [0, 1, 2, 3, 4, 5, 6, 7, 8, 9, 10, 11]) (fin := [1, 4, 2, 3, 0, 28, 5, 6, 7, 8, 9, 10, 11]) (bf := [[], [], [0, 1], [0, 1, 2], [], [4], [4, 5], [4, 5, 6], [], [8], [4, 5, 6, 7, 8, 9], [4, 5, 6, 7, 8, 9, 10], [4, 5, 6, 7, 8, 9, 10, 11], [], [4, 5, 6, 7, 8, 9, 10, 11, 12, 13], [4, 5, 6, 7, 8, 9, 10, 11, 12, 13, 14], [0, 1, 2, 3, 4, 5, 6, 7, 8, 9, 10, 11, 12, 13, 14, 15]]) (by kernel_rfl) (by kernel_rfl) (fun x w h1 h2 => (.cons () (.cons () (.cons () (.cons () (.cons () (.cons () (.cons () (.cons () (.cons () (.cons () (.cons () (.cons () (.nil ⟨EnvAll.of h1 ⟨rfl, rfl, rfl, rfl, rfl, rfl, rfl, rfl, rfl, trivial⟩, h2⟩)))))))))))))) (fun Q => by kernel_rfl) ⟨?_, ?_, ?_, ?_, ?_, ?_, ?_, ?_, ?_, ?_, ?_, ?_, ?_, ?_, ?_, ?_, ?_, trivial⟩ ?_
                      · rintro Fr _
                        refine SO.v rfl (opv_move rfl) ?_
                        exact SO.nilZ fun a w h1 h2 h3 h4 h5 => PZ.of h1 h3 h5 (.cons () (.cons () (.nil ⟨EnvAll.of h2 ⟨rfl, rfl, trivial⟩, h4⟩)))
                      · rintro Fr _
                        refine SO.v rfl (opv_move rfl) ?_
                        exact SO.nilZ fun a w h1 h2 h3 h4 h5 => PZ.of h1 h3 h5 (.cons () (.cons () (.nil ⟨EnvAll.of h2 ⟨rfl, rfl, trivial⟩, h4⟩)))
                      · rintro Fr _ _ _
                        refine SO.v rfl (opv_idx Try.underlying41 Try.sizeOf3 hr165 rfl rfl hx191) ?_
                        exact SO.nilZ fun a w h1 h2 h3 h4 h5 => PZ.of h1 h3 h5 (.cons () (.cons () (.cons () (.cons () (.nil ⟨EnvAll.of h2 ⟨rfl, rfl, rfl, trivial⟩, h4⟩)))))
                      · rintro Fr _ _
                        refine SO.loadI1 (j := 0) rfl Try.isAgg3 (Rd.head hr165) hx191 rfl rfl rfl rfl ?_
                        exact SO.nilZ fun a w h1 h2 h3 h4 h5 => PZ.of h1 h3 h5 (.cons () (.cons () (.cons () (.nil ⟨EnvAll.of h2 ⟨rfl, rfl, trivial⟩, h4⟩))))
                      · rintro Fr _
                        refine SO.v rfl (opv_move rfl) ?_
                        exact SO.nilZ fun a w h1 h2 h3 h4 h5 => PZ.of h1 h3 h5 (.cons () (.cons () (.nil ⟨EnvAll.of h2 ⟨rfl, rfl, trivial⟩, h4⟩)))
                      · rintro Fr _
                        refine SO.v rfl (opv_nilCheck rfl) ?_
                        exact SO.nilZ fun a w h1 h2 h3 h4 h5 => PZ.of h1 h3 h5 (.cons () (.cons () (.nil ⟨EnvAll.of h2 ⟨rfl, rfl, trivial⟩, h4⟩)))
                      · rintro Fr _
                        refine SO.v rfl (opv_fieldAddr Try.underlying50 rfl Try.sizeOf47 rfl rfl) ?_
                        exact SO.nilZ fun a w h1 h2 h3 h4 h5 => PZ.of h1 h3 h5 (.cons () (.cons () (.nil ⟨EnvAll.of h2 ⟨rfl, rfl, trivial⟩, h4⟩)))
                      · rintro Fr _ _
                        refine SO.load1 rfl Try.isAgg47 rfl rfl ?_
                        exact SO.nilZ fun a w h1 h2 h3 h4 h5 => PZ.of h1 h3 h5 (.cons () (.cons () (.cons () (.nil ⟨EnvAll.of h2 ⟨rfl, rfl, trivial⟩, h4⟩))))
                      · rintro Fr _
                        refine SO.v rfl (opv_fieldAddr Try.underlying29 rfl Try.sizeOf3 rfl rfl) ?_
                        exact SO.nilZ fun a w h1 h2 h3 h4 h5 => PZ.of h1 h3 h5 (.cons () (.cons () (.nil ⟨EnvAll.of h2 ⟨rfl, rfl, trivial⟩, h4⟩)))
                      · rintro Fr _ _
                        refine SO.load1 rfl Try.isAgg3 rfl rfl ?_
                        exact SO.nilZ fun a w h1 h2 h3 h4 h5 => PZ.of h1 h3 h5 (.cons () (.cons () (.cons () (.nil ⟨EnvAll.of h2 ⟨rfl, rfl, trivial⟩, h4⟩))))
                      · rintro Fr _ _ _
                        refine SO.v rfl (opv_idx Try.underlying47 Try.sizeOf46 hR133 rfl rfl hr195) ?_
                        exact SO.nilZ fun a w h1 h2 h3 h4 h5 => PZ.of h1 h3 h5 (.cons () (.cons () (.cons () (.cons () (.nil ⟨EnvAll.of h2 ⟨rfl, rfl, rfl, trivial⟩, h4⟩)))))
                      · rintro Fr _ _
                        refine SO.v rfl (opv_fieldIdx Try.underlying46 rfl Try.sizeOf41 hR133 hr195 rfl rfl) ?_
                        exact SO.nilZ fun a w h1 h2 h3 h4 h5 => PZ.of h1 h3 h5 (.cons () (.cons () (.cons () (.nil ⟨EnvAll.of h2 ⟨rfl, rfl, trivial⟩, h4⟩))))
                      · rintro Fr _ _
                        refine SO.loadI1 (j := 7) rfl Try.isAgg41 (Rd.head hR133) hr195 rfl rfl rfl hu198 ?_
                        exact SO.nilZ fun a w h1 h2 h3 h4 h5 => PZ.of h1 h3 h5 (.cons () (.cons () (.cons () (.nil ⟨EnvAll.of h2 ⟨rfl, rfl, trivial⟩, h4⟩))))
                      · rintro Fr _
                        refine SO.v rfl (opv_move rfl) ?_
                        exact SO.nilZ fun a w h1 h2 h3 h4 h5 => PZ.of h1 h3 h5 (.cons () (.cons () (.nil ⟨EnvAll.of h2 ⟨rfl, rfl, trivial⟩, h4⟩)))
                      · rintro Fr _ _ _
                        refine SO.v rfl (opv_idx Try.underlying41 Try.sizeOf3 hru199 rfl rfl hx201) ?_
                        exact SO.nilZ fun a w h1 h2 h3 h4 h5 => PZ.of h1 h3 h5 (.cons () (.cons () (.cons () (.cons () (.nil ⟨EnvAll.of h2 ⟨rfl, rfl, rfl, trivial⟩, h4⟩)))))
                      · rintro Fr _ _
                        refine SO.loadI1 (j := 0) rfl Try.isAgg3 (Rd.head (Rd.pool hru199)) hx201 rfl rfl rfl rfl ?_
                        exact SO.nilZ fun a w h1 h2 h3 h4 h5 => PZ.of h1 h3 h5 (.cons () (.cons () (.cons () (.nil ⟨EnvAll.of h2 ⟨rfl, rfl, trivial⟩, h4⟩))))
                      · rintro Fr _ _
                        refine SO.v rfl (opv_neq rfl rfl) ?_
                        exact SO.nilZ fun a w h1 h2 h3 h4 h5 => PZ.of h1 h3 h5 (.cons () (.cons () (.cons () (.nil ⟨EnvAll.of h2 ⟨rfl, rfl, rfl, trivial⟩, h4⟩))))
                      rintro _ _ _ _ _ _ _ _ _ _ _ _ _
                      refine S.to (ρ' := [(12, .int .i64 x12_8), (0, v0), (2, .bool false), (3, .bool t1), (5, v8), (6, .int .i64 x6_1), (4, bp b6 0), (7, bp b16 0), (11, v164), (187, .bool (x190 != x200))]) ⟨rfl, rfl, rfl, rfl, rfl, rfl, rfl, rfl, rfl, rfl, trivial⟩ ?_
                      rcases bool_or (x190 != x200) with b202 | b202
                      · replace h := cond_t b202 h
                        refine S.condT rfl b202 ?_
                        refine S.seq ?_
                        refine S.region ?_
                        refine SO.v rfl (opv_assign rfl) ?_
                        refine SO.nil ?_
                        refine S.to (ρ' := [(2, .bool false)]) ⟨rfl, trivial⟩ ?_
                        cases h
                        replace h := hK8.1 _ rfl
                        cases h
                        replace h := hK1.1 _ rfl
                        cases h
                        refine S.b3 ?_
                        refine S.closeR ?_
                        refine S.b4 ?_
                        refine S.closeR ?_
                        refine S.drop ?_
                        refine S.drop ?_
                        refine S.drop ?_
                        refine S.drop ?_
                        refine S.drop ?_
                        refine S.drop ?_
                        exact S.ret1 Try.func3 rfl rfl (fun w hs hk => hR w _ _ ⟨rfl, rfl⟩ hs hk)
                      · replace h := cond_f b202 h
                        refine S.condF rfl b202 ?_
                        refine S.skip ?_
                        refine S.inBlock ?_
                        refine S.region ?_
                        refine SO.v rfl (opv_move rfl) ?_
                        refine SO.v rfl (opv_add rfl rfl) ?_
                        refine SO.v rfl (opv_assign rfl) ?_
                        refine SO.nil ?_
                        refine S.b6 ?_
                        refine S.b6 ?_
                        refine S.b6 ?_
                        refine S.b6 ?_
                        refine S.b6 ?_
                        refine S.b6 ?_
                        refine S.b6 ?_
                        refine S.to ?_ (ih8 (w64 (x12_8 + 1), ()) h)
                        exact ⟨rfl, rfl, rfl, rfl, rfl, rfl, rfl, rfl, rfl, trivial⟩
                    · replace h := cond_f b189 h
                      refine S.condF rfl b189 ?_
                      refine S.exit rfl ?_
                      cases h
                      refine S.b6 ?_
                      refine S.b6 ?_
                      refine S.b6 ?_
                      refine S.b6 ?_
                      refine S.b6 ?_
                      refine S.b6 ?_
                      refine S.b6 ?_
                      refine S.to ?_ (hK8.2 () () rfl)
                      exact ⟨rfl, rfl, rfl, rfl, rfl, rfl, trivial⟩
                  refine ⟨fun r' e' => ?_, ?_⟩
                  · subst e'
                    have h9 := Brk.of_ret h
                    exact h9
                  rintro _ _ e'
                  subst e'
                  replace h := Brk.of_nx h
                  refine S.inBlock ?_
                  refine S.region ?_
                  refine SO.v rfl (opv_move rfl) ?_
                  refine SO.v rfl (opv_add rfl rfl) ?_
                  refine SO.v rfl (opv_assign rfl) ?_
                  refine SO.nil ?_
                  refine S.b3 ?_
                  refine S.closeR ?_
                  refine S.b4 ?_
                  refine S.closeR ?_
                  refine S.b3 ?_
                  refine S.drop ?_
                  refine S.b3 ?_
                  refine S.drop ?_
                  refine S.b4 ?_
                  refine S.b4 ?_
                  refine S.b4 ?_
                  refine S.b3 ?_
                  refine S.b4 ?_
                  refine S.to ?_ (ih1 ((w64 (x6_1 + 1), p127.Slots, p127.Objs, p127.NS, p127.NO, qv8_7), (u129_Slots, u129_Objs)) h)
                  exact ⟨rfl, rfl, rfl, rfl, rfl, rfl, trivial⟩
        · replace h := cond_f b23 h
          refine S.condF rfl b23 ?_
          refine S.seq ?_
          refine S.region ?_
          refine SO.v rfl (opv_eql rfl rfl) ?_
          refine SO.v rfl (opv_assign rfl) ?_
          refine SO.nil ?_
          obtain ⟨⟨j9_9, j10_9, y6_0_9, y6_1_9, y6_2_9, y6_3_9, qv8_9⟩, hC9, hJ9⟩ := opt_bind h
          clear h
          refine S.cutP (G := (Value × Value)) (fun _ => True) (fun x => match x with | (vy6_0_9, vy6_1_9) => [(0, v0), (2, .bool false), (3, .bool t1), (4, bp b6 0), (5, v8), (6, .int .i64 x6_1), (7, bp b16 0), (8, .bool ((((decide (0 ≤ x14.A)) && (decide (x14.A < 96))) && (decide (0 ≤ x14.B))) && (decide (x14.B < 96)))), (9, .int .i64 j9_9), (10, errV 53 j10_9)]) (fun x => match x with | (vy6_0_9, vy6_1_9) => [OwnR 56 kr_ref10_Obj vy6_1_9 y6_1_9, OwnR 46 kr_ref10_Slot vy6_0_9 y6_0_9, Box b16 [.int .i64 x14.What, .int .i64 x14.A, .int .i64 x14.B], Own 65 (ekI .u64) v8 qv8_9, Box b6 [vy6_0_9, vy6_1_9, .int .i64 y6_2_9, .int .i64 y6_3_9], F]) (fun hk9 => ?_) ?_
          · replace h := hC9
            rcases bool_or (t20 == 2) with b204 | b204
            · replace h := cond_t b204 h
              refine S.condT rfl b204 ?_
              refine S.seq ?_
              refine S.region ?_
              refine SO.v rfl (opv_move rfl) ?_
              refine SO.v rfl (opv_iface Try.underlying27 rfl rfl) ?_
              refine SO.v rfl (opv_fieldAddr Try.underlying29 rfl Try.sizeOf3 rfl rfl) ?_
              refine SO.load1 rfl Try.isAgg3 rfl rfl ?_
              obtain ⟨⟨t205, s207⟩, ht206, h⟩ := opt_bind h
              refine SO.b1 ?_
              refine SO.call (pre := [(plainV v8).rep _]) rfl Try.call11 rfl rfl rfl (cdt_Unlink.ct (plainV v8) _ _ _ _ ht206) trivial ?_
              rintro _ _ ⟨rfl, rfl⟩
              refine headEq (plainV_rep _ _) ?_
              refine SO.rd fun hr208 => ?_
              refine SO.v rfl (opv_assign rfl) ?_
              refine SO.nil ?_
              refine S.to (ρ' := [(0, v0), (2, .bool false), (3, .bool t1), (4, bp b6 0), (5, v8), (6, .int .i64 x6_1), (7, bp b16 0), (8, .bool ((((decide (0 ≤ x14.A)) && (decide (x14.A < 96))) && (decide (0 ≤ x14.B))) && (decide (x14.B < 96)))), (10, errV 53 t205)]) ⟨rfl, rfl, rfl, rfl, rfl, rfl, rfl, rfl, rfl, trivial⟩ ?_
              refine S.region ?_
              refine SO.v rfl (opv_move rfl) ?_
              refine SO.v rfl (opv_fieldAddr Try.underlying29 rfl Try.sizeOf3 rfl rfl) ?_
              refine SO.b1 ?_
              refine SO.load1 rfl Try.isAgg3 rfl rfl ?_
              obtain ⟨⟨t209, p210⟩, ht211, h⟩ := opt_bind h
              refine SO.b2 ?_
              refine SO.b3 ?_
              refine SO.b4 ?_
              have ct213 := ref10_State_Unlink.ct _ b6 vy6_0_1 vy6_1_1 _ _ _ _ ht211
              dsimp only at ct213
              refine SO.call (pre := [Box _ _, OwnR _ _ _ _, OwnR _ _ _ _]) rfl Try.call12 rfl rfl rfl ct213 trivial ?_
              rintro _ _ ⟨u212_Slots, u212_Objs, rfl, rfl⟩
              refine SO.v rfl (opv_assign rfl) ?_
              refine SO.nil ?_
              cases h
              refine S.b5 ?_
              refine S.b1 ?_
              refine S.b5 ?_
              refine S.b5 ?_
              refine S.b4 ?_
              refine S.b5 ?_
              refine S.to ?_ (hk9 (u212_Slots, u212_Objs) trivial)
              exact ⟨rfl, rfl, rfl, rfl, rfl, rfl, rfl, rfl, rfl, rfl, trivial⟩
            · replace h := cond_f b204 h
              refine S.condF rfl b204 ?_
              refine S.seq ?_
              refine S.region ?_
              refine SO.v rfl (opv_move rfl) ?_
              refine SO.v rfl (opv_iface Try.underlying27 rfl rfl) ?_
              refine SO.v rfl (opv_fieldAddr Try.underlying29 rfl Try.sizeOf3 rfl rfl) ?_
              refine SO.load1 rfl Try.isAgg3 rfl rfl ?_
              refine SO.v rfl (opv_fieldAddr Try.underlying29 rfl Try.sizeOf3 rfl rfl) ?_
              refine SO.load1 rfl Try.isAgg3 rfl rfl ?_
              obtain ⟨⟨t214, s216⟩, ht215, h⟩ := opt_bind h
              refine SO.b1 ?_
              refine SO.call (pre := [(plainV v8).rep _]) rfl Try.call13 rfl rfl rfl (cdt_Replace.ct (plainV v8) _ _ _ _ _ _ ht215) trivial ?_
              rintro _ _ ⟨rfl, rfl⟩
              refine headEq (plainV_rep _ _) ?_
              refine SO.rd fun hr217 => ?_
              refine SO.v rfl (opv_assign rfl) ?_
              refine SO.nil ?_
              refine S.to (ρ' := [(0, v0), (2, .bool false), (3, .bool t1), (4, bp b6 0), (5, v8), (6, .int .i64 x6_1), (7, bp b16 0), (8, .bool ((((decide (0 ≤ x14.A)) && (decide (x14.A < 96))) && (decide (0 ≤ x14.B))) && (decide (x14.B < 96)))), (10, errV 53 t214)]) ⟨rfl, rfl, rfl, rfl, rfl, rfl, rfl, rfl, rfl, trivial⟩ ?_
              refine S.region ?_
              refine SO.v rfl (opv_move rfl) ?_
              refine SO.v rfl (opv_fieldAddr Try.underlying29 rfl Try.sizeOf3 rfl rfl) ?_
              refine SO.b1 ?_
              refine SO.load1 rfl Try.isAgg3 rfl rfl ?_
              refine SO.v rfl (opv_fieldAddr Try.underlying29 rfl Try.sizeOf3 rfl rfl) ?_
              refine SO.load1 rfl Try.isAgg3 rfl rfl ?_
              obtain ⟨⟨t218, p219⟩, ht220, h⟩ := opt_bind h
              refine SO.b2 ?_
              refine SO.b3 ?_
              refine SO.b4 ?_
              have ct222 := ref10_State_Replace.ct _ b6 vy6_0_1 vy6_1_1 _ _ _ _ _ ht220
              dsimp only at ct222
              refine SO.call (pre := [Box _ _, OwnR _ _ _ _, OwnR _ _ _ _]) rfl Try.call14 rfl rfl rfl ct222 trivial ?_
              rintro _ _ ⟨u221_Slots, u221_Objs, rfl, rfl⟩
              refine SO.v rfl (opv_assign rfl) ?_
              refine SO.nil ?_
              cases h
              refine S.b5 ?_
              refine S.b1 ?_
              refine S.b5 ?_
              refine S.b5 ?_
              refine S.b4 ?_
              refine S.b5 ?_
              refine S.to ?_ (hk9 (u221_Slots, u221_Objs) trivial)
              exact ⟨rfl, rfl, rfl, rfl, rfl, rfl, rfl, rfl, rfl, rfl, trivial⟩
          rintro ⟨vy6_0_9, vy6_1_9⟩ -
          replace h := hJ9
          refine S.b3 ?_
          refine S.rd fun hr223 => ?_
          refine S.inBlock ?_
          refine S.seq ?_
          refine S.seq ?_
          refine S.b1 ?_
          refine S.openR fun raws224 A225 hrel226 hR227 => ?_
          refine S.b2 ?_
          refine S.openR fun raws228 A229 hrel230 hR231 => ?_
          obtain ⟨⟨j127_10, qv8_10⟩, hC10, hJ10⟩ := opt_bind h
          clear h
          refine S.cutP (G := Unit) (fun _ => True) (fun _ => [(0, v0), (2, .bool false), (3, .bool t1), (4, bp b6 0), (5, v8), (6, .int .i64 x6_1), (7, bp b16 0), (8, .bool ((((decide (0 ≤ x14.A)) && (decide (x14.A < 96))) && (decide (0 ≤ x14.B))) && (decide (x14.B < 96)))), (127, .bool j127_10)]) (fun _ => [OwnO 46 kr_ref10_Slot vy6_0_9 raws228 A229 y6_0_9, OwnO 56 kr_ref10_Obj vy6_1_9 raws224 A225 y6_1_9, Own 65 (ekI .u64) v8 qv8_10, Box b16 [.int .i64 x14.What, .int .i64 x14.A, .int .i64 x14.B], Box b6 [vy6_0_9, vy6_1_9, .int .i64 y6_2_9, .int .i64 y6_3_9], F]) (fun hk10 => ?_) ?_
          · replace h := hC10
            obtain ⟨t232, ht233, h⟩ := opt_bind h
            rcases bool_or (t232 != j9_9) with b234 | b234
            · replace h := cond_t b234 h
              refine S.draw' (Z := fun Q => ∀ (_ : Unit) (_ : Unit) (_ : Unit) (_ : Unit) (_ : Unit) (_ : Unit) (_ : Unit) (_ : Unit) (_ : Unit) (_ : Unit) (_ : Unit), Q [(0, v0), (2, .bool false), (3, .bool t1), (6, .int .i64 x6_1), (8, .bool ((((decide (0 ≤ x14.A)) && (decide (x14.A < 96))) && (decide (0 ≤ x14.B))) && (decide (x14.B < 96)))), (4, bp b6 0), (5, v8), (7, bp b16 0), (127, .bool true)] [OwnO 46 kr_ref10_Slot vy6_0_9 raws228 A229 y6_0_9, OwnO 56 kr_ref10_Obj vy6_1_9 raws224 A225 y6_1_9, Own 65 (ekI .u64) v8 qv8_9, Box b16 [.int .i64 x14.What, .int .i64 x14.A, .int .i64 x14.B], Box b6 [vy6_0_9, vy6_1_9, .int .i64 y6_2_9, .int .i64 y6_3_9], F]) (T := [tS 10 (errV 53 j10_9), tS 9 (.int .i64 j9_9), tS 5 (v8), tS 4 (bp b6 0), tS 7 (bp b16 0), tE [(0, v0), (2, .bool false), (3, .bool t1), (6, .int .i64 x6_1), (8, .bool ((((decide (0 ≤ x14.A)) && (decide (x14.A < 96))) && (decide (0 ≤ x14.B))) && (decide (x14.B < 96))))], tR (OwnO 46 kr_ref10_Slot vy6_0_9 raws228 A229 y6_0_9), tR (OwnO 56 kr_ref10_Obj vy6_1_9 raws224 A225 y6_1_9), tR (Own 65 (ekI .u64) v8 qv8_9), tR (Box b16 [.int .i64 x14.What, .int .i64 x14.A, .int .i64 x14.B]), tR (Box b6 [vy6_0_9, vy6_1_9, .int .i64 y6_2_9, .int .i64 y6_3_9]), tR (F), tS 105 (errV 53 j10_9), tS 106 (.int .i64 t232), tS 107 (.int .i64 j9_9), tS 108 (.bool (t232 != j9_9)), tS 109 (.bool (t232 != j9_9)), tS 110 (undef), tS 111 (undef), tS 112 (undef), tS 113 (undef), tS 114 (undef), tS 115 (.bool true), tS 116 (.bool true), tS 117 (undef), tS 118 (undef), tS 119 (undef), tS 120 (undef), tS 121 (undef), tS 122 (undef), tS 123 (undef), tS 124 (undef), tS 125 (undef), tS 126 (undef), tS 127 (.bool true)]) (D := [⟨[0], [], [12]⟩, ⟨[12], [], [13]⟩, ⟨[1], [], [14]⟩, ⟨[13, 14], [], [15]⟩, ⟨[15], [], [16]⟩, ⟨[16], [], [17]⟩, ⟨[16], [], [18]⟩, ⟨[16], [], [19]⟩, ⟨[16], [], [20]⟩, ⟨[16], [], [21]⟩, ⟨[16, 21], [], [22]⟩, ⟨[22], [], [23]⟩, ⟨[23], [], [24]⟩, ⟨[23], [], [25]⟩, ⟨[23], [], [26]⟩, ⟨[23], [], [27]⟩, ⟨[23], [], [28]⟩, ⟨[23], [], [29]⟩, ⟨[23], [], [30]⟩, ⟨[23], [], [31]⟩, ⟨[23], [], [32]⟩, ⟨[23], [], [33]⟩, ⟨[23, 33], [], [34]⟩]) (ini := [0, 1, 2, 3, 4, 5, 6, 7, 8, 9, 10, 11]) (fin := [5, 3, 2, 4, 34, 6, 7, 8, 9, 10, 11]) (bf := [[], [0], [], [0, 1, 2], [0, 1, 2, 3], [0, 1, 2, 3, 4], [0, 1, 2, 3, 4], [0, 1, 2, 3, 4, 6], [0, 1, 2, 3, 4, 5, 6, 7], [0, 1, 2, 3, 4, 5, 6, 7, 8], [0, 1, 2, 3, 4, 5, 6, 7, 8, 9], [0, 1, 2, 3, 4, 5, 6, 7, 8, 9, 10], [0, 1, 2, 3, 4, 5, 6, 7, 8, 9, 10, 11], [0, 1, 2, 3, 4, 5, 6, 7, 8, 9, 10, 11, 12], [0, 1, 2, 3, 4, 5, 6, 7, 8, 9, 10, 11], [0, 1, 2, 3, 4, 5, 6, 7, 8, 9, 10, 11, 14], [0, 1, 2, 3, 4, 5, 6, 7, 8, 9, 10, 11, 12, 13, 14, 15], [0, 1, 2, 3, 4, 5, 6, 7, 8, 9, 10, 11], [0, 1, 2, 3, 4, 5, 6, 7, 8, 9, 10, 11], [0, 1, 2, 3, 4, 5, 6, 7, 8, 9, 10, 11, 18], [0, 1, 2, 3, 4, 5, 6, 7, 8, 9, 10, 11, 12, 13, 14, 15, 16, 17, 18, 19], [0, 1, 2, 3, 4, 5, 6, 7, 8, 9, 10, 11, 12, 13, 14, 15, 16, 17, 18, 19, 20], [0, 1, 2, 3, 4, 5, 6, 7, 8, 9, 10, 11, 12, 13, 14, 15, 16, 17, 18, 19, 20, 21]]) (by kernel_rfl) (by kernel_rfl) (fun x w h1 h2 => (.cons () (.cons () (.cons () (.cons () (.cons () (.cons () (.cons () (.cons () (.cons () (.cons () (.cons () (.cons () (.nil ⟨EnvAll.of h1 ⟨rfl, rfl, rfl, rfl, rfl, rfl, rfl, rfl, rfl, rfl, trivial⟩, h2⟩)))))))))))))) (fun Q => by kernel_rfl) ⟨?_, ?_, ?_, ?_, ?_, ?_, ?_, ?_, ?_, ?_, ?_, ?_, ?_, ?_, ?_, ?_, ?_, ?_, ?_, ?_, ?_, ?_, ?_, trivial⟩ ?_
              · rintro Fr _
                refine SO.v rfl (opv_move rfl) ?_
                exact SO.nilZ fun a w h1 h2 h3 h4 h5 => PZ.of h1 h3 h5 (.cons () (.cons () (.nil ⟨EnvAll.of h2 ⟨rfl, rfl, trivial⟩, h4⟩)))
              · rintro Fr _
                refine SO.call (pre := []) rfl Try.call15 rfl rfl rfl (law00_Code.ct _ _ _ ht233) trivial ?_
                rintro _ _ ⟨rfl, rfl⟩
                exact SO.nilZ fun a w h1 h2 h3 h4 h5 => PZ.of h1 h3 h5 (.cons () (.cons () (.nil ⟨EnvAll.of h2 ⟨rfl, rfl, trivial⟩, h4⟩)))
              · rintro Fr _
                refine SO.v rfl (opv_move rfl) ?_
                exact SO.nilZ fun a w h1 h2 h3 h4 h5 => PZ.of h1 h3 h5 (.cons () (.cons () (.nil ⟨EnvAll.of h2 ⟨rfl, rfl, trivial⟩, h4⟩)))
              · rintro Fr _ _
                refine SO.v rfl (opv_neq rfl rfl) ?_
                exact SO.nilZ fun a w h1 h2 h3 h4 h5 => PZ.of h1 h3 h5 (.cons () (.cons () (.cons () (.nil ⟨EnvAll.of h2 ⟨rfl, rfl, rfl, trivial⟩, h4⟩))))
              · rintro Fr _
                refine SO.v rfl (opv_move rfl) ?_
                exact SO.nilZ fun a w h1 h2 h3 h4 h5 => PZ.of h1 h3 h5 (.cons () (.cons () (.nil ⟨EnvAll.of h2 ⟨rfl, rfl, trivial⟩, h4⟩)))
              · rintro Fr _
                refine SO.passF rfl rfl rfl b234 rfl rfl ?_
                exact SO.nilZ fun a w h1 h2 h3 h4 h5 => PZ.of h1 h3 h5 (.cons () (.cons () (.nil ⟨EnvAll.of h2 ⟨rfl, rfl, trivial⟩, h4⟩)))
              · rintro Fr _
                refine SO.passF rfl rfl rfl b234 rfl rfl ?_
                exact SO.nilZ fun a w h1 h2 h3 h4 h5 => PZ.of h1 h3 h5 (.cons () (.cons () (.nil ⟨EnvAll.of h2 ⟨rfl, rfl, trivial⟩, h4⟩)))
              · rintro Fr _
                refine SO.passF rfl rfl rfl b234 rfl rfl ?_
                exact SO.nilZ fun a w h1 h2 h3 h4 h5 => PZ.of h1 h3 h5 (.cons () (.cons () (.nil ⟨EnvAll.of h2 ⟨rfl, rfl, trivial⟩, h4⟩)))
              · rintro Fr _
                refine SO.passF rfl rfl rfl b234 rfl rfl ?_
                exact SO.nilZ fun a w h1 h2 h3 h4 h5 => PZ.of h1 h3 h5 (.cons () (.cons () (.nil ⟨EnvAll.of h2 ⟨rfl, rfl, trivial⟩, h4⟩)))
              · rintro Fr _
                refine SO.passF rfl rfl rfl b234 rfl rfl ?_
                exact SO.nilZ fun a w h1 h2 h3 h4 h5 => PZ.of h1 h3 h5 (.cons () (.cons () (.nil ⟨EnvAll.of h2 ⟨rfl, rfl, trivial⟩, h4⟩)))
              · rintro Fr _ _
                refine SO.v rfl (opv_pick_t' b234 rfl rfl) ?_
                exact SO.nilZ fun a w h1 h2 h3 h4 h5 => PZ.of h1 h3 h5 (.cons () (.cons () (.cons () (.nil ⟨EnvAll.of h2 ⟨rfl, rfl, rfl, trivial⟩, h4⟩))))
              · rintro Fr _
                refine SO.v rfl (opv_move rfl) ?_
                exact SO.nilZ fun a w h1 h2 h3 h4 h5 => PZ.of h1 h3 h5 (.cons () (.cons () (.nil ⟨EnvAll.of h2 ⟨rfl, rfl, trivial⟩, h4⟩)))
              · rintro Fr _
                refine SO.passF rfl rfl rfl rfl rfl rfl ?_
                exact SO.nilZ fun a w h1 h2 h3 h4 h5 => PZ.of h1 h3 h5 (.cons () (.cons () (.nil ⟨EnvAll.of h2 ⟨rfl, rfl, trivial⟩, h4⟩)))
              · rintro Fr _
                refine SO.passF rfl rfl rfl rfl rfl rfl ?_
                exact SO.nilZ fun a w h1 h2 h3 h4 h5 => PZ.of h1 h3 h5 (.cons () (.cons () (.nil ⟨EnvAll.of h2 ⟨rfl, rfl, trivial⟩, h4⟩)))
              · rintro Fr _
                refine SO.passF rfl rfl rfl rfl rfl rfl ?_
                exact SO.nilZ fun a w h1 h2 h3 h4 h5 => PZ.of h1 h3 h5 (.cons () (.cons () (.nil ⟨EnvAll.of h2 ⟨rfl, rfl, trivial⟩, h4⟩)))
              · rintro Fr _
                refine SO.passF rfl rfl rfl rfl rfl rfl ?_
                exact SO.nilZ fun a w h1 h2 h3 h4 h5 => PZ.of h1 h3 h5 (.cons () (.cons () (.nil ⟨EnvAll.of h2 ⟨rfl, rfl, trivial⟩, h4⟩)))
              · rintro Fr _
                refine SO.passF rfl rfl rfl rfl rfl rfl ?_
                exact SO.nilZ fun a w h1 h2 h3 h4 h5 => PZ.of h1 h3 h5 (.cons () (.cons () (.nil ⟨EnvAll.of h2 ⟨rfl, rfl, trivial⟩, h4⟩)))
              · rintro Fr _
                refine SO.passF rfl rfl rfl rfl rfl rfl ?_
                exact SO.nilZ fun a w h1 h2 h3 h4 h5 => PZ.of h1 h3 h5 (.cons () (.cons () (.nil ⟨EnvAll.of h2 ⟨rfl, rfl, trivial⟩, h4⟩)))
              · rintro Fr _
                refine SO.passF rfl rfl rfl rfl rfl rfl ?_
                exact SO.nilZ fun a w h1 h2 h3 h4 h5 => PZ.of h1 h3 h5 (.cons () (.cons () (.nil ⟨EnvAll.of h2 ⟨rfl, rfl, trivial⟩, h4⟩)))
              · rintro Fr _
                refine SO.passF rfl rfl rfl rfl rfl rfl ?_
                exact SO.nilZ fun a w h1 h2 h3 h4 h5 => PZ.of h1 h3 h5 (.cons () (.cons () (.nil ⟨EnvAll.of h2 ⟨rfl, rfl, trivial⟩, h4⟩)))
              · rintro Fr _
                refine SO.passF rfl rfl rfl rfl rfl rfl ?_
                exact SO.nilZ fun a w h1 h2 h3 h4 h5 => PZ.of h1 h3 h5 (.cons () (.cons () (.nil ⟨EnvAll.of h2 ⟨rfl, rfl, trivial⟩, h4⟩)))
              · rintro Fr _
                refine SO.passF rfl rfl rfl rfl rfl rfl ?_
                exact SO.nilZ fun a w h1 h2 h3 h4 h5 => PZ.of h1 h3 h5 (.cons () (.cons () (.nil ⟨EnvAll.of h2 ⟨rfl, rfl, trivial⟩, h4⟩)))
              · rintro Fr _ _
                refine SO.v rfl (opv_pick_tt rfl rfl) ?_
                exact SO.nilZ fun a w h1 h2 h3 h4 h5 => PZ.of h1 h3 h5 (.cons () (.cons () (.cons () (.nil ⟨EnvAll.of h2 ⟨rfl, rfl, rfl, trivial⟩, h4⟩))))
              rintro _ _ _ _ _ _ _ _ _ _ _
              refine S.to (ρ' := [(0, v0), (2, .bool false), (3, .bool t1), (6, .int .i64 x6_1), (8, .bool ((((decide (0 ≤ x14.A)) && (decide (x14.A < 96))) && (decide (0 ≤ x14.B))) && (decide (x14.B < 96)))), (4, bp b6 0), (5, v8), (7, bp b16 0), (127, .bool true)]) ⟨rfl, rfl, rfl, rfl, rfl, rfl, rfl, rfl, rfl, trivial⟩ ?_
              cases h
              refine S.b5 ?_
              refine S.b5 ?_
              refine S.b5 ?_
              refine S.b5 ?_
              refine S.b5 ?_
              refine S.b5 ?_
              refine S.to ?_ (hk10 () trivial)
              exact ⟨rfl, rfl, rfl, rfl, rfl, rfl, rfl, rfl, rfl, trivial⟩
            · replace h := cond_f b234 h
              obtain ⟨t235, ht236, h⟩ := opt_bind h
              obtain ⟨t241, ht242, h⟩ := opt_bind h
              rcases bool_or (!t241) with b243 | b243
              · replace h := cond_t b243 h
                refine S.draw' (Z := fun Q => ∀ (_ : Unit) (_ : Unit) (_ : Unit) (_ : Unit) (_ : Unit) (v237 : Value) (_ : Unit) (_ : Unit) (_ : Unit) (_ : Unit) (_ : Unit) (_ : Unit), Q [(0, v0), (2, .bool false), (3, .bool t1), (6, .int .i64 x6_1), (8, .bool ((((decide (0 ≤ x14.A)) && (decide (x14.A < 96))) && (decide (0 ≤ x14.B))) && (decide (x14.B < 96)))), (4, bp b6 0), (5, v8), (7, bp b16 0), (127, .bool true), (112, v237)] [Own 65 (ekI .u64) v237 t235, OwnO 46 kr_ref10_Slot vy6_0_9 raws228 A229 y6_0_9, OwnO 56 kr_ref10_Obj vy6_1_9 raws224 A225 y6_1_9, Own 65 (ekI .u64) v8 qv8_9, Box b16 [.int .i64 x14.What, .int .i64 x14.A, .int .i64 x14.B], Box b6 [vy6_0_9, vy6_1_9, .int .i64 y6_2_9, .int .i64 y6_3_9], F]) (T := [tS 10 (errV 53 j10_9), tS 9 (.int .i64 j9_9), tS 5 (v8), tS 4 (bp b6 0), tS 7 (bp b16 0), tE [(0, v0), (2, .bool false), (3, .bool t1), (6, .int .i64 x6_1), (8, .bool ((((decide (0 ≤ x14.A)) && (decide (x14.A < 96))) && (decide (0 ≤ x14.B))) && (decide (x14.B < 96))))], tR (OwnO 46 kr_ref10_Slot vy6_0_9 raws228 A229 y6_0_9), tR (OwnO 56 kr_ref10_Obj vy6_1_9 raws224 A225 y6_1_9), tR (Own 65 (ekI .u64) v8 qv8_9), tR (Box b16 [.int .i64 x14.What, .int .i64 x14.A, .int .i64 x14.B]), tR (Box b6 [vy6_0_9, vy6_1_9, .int .i64 y6_2_9, .int .i64 y6_3_9]), tR (F), tS 105 (errV 53 j10_9), tS 106 (.int .i64 t232), tS 107 (.int .i64 j9_9), tS 108 (.bool (t232 != j9_9)), tS 109 (.bool (t232 != j9_9)), tS 110 (v8), tS 111 (bp b6 0), ⟨Value, [112], (fun v237 => [(112, v237)]), (fun v237 => [Own 65 (ekI .u64) v237 t235]), fun _ => rfl⟩, tS 113 (.bool t241), tS 114 (.bool (!t241)), tS 115 (.bool (!t241)), tS 116 (.bool (!t241)), tS 117 (undef), tS 118 (undef), tS 119 (undef), tS 120 (undef), tS 121 (undef), tS 122 (undef), tS 123 (undef), tS 124 (undef), tS 125 (undef), tS 126 (undef), tS 127 (.bool true)]) (D := [⟨[0], [], [12]⟩, ⟨[12], [], [13]⟩, ⟨[1], [], [14]⟩, ⟨[13, 14], [], [15]⟩, ⟨[15], [], [16]⟩, ⟨[2, 16], [], [17]⟩, ⟨[3, 16], [], [18]⟩, ⟨[16, 18, 10, 6, 7], [], [19]⟩, ⟨[16, 17, 19, 8], [], [20]⟩, ⟨[16, 20], [], [21]⟩, ⟨[16, 21], [], [22]⟩, ⟨[22], [], [23]⟩, ⟨[23], [], [24]⟩, ⟨[23], [], [25]⟩, ⟨[23], [], [26]⟩, ⟨[23], [], [27]⟩, ⟨[23], [], [28]⟩, ⟨[23], [], [29]⟩, ⟨[23], [], [30]⟩, ⟨[23], [], [31]⟩, ⟨[23], [], [32]⟩, ⟨[23], [], [33]⟩, ⟨[23, 33], [], [34]⟩]) (ini := [0, 1, 2, 3, 4, 5, 6, 7, 8, 9, 10, 11]) (fin := [5, 3, 2, 4, 34, 19, 6, 7, 8, 9, 10, 11]) (bf := [[], [0], [], [0, 1, 2], [0, 1, 2, 3], [0, 1, 2, 3, 4], [0, 1, 2, 3, 4], [0, 1, 2, 3, 4, 6], [0, 1, 2, 3, 4, 5, 6, 7], [0, 1, 2, 3, 4, 5, 6, 7, 8], [0, 1, 2, 3, 4, 5, 6, 7, 8, 9], [0, 1, 2, 3, 4, 5, 6, 7, 8, 9, 10], [0, 1, 2, 3, 4, 5, 6, 7, 8, 9, 10, 11], [0, 1, 2, 3, 4, 5, 6, 7, 8, 9, 10, 11, 12], [0, 1, 2, 3, 4, 5, 6, 7, 8, 9, 10, 11], [0, 1, 2, 3, 4, 5, 6, 7, 8, 9, 10, 11, 14], [0, 1, 2, 3, 4, 5, 6, 7, 8, 9, 10, 11, 12, 13, 14, 15], [0, 1, 2, 3, 4, 5, 6, 7, 8, 9, 10, 11], [0, 1, 2, 3, 4, 5, 6, 7, 8, 9, 10, 11], [0, 1, 2, 3, 4, 5, 6, 7, 8, 9, 10, 11, 18], [0, 1, 2, 3, 4, 5, 6, 7, 8, 9, 10, 11, 12, 13, 14, 15, 16, 17, 18, 19], [0, 1, 2, 3, 4, 5, 6, 7, 8, 9, 10, 11, 12, 13, 14, 15, 16, 17, 18, 19, 20], [0, 1, 2, 3, 4, 5, 6, 7, 8, 9, 10, 11, 12, 13, 14, 15, 16, 17, 18, 19, 20, 21]]) (by kernel_rfl) (by kernel_rfl) (fun x w h1 h2 => (.cons () (.cons () (.cons () (.cons () (.cons () (.cons () (.cons () (.cons () (.cons () (.cons () (.cons () (.cons () (.nil ⟨EnvAll.of h1 ⟨rfl, rfl, rfl, rfl, rfl, rfl, rfl, rfl, rfl, rfl, trivial⟩, h2⟩)))))))))))))) (fun Q => by kernel_rfl) ⟨?_, ?_, ?_, ?_, ?_, ?_, ?_, ?_, ?_, ?_, ?_, ?_, ?_, ?_, ?_, ?_, ?_, ?_, ?_, ?_, ?_, ?_, ?_, trivial⟩ ?_
                · rintro Fr _
                  refine SO.v rfl (opv_move rfl) ?_
                  exact SO.nilZ fun a w h1 h2 h3 h4 h5 => PZ.of h1 h3 h5 (.cons () (.cons () (.nil ⟨EnvAll.of h2 ⟨rfl, rfl, trivial⟩, h4⟩)))
                · rintro Fr _
                  refine SO.call (pre := []) rfl Try.call15 rfl rfl rfl (law00_Code.ct _ _ _ ht233) trivial ?_
                  rintro _ _ ⟨rfl, rfl⟩
                  exact SO.nilZ fun a w h1 h2 h3 h4 h5 => PZ.of h1 h3 h5 (.cons () (.cons () (.nil ⟨EnvAll.of h2 ⟨rfl, rfl, trivial⟩, h4⟩)))
                · rintro Fr _
                  refine SO.v rfl (opv_move rfl) ?_
                  exact SO.nilZ fun a w h1 h2 h3 h4 h5 => PZ.of h1 h3 h5 (.cons () (.cons () (.nil ⟨EnvAll.of h2 ⟨rfl, rfl, trivial⟩, h4⟩)))
                · rintro Fr _ _
                  refine SO.v rfl (opv_neq rfl rfl) ?_
                  exact SO.nilZ fun a w h1 h2 h3 h4 h5 => PZ.of h1 h3 h5 (.cons () (.cons () (.cons () (.nil ⟨EnvAll.of h2 ⟨rfl, rfl, rfl, trivial⟩, h4⟩))))
                · rintro Fr _
                  refine SO.v rfl (opv_move rfl) ?_
                  exact SO.nilZ fun a w h1 h2 h3 h4 h5 => PZ.of h1 h3 h5 (.cons () (.cons () (.nil ⟨EnvAll.of h2 ⟨rfl, rfl, trivial⟩, h4⟩)))
                · rintro Fr _ _
                  refine SO.takeT rfl rfl rfl b234 ?_
                  refine SO.v rfl (opv_move rfl) ?_
                  exact SO.nilZ fun a w h1 h2 h3 h4 h5 => PZ.of h1 h3 h5 (.cons () (.cons () (.cons () (.nil ⟨EnvAll.of h2 ⟨rfl, rfl, rfl, trivial⟩, h4⟩))))
                · rintro Fr _ _
                  refine SO.takeT rfl rfl rfl b234 ?_
                  refine SO.v rfl (opv_move rfl) ?_
                  exact SO.nilZ fun a w h1 h2 h3 h4 h5 => PZ.of h1 h3 h5 (.cons () (.cons () (.cons () (.nil ⟨EnvAll.of h2 ⟨rfl, rfl, rfl, trivial⟩, h4⟩))))
                · rintro Fr _ _ _ _ _
                  refine SO.takeT rfl rfl rfl b234 ?_
                  refine SO.b2 ?_
                  refine SO.b2 ?_
                  refine SO.b2 ?_
                  have ct239 := ref10_State_Words.ct _ b6 vy6_0_9 vy6_1_9 raws228 A229 raws224 A225 _ _ ht236
                  dsimp only at ct239
                  refine SO.call (pre := [Box _ _, OwnO _ _ _ _ _ _, OwnO _ _ _ _ _ _]) rfl Try.call17 rfl rfl rfl ct239 trivial ?_
                  rintro v237 _ ⟨_, rfl, rfl⟩
                  refine SO.rd fun hr238 => ?_
                  refine SO.b3 ?_
                  refine SO.b3 ?_
                  refine SO.b3 ?_
                  exact SO.nilZ fun a w h1 h2 h3 h4 h5 => PZ.of h1 h3 h5 (.cons () (.cons () (.cons () (.cons () (.cons () (.cons v237 (.nil ⟨EnvAll.of h2 ⟨rfl, rfl, rfl, trivial⟩, h4⟩)))))))
                · rintro Fr _ _ v237 _
                  refine SO.rd fun hr240 => ?_
                  refine SO.takeT rfl rfl rfl b234 ?_
                  refine SO.call (pre := []) rfl Try.call16 rfl rfl rfl (ref10_Same.ct _ v8 v237 _ _ _ ht242) ⟨(Rd.tail (Rd.head hr223)), (Rd.head hr240)⟩ ?_
                  rintro _ _ ⟨rfl, rfl⟩
                  refine SO.b1 ?_
                  refine SO.b1 ?_
                  exact SO.nilZ fun a w h1 h2 h3 h4 h5 => PZ.of h1 h3 h5 (.cons () (.cons () (.cons v237 (.cons () (.cons () (.nil ⟨EnvAll.of h2 ⟨rfl, rfl, rfl, rfl, trivial⟩, h4⟩))))))
                · rintro Fr _ _
                  refine SO.takeT rfl rfl rfl b234 ?_
                  refine SO.v rfl (opv_not rfl) ?_
                  exact SO.nilZ fun a w h1 h2 h3 h4 h5 => PZ.of h1 h3 h5 (.cons () (.cons () (.cons () (.nil ⟨EnvAll.of h2 ⟨rfl, rfl, rfl, trivial⟩, h4⟩))))
                · rintro Fr _ _
                  refine SO.v rfl (opv_pick_f' b234 rfl rfl) ?_
                  exact SO.nilZ fun a w h1 h2 h3 h4 h5 => PZ.of h1 h3 h5 (.cons () (.cons () (.cons () (.nil ⟨EnvAll.of h2 ⟨rfl, rfl, rfl, trivial⟩, h4⟩))))
                · rintro Fr _
                  refine SO.v rfl (opv_move rfl) ?_
                  exact SO.nilZ fun a w h1 h2 h3 h4 h5 => PZ.of h1 h3 h5 (.cons () (.cons () (.nil ⟨EnvAll.of h2 ⟨rfl, rfl, trivial⟩, h4⟩)))
                · rintro Fr _
                  refine SO.passF rfl rfl rfl b243 rfl rfl ?_
                  exact SO.nilZ fun a w h1 h2 h3 h4 h5 => PZ.of h1 h3 h5 (.cons () (.cons () (.nil ⟨EnvAll.of h2 ⟨rfl, rfl, trivial⟩, h4⟩)))
                · rintro Fr _
                  refine SO.passF rfl rfl rfl b243 rfl rfl ?_
                  exact SO.nilZ fun a w h1 h2 h3 h4 h5 => PZ.of h1 h3 h5 (.cons () (.cons () (.nil ⟨EnvAll.of h2 ⟨rfl, rfl, trivial⟩, h4⟩)))
                · rintro Fr _
                  refine SO.passF rfl rfl rfl b243 rfl rfl ?_
                  exact SO.nilZ fun a w h1 h2 h3 h4 h5 => PZ.of h1 h3 h5 (.cons () (.cons () (.nil ⟨EnvAll.of h2 ⟨rfl, rfl, trivial⟩, h4⟩)))
                · rintro Fr _
                  refine SO.passF rfl rfl rfl b243 rfl rfl ?_
                  exact SO.nilZ fun a w h1 h2 h3 h4 h5 => PZ.of h1 h3 h5 (.cons () (.cons () (.nil ⟨EnvAll.of h2 ⟨rfl, rfl, trivial⟩, h4⟩)))
                · rintro Fr _
                  refine SO.passF rfl rfl rfl b243 rfl rfl ?_
                  exact SO.nilZ fun a w h1 h2 h3 h4 h5 => PZ.of h1 h3 h5 (.cons () (.cons () (.nil ⟨EnvAll.of h2 ⟨rfl, rfl, trivial⟩, h4⟩)))
                · rintro Fr _
                  refine SO.passF rfl rfl rfl b243 rfl rfl ?_
                  exact SO.nilZ fun a w h1 h2 h3 h4 h5 => PZ.of h1 h3 h5 (.cons () (.cons () (.nil ⟨EnvAll.of h2 ⟨rfl, rfl, trivial⟩, h4⟩)))
                · rintro Fr _
                  refine SO.passF rfl rfl rfl b243 rfl rfl ?_
                  exact SO.nilZ fun a w h1 h2 h3 h4 h5 => PZ.of h1 h3 h5 (.cons () (.cons () (.nil ⟨EnvAll.of h2 ⟨rfl, rfl, trivial⟩, h4⟩)))
                · rintro Fr _
                  refine SO.passF rfl rfl rfl b243 rfl rfl ?_
                  exact SO.nilZ fun a w h1 h2 h3 h4 h5 => PZ.of h1 h3 h5 (.cons () (.cons () (.nil ⟨EnvAll.of h2 ⟨rfl, rfl, trivial⟩, h4⟩)))
                · rintro Fr _
                  refine SO.passF rfl rfl rfl b243 rfl rfl ?_
                  exact SO.nilZ fun a w h1 h2 h3 h4 h5 => PZ.of h1 h3 h5 (.cons () (.cons () (.nil ⟨EnvAll.of h2 ⟨rfl, rfl, trivial⟩, h4⟩)))
                · rintro Fr _
                  refine SO.passF rfl rfl rfl b243 rfl rfl ?_
                  exact SO.nilZ fun a w h1 h2 h3 h4 h5 => PZ.of h1 h3 h5 (.cons () (.cons () (.nil ⟨EnvAll.of h2 ⟨rfl, rfl, trivial⟩, h4⟩)))
                · rintro Fr _ _
                  refine SO.v rfl (opv_pick_t' b243 rfl rfl) ?_
                  exact SO.nilZ fun a w h1 h2 h3 h4 h5 => PZ.of h1 h3 h5 (.cons () (.cons () (.cons () (.nil ⟨EnvAll.of h2 ⟨rfl, rfl, rfl, trivial⟩, h4⟩))))
                rintro _ _ _ _ _ v237 _ _ _ _ _ _
                refine S.to (ρ' := [(0, v0), (2, .bool false), (3, .bool t1), (6, .int .i64 x6_1), (8, .bool ((((decide (0 ≤ x14.A)) && (decide (x14.A < 96))) && (decide (0 ≤ x14.B))) && (decide (x14.B < 96)))), (4, bp b6 0), (5, v8), (7, bp b16 0), (127, .bool true)]) ⟨rfl, rfl, rfl, rfl, rfl, rfl, rfl, rfl, rfl, trivial⟩ ?_
                refine S.rd fun hr244 => ?_
                cases h
                refine S.drop ?_
                refine S.b5 ?_
                refine S.b5 ?_
                refine S.b5 ?_
                refine S.b5 ?_
                refine S.b5 ?_
                refine S.b5 ?_
                refine S.to ?_ (hk10 () trivial)
                exact ⟨rfl, rfl, rfl, rfl, rfl, rfl, rfl, rfl, rfl, trivial⟩
              · replace h := cond_f b243 h
                obtain ⟨⟨t245, s247⟩, ht246, h⟩ := opt_bind h
                obtain ⟨t249, ht250, h⟩ := opt_bind h
                refine S.draw' (Z := fun Q => ∀ (_ : Unit) (_ : Unit) (_ : Unit) (_ : Unit) (_ : Unit) (v237 : Value) (_ : Unit) (_ : Unit) (_ : Unit) (_ : Unit) (_ : Unit) (_ : Unit), Q [(0, v0), (2, .bool false), (3, .bool t1), (6, .int .i64 x6_1), (8, .bool ((((decide (0 ≤ x14.A)) && (decide (x14.A < 96))) && (decide (0 ≤ x14.B))) && (decide (x14.B < 96)))), (4, bp b6 0), (5, v8), (7, bp b16 0), (127, .bool (t245 != t249)), (112, v237)] [Own 65 (ekI .u64) v237 t235, OwnO 46 kr_ref10_Slot vy6_0_9 raws228 A229 y6_0_9, OwnO 56 kr_ref10_Obj vy6_1_9 raws224 A225 y6_1_9, Own 65 (ekI .u64) v8 s247, Box b16 [.int .i64 x14.What, .int .i64 x14.A, .int .i64 x14.B], Box b6 [vy6_0_9, vy6_1_9, .int .i64 y6_2_9, .int .i64 y6_3_9], F]) (T := [tS 10 (errV 53 j10_9), tS 9 (.int .i64 j9_9), tS 5 (v8), tS 4 (bp b6 0), tS 7 (bp b16 0), tE [(0, v0), (2, .bool false), (3, .bool t1), (6, .int .i64 x6_1), (8, .bool ((((decide (0 ≤ x14.A)) && (decide (x14.A < 96))) && (decide (0 ≤ x14.B))) && (decide (x14.B < 96))))], tR (OwnO 46 kr_ref10_Slot vy6_0_9 raws228 A229 y6_0_9), tR (OwnO 56 kr_ref10_Obj vy6_1_9 raws224 A225 y6_1_9), tR (Own 65 (ekI .u64) v8 qv8_9), tR (Box b16 [.int .i64 x14.What, .int .i64 x14.A, .int .i64 x14.B]), tR (Box b6 [vy6_0_9, vy6_1_9, .int .i64 y6_2_9, .int .i64 y6_3_9]), tR (F), tS 105 (errV 53 j10_9), tS 106 (.int .i64 t232), tS 107 (.int .i64 j9_9), tS 108 (.bool (t232 != j9_9)), tS 109 (.bool (t232 != j9_9)), tS 110 (v8), tS 111 (bp b6 0), ⟨Value, [112], (fun v237 => [(112, v237)]), (fun v237 => [Own 65 (ekI .u64) v237 t235]), fun _ => rfl⟩, tS 113 (.bool t241), tS 114 (.bool (!t241)), tS 115 (.bool (!t241)), tS 116 (.bool (!t241)), tS 117 (v8), tS 118 ((plainV v8).val), tS 119 (bp b16 1), tS 120 (.int .i64 x14.A), tR (Own 65 (ekI .u64) v8 s247), tS 121 (.int .i64 t245), tS 122 (bp b6 0), tS 123 (bp b16 1), tS 124 (.int .i64 x14.A), tS 125 (.int .i64 t249), tS 126 (.bool (t245 != t249)), tS 127 (.bool (t245 != t249))]) (D := [⟨[0], [], [12]⟩, ⟨[12], [], [13]⟩, ⟨[1], [], [14]⟩, ⟨[13, 14], [], [15]⟩, ⟨[15], [], [16]⟩, ⟨[2, 16], [], [17]⟩, ⟨[3, 16], [], [18]⟩, ⟨[16, 18, 10, 6, 7], [], [19]⟩, ⟨[16, 17, 19, 8], [], [20]⟩, ⟨[16, 20], [], [21]⟩, ⟨[16, 21], [], [22]⟩, ⟨[22], [], [23]⟩, ⟨[2, 23], [], [24]⟩, ⟨[23, 24], [], [25]⟩, ⟨[4, 23], [], [26]⟩, ⟨[23, 26, 9], [], [27]⟩, ⟨[23, 25, 27], [8], [28, 29]⟩, ⟨[3, 23], [], [30]⟩, ⟨[4, 23], [], [31]⟩, ⟨[23, 31, 9], [], [32]⟩, ⟨[23, 30, 32, 10, 6, 7], [], [33]⟩, ⟨[23, 29, 33], [], [34]⟩, ⟨[23, 34], [], [35]⟩]) (ini := [0, 1, 2, 3, 4, 5, 6, 7, 8, 9, 10, 11]) (fin := [5, 3, 2, 4, 35, 19, 6, 7, 28, 9, 10, 11]) (bf := [[], [0], [], [0, 1, 2], [0, 1, 2, 3], [0, 1, 2, 3, 4], [0, 1, 2, 3, 4], [0, 1, 2, 3, 4, 6], [0, 1, 2, 3, 4, 5, 6, 7], [0, 1, 2, 3, 4, 5, 6, 7, 8], [0, 1, 2, 3, 4, 5, 6, 7, 8, 9], [0, 1, 2, 3, 4, 5, 6, 7, 8, 9, 10], [0, 1, 2, 3, 4, 5, 6, 7, 8, 9, 10, 11], [0, 1, 2, 3, 4, 5, 6, 7, 8, 9, 10, 11, 12], [0, 1, 2, 3, 4, 5, 6, 7, 8, 9, 10, 11], [0, 1, 2, 3, 4, 5, 6, 7, 8, 9, 10, 11, 14], [0, 1, 2, 3, 4, 5, 6, 7, 8, 9, 10, 11, 12, 13, 14, 15], [0, 1, 2, 3, 4, 5, 6, 7, 8, 9, 10, 11], [0, 1, 2, 3, 4, 5, 6, 7, 8, 9, 10, 11], [0, 1, 2, 3, 4, 5, 6, 7, 8, 9, 10, 11, 18], [0, 1, 2, 3, 4, 5, 6, 7, 8, 9, 10, 11, 12, 13, 14, 15, 16, 17, 18, 19], [0, 1, 2, 3, 4, 5, 6, 7, 8, 9, 10, 11, 12, 13, 14, 15, 16, 17, 18, 19, 20], [0, 1, 2, 3, 4, 5, 6, 7, 8, 9, 10, 11, 12, 13, 14, 15, 16, 17, 18, 19, 20, 21]]) (by kernel_rfl) (by kernel_rfl) (fun x w h1 h2 => (.cons () (.cons () (.cons () (.cons () (.cons () (.cons () (.cons () (.cons () (.cons () (.cons () (.cons () (.cons () (.nil ⟨EnvAll.of h1 ⟨rfl, rfl, rfl, rfl, rfl, rfl, rfl, rfl, rfl, rfl, trivial⟩, h2⟩)))))))))))))) (fun Q => by kernel_rfl) ⟨?_, ?_, ?_, ?_, ?_, ?_, ?_, ?_, ?_, ?_, ?_, ?_, ?_, ?_, ?_, ?_, ?_, ?_, ?_, ?_, ?_, ?_, ?_, trivial⟩ ?_
                · rintro Fr _
                  refine SO.v rfl (opv_move rfl) ?_
                  exact SO.nilZ fun a w h1 h2 h3 h4 h5 => PZ.of h1 h3 h5 (.cons () (.cons () (.nil ⟨EnvAll.of h2 ⟨rfl, rfl, trivial⟩, h4⟩)))
                · rintro Fr _
                  refine SO.call (pre := []) rfl Try.call15 rfl rfl rfl (law00_Code.ct _ _ _ ht233) trivial ?_
                  rintro _ _ ⟨rfl, rfl⟩
                  exact SO.nilZ fun a w h1 h2 h3 h4 h5 => PZ.of h1 h3 h5 (.cons () (.cons () (.nil ⟨EnvAll.of h2 ⟨rfl, rfl, trivial⟩, h4⟩)))
                · rintro Fr _
                  refine SO.v rfl (opv_move rfl) ?_
                  exact SO.nilZ fun a w h1 h2 h3 h4 h5 => PZ.of h1 h3 h5 (.cons () (.cons () (.nil ⟨EnvAll.of h2 ⟨rfl, rfl, trivial⟩, h4⟩)))
                · rintro Fr _ _
                  refine SO.v rfl (opv_neq rfl rfl) ?_
                  exact SO.nilZ fun a w h1 h2 h3 h4 h5 => PZ.of h1 h3 h5 (.cons () (.cons () (.cons () (.nil ⟨EnvAll.of h2 ⟨rfl, rfl, rfl, trivial⟩, h4⟩))))
                · rintro Fr _
                  refine SO.v rfl (opv_move rfl) ?_
                  exact SO.nilZ fun a w h1 h2 h3 h4 h5 => PZ.of h1 h3 h5 (.cons () (.cons () (.nil ⟨EnvAll.of h2 ⟨rfl, rfl, trivial⟩, h4⟩)))
                · rintro Fr _ _
                  refine SO.takeT rfl rfl rfl b234 ?_
                  refine SO.v rfl (opv_move rfl) ?_
                  exact SO.nilZ fun a w h1 h2 h3 h4 h5 => PZ.of h1 h3 h5 (.cons () (.cons () (.cons () (.nil ⟨EnvAll.of h2 ⟨rfl, rfl, rfl, trivial⟩, h4⟩))))
                · rintro Fr _ _
                  refine SO.takeT rfl rfl rfl b234 ?_
                  refine SO.v rfl (opv_move rfl) ?_
                  exact SO.nilZ fun a w h1 h2 h3 h4 h5 => PZ.of h1 h3 h5 (.cons () (.cons () (.cons () (.nil ⟨EnvAll.of h2 ⟨rfl, rfl, rfl, trivial⟩, h4⟩))))
                · rintro Fr _ _ _ _ _
                  refine SO.takeT rfl rfl rfl b234 ?_
                  refine SO.b2 ?_
                  refine SO.b2 ?_
                  refine SO.b2 ?_
                  have ct239 := ref10_State_Words.ct _ b6 vy6_0_9 vy6_1_9 raws228 A229 raws224 A225 _ _ ht236
                  dsimp only at ct239
                  refine SO.call (pre := [Box _ _, OwnO _ _ _ _ _ _, OwnO _ _ _ _ _ _]) rfl Try.call17 rfl rfl rfl ct239 trivial ?_
                  rintro v237 _ ⟨_, rfl, rfl⟩
                  refine SO.rd fun hr238 => ?_
                  refine SO.b3 ?_
                  refine SO.b3 ?_
                  refine SO.b3 ?_
                  exact SO.nilZ fun a w h1 h2 h3 h4 h5 => PZ.of h1 h3 h5 (.cons () (.cons () (.cons () (.cons () (.cons () (.cons v237 (.nil ⟨EnvAll.of h2 ⟨rfl, rfl, rfl, trivial⟩, h4⟩)))))))
                · rintro Fr _ _ v237 _
                  refine SO.rd fun hr240 => ?_
                  refine SO.takeT rfl rfl rfl b234 ?_
                  refine SO.call (pre := []) rfl Try.call16 rfl rfl rfl (ref10_Same.ct _ v8 v237 _ _ _ ht242) ⟨(Rd.tail (Rd.head hr223)), (Rd.head hr240)⟩ ?_
                  rintro _ _ ⟨rfl, rfl⟩
                  refine SO.b1 ?_
                  refine SO.b1 ?_
                  exact SO.nilZ fun a w h1 h2 h3 h4 h5 => PZ.of h1 h3 h5 (.cons () (.cons () (.cons v237 (.cons () (.cons () (.nil ⟨EnvAll.of h2 ⟨rfl, rfl, rfl, rfl, trivial⟩, h4⟩))))))
                · rintro Fr _ _
                  refine SO.takeT rfl rfl rfl b234 ?_
                  refine SO.v rfl (opv_not rfl) ?_
                  exact SO.nilZ fun a w h1 h2 h3 h4 h5 => PZ.of h1 h3 h5 (.cons () (.cons () (.cons () (.nil ⟨EnvAll.of h2 ⟨rfl, rfl, rfl, trivial⟩, h4⟩))))
                · rintro Fr _ _
                  refine SO.v rfl (opv_pick_f' b234 rfl rfl) ?_
                  exact SO.nilZ fun a w h1 h2 h3 h4 h5 => PZ.of h1 h3 h5 (.cons () (.cons () (.cons () (.nil ⟨EnvAll.of h2 ⟨rfl, rfl, rfl, trivial⟩, h4⟩))))
                · rintro Fr _
                  refine SO.v rfl (opv_move rfl) ?_
                  exact SO.nilZ fun a w h1 h2 h3 h4 h5 => PZ.of h1 h3 h5 (.cons () (.cons () (.nil ⟨EnvAll.of h2 ⟨rfl, rfl, trivial⟩, h4⟩)))
                · rintro Fr _ _
                  refine SO.takeT rfl rfl rfl b243 ?_
                  refine SO.v rfl (opv_move rfl) ?_
                  exact SO.nilZ fun a w h1 h2 h3 h4 h5 => PZ.of h1 h3 h5 (.cons () (.cons () (.cons () (.nil ⟨EnvAll.of h2 ⟨rfl, rfl, rfl, trivial⟩, h4⟩))))
                · rintro Fr _ _
                  refine SO.takeT rfl rfl rfl b243 ?_
                  refine SO.v rfl (opv_iface Try.underlying27 rfl rfl) ?_
                  exact SO.nilZ fun a w h1 h2 h3 h4 h5 => PZ.of h1 h3 h5 (.cons () (.cons () (.cons () (.nil ⟨EnvAll.of h2 ⟨rfl, rfl, rfl, trivial⟩, h4⟩))))
                · rintro Fr _ _
                  refine SO.takeT rfl rfl rfl b243 ?_
                  refine SO.v rfl (opv_fieldAddr Try.underlying29 rfl Try.sizeOf3 rfl rfl) ?_
                  exact SO.nilZ fun a w h1 h2 h3 h4 h5 => PZ.of h1 h3 h5 (.cons () (.cons () (.cons () (.nil ⟨EnvAll.of h2 ⟨rfl, rfl, rfl, trivial⟩, h4⟩))))
                · rintro Fr _ _ _
                  refine SO.takeT rfl rfl rfl b243 ?_
                  refine SO.load1 rfl Try.isAgg3 rfl rfl ?_
                  exact SO.nilZ fun a w h1 h2 h3 h4 h5 => PZ.of h1 h3 h5 (.cons () (.cons () (.cons () (.cons () (.nil ⟨EnvAll.of h2 ⟨rfl, rfl, rfl, trivial⟩, h4⟩)))))
                · rintro Fr _ _ _ _
                  refine SO.takeT rfl rfl rfl b243 ?_
                  refine SO.call (pre := [(plainV v8).rep _]) rfl Try.call18 rfl rfl rfl (cdt_Leaf.ct (plainV v8) _ _ _ _ _ ht246) trivial ?_
                  rintro _ _ ⟨rfl, rfl⟩
                  refine headEq (plainV_rep _ _) ?_
                  refine SO.rd fun hr248 => ?_
                  exact SO.nilZ fun a w h1 h2 h3 h4 h5 => PZ.of h1 h3 h5 (.cons () (.cons () (.cons () (.cons () (.cons () (.nil ⟨EnvAll.of h2 ⟨rfl, rfl, rfl, rfl, trivial⟩, h4⟩))))))
                · rintro Fr _ _
                  refine SO.takeT rfl rfl rfl b243 ?_
                  refine SO.v rfl (opv_move rfl) ?_
                  exact SO.nilZ fun a w h1 h2 h3 h4 h5 => PZ.of h1 h3 h5 (.cons () (.cons () (.cons () (.nil ⟨EnvAll.of h2 ⟨rfl, rfl, rfl, trivial⟩, h4⟩))))
                · rintro Fr _ _
                  refine SO.takeT rfl rfl rfl b243 ?_
                  refine SO.v rfl (opv_fieldAddr Try.underlying29 rfl Try.sizeOf3 rfl rfl) ?_
                  exact SO.nilZ fun a w h1 h2 h3 h4 h5 => PZ.of h1 h3 h5 (.cons () (.cons () (.cons () (.nil ⟨EnvAll.of h2 ⟨rfl, rfl, rfl, trivial⟩, h4⟩))))
                · rintro Fr _ _ _
                  refine SO.takeT rfl rfl rfl b243 ?_
                  refine SO.load1 rfl Try.isAgg3 rfl rfl ?_
                  exact SO.nilZ fun a w h1 h2 h3 h4 h5 => PZ.of h1 h3 h5 (.cons () (.cons () (.cons () (.cons () (.nil ⟨EnvAll.of h2 ⟨rfl, rfl, rfl, trivial⟩, h4⟩)))))
                · rintro Fr _ _ _ _ _ _
                  refine SO.takeT rfl rfl rfl b243 ?_
                  refine SO.b2 ?_
                  refine SO.b2 ?_
                  refine SO.b2 ?_
                  have ct251 := ref10_State_Leaf.ct _ b6 vy6_0_9 vy6_1_9 raws228 A229 raws224 A225 _ _ _ ht250
                  dsimp only at ct251
                  refine SO.call (pre := [Box _ _, OwnO _ _ _ _ _ _, OwnO _ _ _ _ _ _]) rfl Try.call19 rfl rfl rfl ct251 trivial ?_
                  rintro _ _ ⟨rfl, rfl⟩
                  refine SO.b2 ?_
                  refine SO.b2 ?_
                  refine SO.b2 ?_
                  exact SO.nilZ fun a w h1 h2 h3 h4 h5 => PZ.of h1 h3 h5 (.cons () (.cons () (.cons () (.cons () (.cons () (.cons () (.cons () (.nil ⟨EnvAll.of h2 ⟨rfl, rfl, rfl, rfl, trivial⟩, h4⟩))))))))
                · rintro Fr _ _ _
                  refine SO.takeT rfl rfl rfl b243 ?_
                  refine SO.v rfl (opv_neq rfl rfl) ?_
                  exact SO.nilZ fun a w h1 h2 h3 h4 h5 => PZ.of h1 h3 h5 (.cons () (.cons () (.cons () (.cons () (.nil ⟨EnvAll.of h2 ⟨rfl, rfl, rfl, rfl, trivial⟩, h4⟩)))))
                · rintro Fr _ _
                  refine SO.v rfl (opv_pick_f' b243 rfl rfl) ?_
                  exact SO.nilZ fun a w h1 h2 h3 h4 h5 => PZ.of h1 h3 h5 (.cons () (.cons () (.cons () (.nil ⟨EnvAll.of h2 ⟨rfl, rfl, rfl, trivial⟩, h4⟩))))
                rintro _ _ _ _ _ v237 _ _ _ _ _ _
                refine S.to (ρ' := [(0, v0), (2, .bool false), (3, .bool t1), (6, .int .i64 x6_1), (8, .bool ((((decide (0 ≤ x14.A)) && (decide (x14.A < 96))) && (decide (0 ≤ x14.B))) && (decide (x14.B < 96)))), (4, bp b6 0), (5, v8), (7, bp b16 0), (127, .bool (t245 != t249))]) ⟨rfl, rfl, rfl, rfl, rfl, rfl, rfl, rfl, rfl, trivial⟩ ?_
                refine S.rd fun hr252 => ?_
                refine S.b3 ?_
                refine S.rd fun hr253 => ?_
                cases h
                refine S.b1 ?_
                refine S.drop ?_
                refine S.b5 ?_
                refine S.b5 ?_
                refine S.b5 ?_
                refine S.b3 ?_
                refine S.b5 ?_
                refine S.b5 ?_
                refine S.to ?_ (hk10 () trivial)
                exact ⟨rfl, rfl, rfl, rfl, rfl, rfl, rfl, rfl, rfl, trivial⟩
          rintro _ -
          replace h := hJ10
          refine S.b2 ?_
          refine S.rd fun hr254 => ?_
          rcases bool_or j127_10 with b255 | b255
          · replace h := cond_t b255 h
            refine S.condT rfl b255 ?_
            refine S.seq ?_
            refine S.region ?_
            refine SO.v rfl (opv_assign rfl) ?_
            refine SO.nil ?_
            refine S.to (ρ' := [(2, .bool false)]) ⟨rfl, trivial⟩ ?_
            cases h
            replace h := hK1.1 _ rfl
            cases h
            refine S.b1 ?_
            refine S.closeR ?_
            refine S.b2 ?_
            refine S.closeR ?_
            refine S.drop ?_
            refine S.drop ?_
            refine S.drop ?_
            refine S.drop ?_
            refine S.drop ?_
            exact S.ret1 Try.func3 rfl rfl (fun w hs hk => hR w _ _ ⟨rfl, rfl⟩ hs hk)
          · replace h := cond_f b255 h
            refine S.condF rfl b255 ?_
            refine S.skip ?_
            refine S.seq ?_
            refine S.seq ?_
            refine S.region ?_
            refine SO.v rfl (opv_move rfl) ?_
            refine SO.v rfl (opv_not rfl) ?_
            refine SO.nil ?_
            rcases bool_or (!((((decide (0 ≤ x14.A)) && (decide (x14.A < 96))) && (decide (0 ≤ x14.B))) && (decide (x14.B < 96)))) with b256 | b256
            · replace h := cond_t b256 h
              refine S.condT rfl b256 ?_
              refine S.exit rfl ?_
              refine S.region ?_
              refine SO.v rfl (opv_move rfl) ?_
              refine SO.v rfl (opv_add rfl rfl) ?_
              refine SO.v rfl (opv_assign rfl) ?_
              refine SO.nil ?_
              refine S.to (ρ' := [(0, v0), (2, .bool false), (3, .bool t1), (4, bp b6 0), (5, v8), (6, .int .i64 (w64 (x6_1 + 1)))]) ⟨rfl, rfl, rfl, rfl, rfl, rfl, trivial⟩ ?_
              refine S.b1 ?_
              refine S.closeR ?_
              refine S.b2 ?_
              refine S.closeR ?_
              refine S.b3 ?_
              refine S.drop ?_
              refine S.b4 ?_
              refine S.b4 ?_
              refine S.b4 ?_
              refine S.b4 ?_
              refine S.b4 ?_
              refine S.to ?_ (ih1 ((w64 (x6_1 + 1), y6_0_9, y6_1_9, y6_2_9, y6_3_9, qv8_10), (vy6_0_9, vy6_1_9)) h)
              exact ⟨rfl, rfl, rfl, rfl, rfl, rfl, trivial⟩
            · replace h := cond_f b256 h
              refine S.condF rfl b256 ?_
              refine S.skip ?_
              refine S.seq ?_
              refine S.region ?_
              refine SO.v rfl (opv_move rfl) ?_
              refine SO.v rfl (opv_iface Try.underlying27 rfl rfl) ?_
              refine SO.v rfl (opv_fieldAddr Try.underlying29 rfl Try.sizeOf3 rfl rfl) ?_
              refine SO.b3 ?_
              refine SO.load1 rfl Try.isAgg3 rfl rfl ?_
              obtain ⟨⟨t257, s259⟩, ht258, h⟩ := opt_bind h
              refine SO.b1 ?_
              refine SO.call (pre := [(plainV v8).rep _]) rfl Try.call20 rfl rfl rfl (cdt_Kids.ct (plainV v8) _ _ _ _ _ ht258) trivial ?_
              rintro v260 _ ⟨_, rfl, rfl⟩
              refine SO.rd fun hr261 => ?_
              refine SO.b1 ?_
              refine headEq (plainV_rep _ _) ?_
              refine SO.rd fun hr262 => ?_
              refine SO.v rfl (opv_assign rfl) ?_
              refine SO.nil ?_
              refine S.to (ρ' := [(0, v0), (2, .bool false), (3, .bool t1), (4, bp b6 0), (5, v8), (6, .int .i64 x6_1), (7, bp b16 0), (11, v260)]) ⟨rfl, rfl, rfl, rfl, rfl, rfl, rfl, rfl, trivial⟩ ?_
              refine S.seq ?_
              refine S.seq ?_
              obtain ⟨⟨j164_11, qv8_11⟩, hC11, hJ11⟩ := opt_bind h
              clear h
              refine S.cutP (G := Unit) (fun _ => True) (fun _ => [(0, v0), (2, .bool false), (3, .bool t1), (4, bp b6 0), (5, v8), (6, .int .i64 x6_1), (7, bp b16 0), (11, v260), (164, .bool j164_11)]) (fun _ => [Own 65 (ekI .u64) v8 qv8_11, Own 3 (ekI .i64) v260 t257, Box b16 [.int .i64 x14.What, .int .i64 x14.A, .int .i64 x14.B], OwnO 46 kr_ref10_Slot vy6_0_9 raws228 A229 y6_0_9, OwnO 56 kr_ref10_Obj vy6_1_9 raws224 A225 y6_1_9, Box b6 [vy6_0_9, vy6_1_9, .int .i64 y6_2_9, .int .i64 y6_3_9], F]) (fun hk11 => ?_) ?_
              · replace h := hC11
                obtain ⟨⟨t263, s265⟩, ht264, h⟩ := opt_bind h
                obtain ⟨x267, hx268, h⟩ := opt_bind h
                obtain ⟨r269, hr270, hc271⟩ := relR.at hrel230 hx268
                rcases bool_or (t263 != x267.Parent) with b272 | b272
                · replace h := cond_t b272 h
                  refine S.draw' (Z := fun Q => ∀ (_ : Unit) (_ : Unit) (_ : Unit) (_ : Unit) (_ : Unit) (_ : Unit) (_ : Unit) (_ : Unit) (_ : Unit) (_ : Unit) (_ : Unit) (_ : Unit) (_ : Unit), Q [(0, v0), (2, .bool false), (3, .bool t1), (6, .int .i64 x6_1), (4, bp b6 0), (5, v8), (7, bp b16 0), (11, v260), (164, .bool true)] [Own 65 (ekI .u64) v8 s265, Own 3 (ekI .i64) v260 t257, Box b16 [.int .i64 x14.What, .int .i64 x14.A, .int .i64 x14.B], OwnO 46 kr_ref10_Slot vy6_0_9 raws228 A229 y6_0_9, OwnO 56 kr_ref10_Obj vy6_1_9 raws224 A225 y6_1_9, Box b6 [vy6_0_9, vy6_1_9, .int .i64 y6_2_9, .int .i64 y6_3_9], F]) (T := [tS 5 (v8), tS 7 (bp b16 0), tS 4 (bp b6 0), tS 11 (v260), tE [(0, v0), (2, .bool false), (3, .bool t1), (6, .int .i64 x6_1)], tR (Own 65 (ekI .u64) v8 s259), tR (Own 3 (ekI .i64) v260 t257), tR (Box b16 [.int .i64 x14.What, .int .i64 x14.A, .int .i64 x14.B]), tR (OwnO 46 kr_ref10_Slot vy6_0_9 raws228 A229 y6_0_9), tR (OwnO 56 kr_ref10_Obj vy6_1_9 raws224 A225 y6_1_9), tR (Box b6 [vy6_0_9, vy6_1_9, .int .i64 y6_2_9, .int .i64 y6_3_9]), tR (F), tS 135 (v8), tS 136 ((plainV v8).val), tS 137 (bp b16 1), tS 138 (.int .i64 x14.A), tR (Own 65 (ekI .u64) v8 s265), tS 139 (.int .i64 t263), tS 140 (bp b6 0), tS 141 (bp b6 0), tS 142 (bp b6 0), tS 143 (vy6_0_9), tS 144 (bp b16 1), tS 145 (.int .i64 x14.A), tS 146 (idxp vy6_0_9 (x14.A.toNat * kr_ref10_Slot.sz)), tS 147 (idxp vy6_0_9 (x14.A.toNat * kr_ref10_Slot.sz + 6)), tS 148 (.int .i64 x267.Parent), tS 149 (.bool (t263 != x267.Parent)), tS 150 (.bool (t263 != x267.Parent)), tS 151 (undef), tS 152 (undef), tS 153 (undef), tS 154 (undef), tS 155 (undef), tS 156 (undef), tS 157 (undef), tS 158 (undef), tS 159 (undef), tS 160 (undef), tS 161 (undef), tS 162 (undef), tS 163 (undef), tS 164 (.bool true)]) (D := [⟨[0], [], [12]⟩, ⟨[12], [], [13]⟩, ⟨[1], [], [14]⟩, ⟨[14, 7], [], [15]⟩, ⟨[13, 15], [5], [16, 17]⟩, ⟨[2], [], [18]⟩, ⟨[18], [], [19]⟩, ⟨[19], [], [20]⟩, ⟨[20, 10], [], [21]⟩, ⟨[1], [], [22]⟩, ⟨[22, 7], [], [23]⟩, ⟨[21, 23, 8], [], [24]⟩, ⟨[24, 8], [], [25]⟩, ⟨[25, 8], [], [26]⟩, ⟨[17, 26], [], [27]⟩, ⟨[27], [], [28]⟩, ⟨[28], [], [29]⟩, ⟨[28], [], [30]⟩, ⟨[28], [], [31]⟩, ⟨[28], [], [32]⟩, ⟨[28], [], [33]⟩, ⟨[28], [], [34]⟩, ⟨[28], [], [35]⟩, ⟨[28], [], [36]⟩, ⟨[28], [], [37]⟩, ⟨[28], [], [38]⟩, ⟨[28], [], [39]⟩, ⟨[28], [], [40]⟩, ⟨[28], [], [41]⟩, ⟨[28, 41], [], [42]⟩]) (ini := [0, 1, 2, 3, 4, 5, 6, 7, 8, 9, 10, 11]) (fin := [4, 2, 0, 1, 3, 42, 16, 6, 7, 8, 9, 10, 11]) (bf := [[], [0], [], [2], [0, 1, 2, 3], [], [5], [5, 6], [5, 6, 7], [], [9], [5, 6, 7, 8, 9, 10], [5, 6, 7, 8, 9, 10, 11], [5, 6, 7, 8, 9, 10, 11, 12], [0, 1, 2, 3, 4, 5, 6, 7, 8, 9, 10, 11, 12, 13], [0, 1, 2, 3, 4, 5, 6, 7, 8, 9, 10, 11, 12, 13, 14], [0, 1, 2, 3, 4, 5, 6, 7, 8, 9, 10, 11, 12, 13, 14, 15], [0, 1, 2, 3, 4, 5, 6, 7, 8, 9, 10, 11, 12, 13, 14, 15, 16], [0, 1, 2, 3, 4, 5, 6, 7, 8, 9, 10, 11, 12, 13, 14, 15], [0, 1, 2, 3, 4, 5, 6, 7, 8, 9, 10, 11, 12, 13, 14, 15, 18], [0, 1, 2, 3, 4, 5, 6, 7, 8, 9, 10, 11, 12, 13, 14, 15, 18, 19], [0, 1, 2, 3, 4, 5, 6, 7, 8, 9, 10, 11, 12, 13, 14, 15, 18, 19, 20], [0, 1, 2, 3, 4, 5, 6, 7, 8, 9, 10, 11, 12, 13, 14, 15], [0, 1, 2, 3, 4, 5, 6, 7, 8, 9, 10, 11, 12, 13, 14, 15, 22], [0, 1, 2, 3, 4, 5, 6, 7, 8, 9, 10, 11, 12, 13, 14, 15, 18, 19, 20, 21, 22, 23], [0, 1, 2, 3, 4, 5, 6, 7, 8, 9, 10, 11, 12, 13, 14, 15, 18, 19, 20, 21, 22, 23, 24], [0, 1, 2, 3, 4, 5, 6, 7, 8, 9, 10, 11, 12, 13, 14, 15, 18, 19, 20, 21, 22, 23, 24, 25], [0, 1, 2, 3, 4, 5, 6, 7, 8, 9, 10, 11, 12, 13, 14, 15, 18, 19, 20, 21, 22, 23, 24, 25, 26], [0, 1, 2, 3, 4, 5, 6, 7, 8, 9, 10, 11, 12, 13, 14, 15, 16, 17, 18, 19, 20, 21, 22, 23, 24, 25, 26, 27], [0, 1, 2, 3, 4, 5, 6, 7, 8, 9, 10, 11, 12, 13, 14, 15, 16, 17, 18, 19, 20, 21, 22, 23, 24, 25, 26, 27, 28]]) (by kernel_rfl) (by kernel_rfl) (fun x w h1 h2 => (.cons () (.cons () (.cons () (.cons () (.cons () (.cons () (.cons () (.cons () (.cons () (.cons () (.cons () (.cons () (.nil ⟨EnvAll.of h1 ⟨rfl, rfl, rfl, rfl, rfl, rfl, rfl, rfl, trivial⟩, h2⟩)))))))))))))) (fun Q => by kernel_rfl) ⟨?_, ?_, ?_, ?_, ?_, ?_, ?_, ?_, ?_, ?_, ?_, ?_, ?_, ?_, ?_, ?_, ?_, ?_, ?_, ?_, ?_, ?_, ?_, ?_, ?_, ?_, ?_, ?_, ?_, ?_, trivial⟩ ?_
                  · rintro Fr _
                    refine SO.v rfl (opv_move rfl) ?_
                    exact SO.nilZ fun a w h1 h2 h3 h4 h5 => PZ.of h1 h3 h5 (.cons () (.cons () (.nil ⟨EnvAll.of h2 ⟨rfl, rfl, trivial⟩, h4⟩)))
                  · rintro Fr _
                    refine SO.v rfl (opv_iface Try.underlying27 rfl rfl) ?_
                    exact SO.nilZ fun a w h1 h2 h3 h4 h5 => PZ.of h1 h3 h5 (.cons () (.cons () (.nil ⟨EnvAll.of h2 ⟨rfl, rfl, trivial⟩, h4⟩)))
                  · rintro Fr _
                    refine SO.v rfl (opv_fieldAddr Try.underlying29 rfl Try.sizeOf3 rfl rfl) ?_
                    exact SO.nilZ fun a w h1 h2 h3 h4 h5 => PZ.of h1 h3 h5 (.cons () (.cons () (.nil ⟨EnvAll.of h2 ⟨rfl, rfl, trivial⟩, h4⟩)))
                  · rintro Fr _ _
                    refine SO.load1 rfl Try.isAgg3 rfl rfl ?_
                    exact SO.nilZ fun a w h1 h2 h3 h4 h5 => PZ.of h1 h3 h5 (.cons () (.cons () (.cons () (.nil ⟨EnvAll.of h2 ⟨rfl, rfl, trivial⟩, h4⟩))))
                  · rintro Fr _ _ _
                    refine SO.call (pre := [(plainV v8).rep _]) rfl Try.call21 rfl rfl rfl (cdt_Parent.ct (plainV v8) _ _ _ _ ht264) trivial ?_
                    rintro _ _ ⟨rfl, rfl⟩
                    refine headEq (plainV_rep _ _) ?_
                    refine SO.rd fun hr266 => ?_
                    exact SO.nilZ fun a w h1 h2 h3 h4 h5 => PZ.of h1 h3 h5 (.cons () (.cons () (.cons () (.cons () (.nil ⟨EnvAll.of h2 ⟨rfl, rfl, rfl, trivial⟩, h4⟩)))))
                  · rintro Fr _
                    refine SO.v rfl (opv_move rfl) ?_
                    exact SO.nilZ fun a w h1 h2 h3 h4 h5 => PZ.of h1 h3 h5 (.cons () (.cons () (.nil ⟨EnvAll.of h2 ⟨rfl, rfl, trivial⟩, h4⟩)))
                  · rintro Fr _
                    refine SO.v rfl (opv_nilCheck rfl) ?_
                    exact SO.nilZ fun a w h1 h2 h3 h4 h5 => PZ.of h1 h3 h5 (.cons () (.cons () (.nil ⟨EnvAll.of h2 ⟨rfl, rfl, trivial⟩, h4⟩)))
                  · rintro Fr _
                    refine SO.v rfl (opv_fieldAddr Try.underlying50 rfl Try.sizeOf47 rfl rfl) ?_
                    exact SO.nilZ fun a w h1 h2 h3 h4 h5 => PZ.of h1 h3 h5 (.cons () (.cons () (.nil ⟨EnvAll.of h2 ⟨rfl, rfl, trivial⟩, h4⟩)))
                  · rintro Fr _ _
                    refine SO.load1 rfl Try.isAgg47 rfl rfl ?_
                    exact SO.nilZ fun a w h1 h2 h3 h4 h5 => PZ.of h1 h3 h5 (.cons () (.cons () (.cons () (.nil ⟨EnvAll.of h2 ⟨rfl, rfl, trivial⟩, h4⟩))))
                  · rintro Fr _
                    refine SO.v rfl (opv_fieldAddr Try.underlying29 rfl Try.sizeOf3 rfl rfl) ?_
                    exact SO.nilZ fun a w h1 h2 h3 h4 h5 => PZ.of h1 h3 h5 (.cons () (.cons () (.nil ⟨EnvAll.of h2 ⟨rfl, rfl, trivial⟩, h4⟩)))
                  · rintro Fr _ _
                    refine SO.load1 rfl Try.isAgg3 rfl rfl ?_
                    exact SO.nilZ fun a w h1 h2 h3 h4 h5 => PZ.of h1 h3 h5 (.cons () (.cons () (.cons () (.nil ⟨EnvAll.of h2 ⟨rfl, rfl, trivial⟩, h4⟩))))
                  · rintro Fr _ _ _
                    refine SO.v rfl (opv_idx Try.underlying47 Try.sizeOf46 hR231 rfl rfl hr270) ?_
                    exact SO.nilZ fun a w h1 h2 h3 h4 h5 => PZ.of h1 h3 h5 (.cons () (.cons () (.cons () (.cons () (.nil ⟨EnvAll.of h2 ⟨rfl, rfl, rfl, trivial⟩, h4⟩)))))
                  · rintro Fr _ _
                    refine SO.v rfl (opv_fieldIdx Try.underlying46 rfl Try.sizeOf3 hR231 hr270 rfl rfl) ?_
                    exact SO.nilZ fun a w h1 h2 h3 h4 h5 => PZ.of h1 h3 h5 (.cons () (.cons () (.cons () (.nil ⟨EnvAll.of h2 ⟨rfl, rfl, trivial⟩, h4⟩))))
                  · rintro Fr _ _
                    refine SO.loadI1 (j := 6) rfl Try.isAgg3 (Rd.head hR231) hr270 rfl rfl rfl (hc271.val rfl) ?_
                    exact SO.nilZ fun a w h1 h2 h3 h4 h5 => PZ.of h1 h3 h5 (.cons () (.cons () (.cons () (.nil ⟨EnvAll.of h2 ⟨rfl, rfl, trivial⟩, h4⟩))))
                  · rintro Fr _ _
                    refine SO.v rfl (opv_neq rfl rfl) ?_
                    exact SO.nilZ fun a w h1 h2 h3 h4 h5 => PZ.of h1 h3 h5 (.cons () (.cons () (.cons () (.nil ⟨EnvAll.of h2 ⟨rfl, rfl, rfl, trivial⟩, h4⟩))))
                  · rintro Fr _
                    refine SO.v rfl (opv_move rfl) ?_
                    exact SO.nilZ fun a w h1 h2 h3 h4 h5 => PZ.of h1 h3 h5 (.cons () (.cons () (.nil ⟨EnvAll.of h2 ⟨rfl, rfl, trivial⟩, h4⟩)))
                  · rintro Fr _
                    refine SO.passF rfl rfl rfl b272 rfl rfl ?_
                    exact SO.nilZ fun a w h1 h2 h3 h4 h5 => PZ.of h1 h3 h5 (.cons () (.cons () (.nil ⟨EnvAll.of h2 ⟨rfl, rfl, trivial⟩, h4⟩)))
                  · rintro Fr _
                    refine SO.passF rfl rfl rfl b272 rfl rfl ?_
                    exact SO.nilZ fun a w h1 h2 h3 h4 h5 => PZ.of h1 h3 h5 (.cons () (.cons () (.nil ⟨EnvAll.of h2 ⟨rfl, rfl, trivial⟩, h4⟩)))
                  · rintro Fr _
                    refine SO.passF rfl rfl rfl b272 rfl rfl ?_
                    exact SO.nilZ fun a w h1 h2 h3 h4 h5 => PZ.of h1 h3 h5 (.cons () (.cons () (.nil ⟨EnvAll.of h2 ⟨rfl, rfl, trivial⟩, h4⟩)))
                  · rintro Fr _
                    refine SO.passF rfl rfl rfl b272 rfl rfl ?_
                    exact SO.nilZ fun a w h1 h2 h3 h4 h5 => PZ.of h1 h3 h5 (.cons () (.cons () (.nil ⟨EnvAll.of h2 ⟨rfl, rfl, trivial⟩, h4⟩)))
                  · rintro Fr _
                    refine SO.passF rfl rfl rfl b272 rfl rfl ?_
                    exact SO.nilZ fun a w h1 h2 h3 h4 h5 => PZ.of h1 h3 h5 (.cons () (.cons () (.nil ⟨EnvAll.of h2 ⟨rfl, rfl, trivial⟩, h4⟩)))
                  · rintro Fr _
                    refine SO.passF rfl rfl rfl b272 rfl rfl ?_
                    exact SO.nilZ fun a w h1 h2 h3 h4 h5 => PZ.of h1 h3 h5 (.cons () (.cons () (.nil ⟨EnvAll.of h2 ⟨rfl, rfl, trivial⟩, h4⟩)))
                  · rintro Fr _
                    refine SO.passF rfl rfl rfl b272 rfl rfl ?_
                    exact SO.nilZ fun a w h1 h2 h3 h4 h5 => PZ.of h1 h3 h5 (.cons () (.cons () (.nil ⟨EnvAll.of h2 ⟨rfl, rfl, trivial⟩, h4⟩)))
                  · rintro Fr _
                    refine SO.passF rfl rfl rfl b272 rfl rfl ?_
                    exact SO.nilZ fun a w h1 h2 h3 h4 h5 => PZ.of h1 h3 h5 (.cons () (.cons () (.nil ⟨EnvAll.of h2 ⟨rfl, rfl, trivial⟩, h4⟩)))
                  · rintro Fr _
                    refine SO.passF rfl rfl rfl b272 rfl rfl ?_
                    exact SO.nilZ fun a w h1 h2 h3 h4 h5 => PZ.of h1 h3 h5 (.cons () (.cons () (.nil ⟨EnvAll.of h2 ⟨rfl, rfl, trivial⟩, h4⟩)))
                  · rintro Fr _
                    refine SO.passF rfl rfl rfl b272 rfl rfl ?_
                    exact SO.nilZ fun a w h1 h2 h3 h4 h5 => PZ.of h1 h3 h5 (.cons () (.cons () (.nil ⟨EnvAll.of h2 ⟨rfl, rfl, trivial⟩, h4⟩)))
                  · rintro Fr _
                    refine SO.passF rfl rfl rfl b272 rfl rfl ?_
                    exact SO.nilZ fun a w h1 h2 h3 h4 h5 => PZ.of h1 h3 h5 (.cons () (.cons () (.nil ⟨EnvAll.of h2 ⟨rfl, rfl, trivial⟩, h4⟩)))
                  · rintro Fr _
                    refine SO.passF rfl rfl rfl b272 rfl rfl ?_
                    exact SO.nilZ fun a w h1 h2 h3 h4 h5 => PZ.of h1 h3 h5 (.cons () (.cons () (.nil ⟨EnvAll.of h2 ⟨rfl, rfl, trivial⟩, h4⟩)))
                  · rintro Fr _
                    refine SO.passF rfl rfl rfl b272 rfl rfl ?_
                    exact SO.nilZ fun a w h1 h2 h3 h4 h5 => PZ.of h1 h3 h5 (.cons () (.cons () (.nil ⟨EnvAll.of h2 ⟨rfl, rfl, trivial⟩, h4⟩)))
                  · rintro Fr _ _
                    refine SO.v rfl (opv_pick_t' b272 rfl rfl) ?_
                    exact SO.nilZ fun a w h1 h2 h3 h4 h5 => PZ.of h1 h3 h5 (.cons () (.cons () (.cons () (.nil ⟨EnvAll.of h2 ⟨rfl, rfl, rfl, trivial⟩, h4⟩))))
                  rintro _ _ _ _ _ _ _ _ _ _ _ _ _
                  refine S.to (ρ' := [(0, v0), (2, .bool false), (3, .bool t1), (6, .int .i64 x6_1), (4, bp b6 0), (5, v8), (7, bp b16 0), (11, v260), (164, .bool true)]) ⟨rfl, rfl, rfl, rfl, rfl, rfl, rfl, rfl, rfl, trivial⟩ ?_
                  refine S.rd fun hr273 => ?_
                  cases h
                  refine S.b6 ?_
                  refine S.b6 ?_
                  refine S.b6 ?_
                  refine S.b6 ?_
                  refine S.b6 ?_
                  refine S.b6 ?_
                  refine S.b6 ?_
                  refine S.to ?_ (hk11 () trivial)
                  exact ⟨rfl, rfl, rfl, rfl, rfl, rfl, rfl, rfl, rfl, trivial⟩
                · replace h := cond_f b272 h
                  obtain ⟨x274, hx275, h⟩ := opt_bind h
                  obtain ⟨r276, hr277, hc278⟩ := relR.at hrel230 hx275
                  obtain ⟨u279, hu280, hru281⟩ := hc278.sl 7 rfl
                  refine S.draw' (Z := fun Q => ∀ (_ : Unit) (_ : Unit) (_ : Unit) (_ : Unit) (_ : Unit) (_ : Unit) (_ : Unit) (_ : Unit) (_ : Unit) (_ : Unit) (_ : Unit) (_ : Unit) (_ : Unit), Q [(0, v0), (2, .bool false), (3, .bool t1), (6, .int .i64 x6_1), (4, bp b6 0), (5, v8), (7, bp b16 0), (11, v260), (164, .bool ((t257.length : Int) != (x274.Kids.length : Int)))] [Own 65 (ekI .u64) v8 s265, Own 3 (ekI .i64) v260 t257, Box b16 [.int .i64 x14.What, .int .i64 x14.A, .int .i64 x14.B], OwnO 46 kr_ref10_Slot vy6_0_9 raws228 A229 y6_0_9, OwnO 56 kr_ref10_Obj vy6_1_9 raws224 A225 y6_1_9, Box b6 [vy6_0_9, vy6_1_9, .int .i64 y6_2_9, .int .i64 y6_3_9], F]) (T := [tS 5 (v8), tS 7 (bp b16 0), tS 4 (bp b6 0), tS 11 (v260), tE [(0, v0), (2, .bool false), (3, .bool t1), (6, .int .i64 x6_1)], tR (Own 65 (ekI .u64) v8 s259), tR (Own 3 (ekI .i64) v260 t257), tR (Box b16 [.int .i64 x14.What, .int .i64 x14.A, .int .i64 x14.B]), tR (OwnO 46 kr_ref10_Slot vy6_0_9 raws228 A229 y6_0_9), tR (OwnO 56 kr_ref10_Obj vy6_1_9 raws224 A225 y6_1_9), tR (Box b6 [vy6_0_9, vy6_1_9, .int .i64 y6_2_9, .int .i64 y6_3_9]), tR (F), tS 135 (v8), tS 136 ((plainV v8).val), tS 137 (bp b16 1), tS 138 (.int .i64 x14.A), tR (Own 65 (ekI .u64) v8 s265), tS 139 (.int .i64 t263), tS 140 (bp b6 0), tS 141 (bp b6 0), tS 142 (bp b6 0), tS 143 (vy6_0_9), tS 144 (bp b16 1), tS 145 (.int .i64 x14.A), tS 146 (idxp vy6_0_9 (x14.A.toNat * kr_ref10_Slot.sz)), tS 147 (idxp vy6_0_9 (x14.A.toNat * kr_ref10_Slot.sz + 6)), tS 148 (.int .i64 x267.Parent), tS 149 (.bool (t263 != x267.Parent)), tS 150 (.bool (t263 != x267.Parent)), tS 151 (v260), tS 152 (.int .i64 (t257.length : Int)), tS 153 (bp b6 0), tS 154 (bp b6 0), tS 155 (bp b6 0), tS 156 (vy6_0_9), tS 157 (bp b16 2), tS 158 (.int .i64 x14.B), tS 159 (idxp vy6_0_9 (x14.B.toNat * kr_ref10_Slot.sz)), tS 160 (idxp vy6_0_9 (x14.B.toNat * kr_ref10_Slot.sz + 7)), tS 161 (u279), tS 162 (.int .i64 (x274.Kids.length : Int)), tS 163 (.bool ((t257.length : Int) != (x274.Kids.length : Int))), tS 164 (.bool ((t257.length : Int) != (x274.Kids.length : Int)))]) (D := [⟨[0], [], [12]⟩, ⟨[12], [], [13]⟩, ⟨[1], [], [14]⟩, ⟨[14, 7], [], [15]⟩, ⟨[13, 15], [5], [16, 17]⟩, ⟨[2], [], [18]⟩, ⟨[18], [], [19]⟩, ⟨[19], [], [20]⟩, ⟨[20, 10], [], [21]⟩, ⟨[1], [], [22]⟩, ⟨[22, 7], [], [23]⟩, ⟨[21, 23, 8], [], [24]⟩, ⟨[24, 8], [], [25]⟩, ⟨[25, 8], [], [26]⟩, ⟨[17, 26], [], [27]⟩, ⟨[27], [], [28]⟩, ⟨[3, 28], [], [29]⟩, ⟨[28, 29, 6], [], [30]⟩, ⟨[2, 28], [], [31]⟩, ⟨[28, 31], [], [32]⟩, ⟨[28, 32], [], [33]⟩, ⟨[28, 33, 10], [], [34]⟩, ⟨[1, 28], [], [35]⟩, ⟨[28, 35, 7], [], [36]⟩, ⟨[28, 34, 36, 8], [], [37]⟩, ⟨[28, 37, 8], [], [38]⟩, ⟨[28, 38, 8], [], [39]⟩, ⟨[28, 39, 8], [], [40]⟩, ⟨[28, 30, 40], [], [41]⟩, ⟨[28, 41], [], [42]⟩]) (ini := [0, 1, 2, 3, 4, 5, 6, 7, 8, 9, 10, 11]) (fin := [4, 2, 0, 1, 3, 42, 16, 6, 7, 8, 9, 10, 11]) (bf := [[], [0], [], [2], [0, 1, 2, 3], [], [5], [5, 6], [5, 6, 7], [], [9], [5, 6, 7, 8, 9, 10], [5, 6, 7, 8, 9, 10, 11], [5, 6, 7, 8, 9, 10, 11, 12], [0, 1, 2, 3, 4, 5, 6, 7, 8, 9, 10, 11, 12, 13], [0, 1, 2, 3, 4, 5, 6, 7, 8, 9, 10, 11, 12, 13, 14], [0, 1, 2, 3, 4, 5, 6, 7, 8, 9, 10, 11, 12, 13, 14, 15], [0, 1, 2, 3, 4, 5, 6, 7, 8, 9, 10, 11, 12, 13, 14, 15, 16], [0, 1, 2, 3, 4, 5, 6, 7, 8, 9, 10, 11, 12, 13, 14, 15], [0, 1, 2, 3, 4, 5, 6, 7, 8, 9, 10, 11, 12, 13, 14, 15, 18], [0, 1, 2, 3, 4, 5, 6, 7, 8, 9, 10, 11, 12, 13, 14, 15, 18, 19], [0, 1, 2, 3, 4, 5, 6, 7, 8, 9, 10, 11, 12, 13, 14, 15, 18, 19, 20], [0, 1, 2, 3, 4, 5, 6, 7, 8, 9, 10, 11, 12, 13, 14, 15], [0, 1, 2, 3, 4, 5, 6, 7, 8, 9, 10, 11, 12, 13, 14, 15, 22], [0, 1, 2, 3, 4, 5, 6, 7, 8, 9, 10, 11, 12, 13, 14, 15, 18, 19, 20, 21, 22, 23], [0, 1, 2, 3, 4, 5, 6, 7, 8, 9, 10, 11, 12, 13, 14, 15, 18, 19, 20, 21, 22, 23, 24], [0, 1, 2, 3, 4, 5, 6, 7, 8, 9, 10, 11, 12, 13, 14, 15, 18, 19, 20, 21, 22, 23, 24, 25], [0, 1, 2, 3, 4, 5, 6, 7, 8, 9, 10, 11, 12, 13, 14, 15, 18, 19, 20, 21, 22, 23, 24, 25, 26], [0, 1, 2, 3, 4, 5, 6, 7, 8, 9, 10, 11, 12, 13, 14, 15, 16, 17, 18, 19, 20, 21, 22, 23, 24, 25, 26, 27], [0, 1, 2, 3, 4, 5, 6, 7, 8, 9, 10, 11, 12, 13, 14, 15, 16, 17, 18, 19, 20, 21, 22, 23, 24, 25, 26, 27, 28]]) (by kernel_rfl) (by kernel_rfl) (fun x w h1 h2 => (.cons () (.cons () (.cons () (.cons () (.cons () (.cons () (.cons () (.cons () (.cons () (.cons () (.cons () (.cons () (.nil ⟨EnvAll.of h1 ⟨rfl, rfl, rfl, rfl, rfl, rfl, rfl, rfl, trivial⟩, h2⟩)))))))))))))) (fun Q => by kernel_rfl) ⟨?_, ?_, ?_, ?_, ?_, ?_, ?_, ?_, ?_, ?_, ?_, ?_, ?_, ?_, ?_, ?_, ?_, ?_, ?_, ?_, ?_, ?_, ?_, ?_, ?_, ?_, ?_, ?_, ?_, ?_, trivial⟩ ?_
                  · rintro Fr _
                    refine SO.v rfl (opv_move rfl) ?_
                    exact SO.nilZ fun a w h1 h2 h3 h4 h5 => PZ.of h1 h3 h5 (.cons () (.cons () (.nil ⟨EnvAll.of h2 ⟨rfl, rfl, trivial⟩, h4⟩)))
                  · rintro Fr _
                    refine SO.v rfl (opv_iface Try.underlying27 rfl rfl) ?_
                    exact SO.nilZ fun a w h1 h2 h3 h4 h5 => PZ.of h1 h3 h5 (.cons () (.cons () (.nil ⟨EnvAll.of h2 ⟨rfl, rfl, trivial⟩, h4⟩)))
                  · rintro Fr _
                    refine SO.v rfl (opv_fieldAddr Try.underlying29 rfl Try.sizeOf3 rfl rfl) ?_
                    exact SO.nilZ fun a w h1 h2 h3 h4 h5 => PZ.of h1 h3 h5 (.cons () (.cons () (.nil ⟨EnvAll.of h2 ⟨rfl, rfl, trivial⟩, h4⟩)))
                  · rintro Fr _ _
                    refine SO.load1 rfl Try.isAgg3 rfl rfl ?_
                    exact SO.nilZ fun a w h1 h2 h3 h4 h5 => PZ.of h1 h3 h5 (.cons () (.cons () (.cons () (.nil ⟨EnvAll.of h2 ⟨rfl, rfl, trivial⟩, h4⟩))))
                  · rintro Fr _ _ _
                    refine SO.call (pre := [(plainV v8).rep _]) rfl Try.call21 rfl rfl rfl (cdt_Parent.ct (plainV v8) _ _ _ _ ht264) trivial ?_
                    rintro _ _ ⟨rfl, rfl⟩
                    refine headEq (plainV_rep _ _) ?_
                    refine SO.rd fun hr266 => ?_
                    exact SO.nilZ fun a w h1 h2 h3 h4 h5 => PZ.of h1 h3 h5 (.cons () (.cons () (.cons () (.cons () (.nil ⟨EnvAll.of h2 ⟨rfl, rfl, rfl, trivial⟩, h4⟩)))))
                  · rintro Fr _
                    refine SO.v rfl (opv_move rfl) ?_
                    exact SO.nilZ fun a w h1 h2 h3 h4 h5 => PZ.of h1 h3 h5 (.cons () (.cons () (.nil ⟨EnvAll.of h2 ⟨rfl, rfl, trivial⟩, h4⟩)))
                  · rintro Fr _
                    refine SO.v rfl (opv_nilCheck rfl) ?_
                    exact SO.nilZ fun a w h1 h2 h3 h4 h5 => PZ.of h1 h3 h5 (.cons () (.cons () (.nil ⟨EnvAll.of h2 ⟨rfl, rfl, trivial⟩, h4⟩)))
                  · rintro Fr _
                    refine SO.v rfl (opv_fieldAddr Try.underlying50 rfl Try.sizeOf47 rfl rfl) ?_
                    exact SO.nilZ fun a w h1 h2 h3 h4 h5 => PZ.of h1 h3 h5 (.cons () (.cons () (.nil ⟨EnvAll.of h2 ⟨rfl, rfl, trivial⟩, h4⟩)))
                  · rintro Fr _ _
                    refine SO.load1 rfl Try.isAgg47 rfl rfl ?_
                    exact SO.nilZ fun a w h1 h2 h3 h4 h5 => PZ.of h1 h3 h5 (.cons () (.cons () (.cons () (.nil ⟨EnvAll.of h2 ⟨rfl, rfl, trivial⟩, h4⟩))))
                  · rintro Fr _
                    refine SO.v rfl (opv_fieldAddr Try.underlying29 rfl Try.sizeOf3 rfl rfl) ?_
                    exact SO.nilZ fun a w h1 h2 h3 h4 h5 => PZ.of h1 h3 h5 (.cons () (.cons () (.nil ⟨EnvAll.of h2 ⟨rfl, rfl, trivial⟩, h4⟩)))
                  · rintro Fr _ _
                    refine SO.load1 rfl Try.isAgg3 rfl rfl ?_
                    exact SO.nilZ fun a w h1 h2 h3 h4 h5 => PZ.of h1 h3 h5 (.cons () (.cons () (.cons () (.nil ⟨EnvAll.of h2 ⟨rfl, rfl, trivial⟩, h4⟩))))
                  · rintro Fr _ _ _
                    refine SO.v rfl (opv_idx Try.underlying47 Try.sizeOf46 hR231 rfl rfl hr270) ?_
                    exact SO.nilZ fun a w h1 h2 h3 h4 h5 => PZ.of h1 h3 h5 (.cons () (.cons () (.cons () (.cons () (.nil ⟨EnvAll.of h2 ⟨rfl, rfl, rfl, trivial⟩, h4⟩)))))
                  · rintro Fr _ _
                    refine SO.v rfl (opv_fieldIdx Try.underlying46 rfl Try.sizeOf3 hR231 hr270 rfl rfl) ?_
                    exact SO.nilZ fun a w h1 h2 h3 h4 h5 => PZ.of h1 h3 h5 (.cons () (.cons () (.cons () (.nil ⟨EnvAll.of h2 ⟨rfl, rfl, trivial⟩, h4⟩))))
                  · rintro Fr _ _
                    refine SO.loadI1 (j := 6) rfl Try.isAgg3 (Rd.head hR231) hr270 rfl rfl rfl (hc271.val rfl) ?_
                    exact SO.nilZ fun a w h1 h2 h3 h4 h5 => PZ.of h1 h3 h5 (.cons () (.cons () (.cons () (.nil ⟨EnvAll.of h2 ⟨rfl, rfl, trivial⟩, h4⟩))))
                  · rintro Fr _ _
                    refine SO.v rfl (opv_neq rfl rfl) ?_
                    exact SO.nilZ fun a w h1 h2 h3 h4 h5 => PZ.of h1 h3 h5 (.cons () (.cons () (.cons () (.nil ⟨EnvAll.of h2 ⟨rfl, rfl, rfl, trivial⟩, h4⟩))))
                  · rintro Fr _
                    refine SO.v rfl (opv_move rfl) ?_
                    exact SO.nilZ fun a w h1 h2 h3 h4 h5 => PZ.of h1 h3 h5 (.cons () (.cons () (.nil ⟨EnvAll.of h2 ⟨rfl, rfl, trivial⟩, h4⟩)))
                  · rintro Fr _ _
                    refine SO.takeT rfl rfl rfl b272 ?_
                    refine SO.v rfl (opv_move rfl) ?_
                    exact SO.nilZ fun a w h1 h2 h3 h4 h5 => PZ.of h1 h3 h5 (.cons () (.cons () (.cons () (.nil ⟨EnvAll.of h2 ⟨rfl, rfl, rfl, trivial⟩, h4⟩))))
                  · rintro Fr _ _ _
                    refine SO.takeT rfl rfl rfl b272 ?_
                    refine SO.v rfl (opv_lenR rfl Try.underlying41 hr261 rfl) ?_
                    exact SO.nilZ fun a w h1 h2 h3 h4 h5 => PZ.of h1 h3 h5 (.cons () (.cons () (.cons () (.cons () (.nil ⟨EnvAll.of h2 ⟨rfl, rfl, rfl, trivial⟩, h4⟩)))))
                  · rintro Fr _ _
                    refine SO.takeT rfl rfl rfl b272 ?_
                    refine SO.v rfl (opv_move rfl) ?_
                    exact SO.nilZ fun a w h1 h2 h3 h4 h5 => PZ.of h1 h3 h5 (.cons () (.cons () (.cons () (.nil ⟨EnvAll.of h2 ⟨rfl, rfl, rfl, trivial⟩, h4⟩))))
                  · rintro Fr _ _
                    refine SO.takeT rfl rfl rfl b272 ?_
                    refine SO.v rfl (opv_nilCheck rfl) ?_
                    exact SO.nilZ fun a w h1 h2 h3 h4 h5 => PZ.of h1 h3 h5 (.cons () (.cons () (.cons () (.nil ⟨EnvAll.of h2 ⟨rfl, rfl, rfl, trivial⟩, h4⟩))))
                  · rintro Fr _ _
                    refine SO.takeT rfl rfl rfl b272 ?_
                    refine SO.v rfl (opv_fieldAddr Try.underlying50 rfl Try.sizeOf47 rfl rfl) ?_
                    exact SO.nilZ fun a w h1 h2 h3 h4 h5 => PZ.of h1 h3 h5 (.cons () (.cons () (.cons () (.nil ⟨EnvAll.of h2 ⟨rfl, rfl, rfl, trivial⟩, h4⟩))))
                  · rintro Fr _ _ _
                    refine SO.takeT rfl rfl rfl b272 ?_
                    refine SO.load1 rfl Try.isAgg47 rfl rfl ?_
                    exact SO.nilZ fun a w h1 h2 h3 h4 h5 => PZ.of h1 h3 h5 (.cons () (.cons () (.cons () (.cons () (.nil ⟨EnvAll.of h2 ⟨rfl, rfl, rfl, trivial⟩, h4⟩)))))
                  · rintro Fr _ _
                    refine SO.takeT rfl rfl rfl b272 ?_
                    refine SO.v rfl (opv_fieldAddr Try.underlying29 rfl Try.sizeOf3 rfl rfl) ?_
                    exact SO.nilZ fun a w h1 h2 h3 h4 h5 => PZ.of h1 h3 h5 (.cons () (.cons () (.cons () (.nil ⟨EnvAll.of h2 ⟨rfl, rfl, rfl, trivial⟩, h4⟩))))
                  · rintro Fr _ _ _
                    refine SO.takeT rfl rfl rfl b272 ?_
                    refine SO.load1 rfl Try.isAgg3 rfl rfl ?_
                    exact SO.nilZ fun a w h1 h2 h3 h4 h5 => PZ.of h1 h3 h5 (.cons () (.cons () (.cons () (.cons () (.nil ⟨EnvAll.of h2 ⟨rfl, rfl, rfl, trivial⟩, h4⟩)))))
                  · rintro Fr _ _ _ _
                    refine SO.takeT rfl rfl rfl b272 ?_
                    refine SO.v rfl (opv_idx Try.underlying47 Try.sizeOf46 hR231 rfl rfl hr277) ?_
                    exact SO.nilZ fun a w h1 h2 h3 h4 h5 => PZ.of h1 h3 h5 (.cons () (.cons () (.cons () (.cons () (.cons () (.nil ⟨EnvAll.of h2 ⟨rfl, rfl, rfl, rfl, trivial⟩, h4⟩))))))
                  · rintro Fr _ _ _
                    refine SO.takeT rfl rfl rfl b272 ?_
                    refine SO.v rfl (opv_fieldIdx Try.underlying46 rfl Try.sizeOf41 hR231 hr277 rfl rfl) ?_
                    exact SO.nilZ fun a w h1 h2 h3 h4 h5 => PZ.of h1 h3 h5 (.cons () (.cons () (.cons () (.cons () (.nil ⟨EnvAll.of h2 ⟨rfl, rfl, rfl, trivial⟩, h4⟩)))))
                  · rintro Fr _ _ _
                    refine SO.takeT rfl rfl rfl b272 ?_
                    refine SO.loadI1 (j := 7) rfl Try.isAgg41 (Rd.head hR231) hr277 rfl rfl rfl hu280 ?_
                    exact SO.nilZ fun a w h1 h2 h3 h4 h5 => PZ.of h1 h3 h5 (.cons () (.cons () (.cons () (.cons () (.nil ⟨EnvAll.of h2 ⟨rfl, rfl, rfl, trivial⟩, h4⟩)))))
                  · rintro Fr _ _ _
                    refine SO.takeT rfl rfl rfl b272 ?_
                    refine SO.v rfl (opv_lenR rfl Try.underlying41 hru281 rfl) ?_
                    exact SO.nilZ fun a w h1 h2 h3 h4 h5 => PZ.of h1 h3 h5 (.cons () (.cons () (.cons () (.cons () (.nil ⟨EnvAll.of h2 ⟨rfl, rfl, rfl, trivial⟩, h4⟩)))))
                  · rintro Fr _ _ _
                    refine SO.takeT rfl rfl rfl b272 ?_
                    refine SO.v rfl (opv_neq rfl rfl) ?_
                    exact SO.nilZ fun a w h1 h2 h3 h4 h5 => PZ.of h1 h3 h5 (.cons () (.cons () (.cons () (.cons () (.nil ⟨EnvAll.of h2 ⟨rfl, rfl, rfl, rfl, trivial⟩, h4⟩)))))
                  · rintro Fr _ _
                    refine SO.v rfl (opv_pick_f' b272 rfl rfl) ?_
                    exact SO.nilZ fun a w h1 h2 h3 h4 h5 => PZ.of h1 h3 h5 (.cons () (.cons () (.cons () (.nil ⟨EnvAll.of h2 ⟨rfl, rfl, rfl, trivial⟩, h4⟩))))
                  rintro _ _ _ _ _ _ _ _ _ _ _ _ _
                  refine S.to (ρ' := [(0, v0), (2, .bool false), (3, .bool t1), (6, .int .i64 x6_1), (4, bp b6 0), (5, v8), (7, bp b16 0), (11, v260), (164, .bool ((t257.length : Int) != (x274.Kids.length : Int)))]) ⟨rfl, rfl, rfl, rfl, rfl, rfl, rfl, rfl, rfl, trivial⟩ ?_
                  refine S.rd fun hr282 => ?_
                  cases h
                  refine S.b6 ?_
                  refine S.b6 ?_
                  refine S.b6 ?_
                  refine S.b6 ?_
                  refine S.b6 ?_
                  refine S.b6 ?_
                  refine S.b6 ?_
                  refine S.to ?_ (hk11 () trivial)
                  exact ⟨rfl, rfl, rfl, rfl, rfl, rfl, rfl, rfl, rfl, trivial⟩
              rintro _ -
              replace h := hJ11
              refine S.rd fun hr283 => ?_
              rcases bool_or j164_11 with b284 | b284
              · replace h := cond_t b284 h
                refine S.condT rfl b284 ?_
                refine S.seq ?_
                refine S.region ?_
                refine SO.v rfl (opv_assign rfl) ?_
                refine SO.nil ?_
                refine S.to (ρ' := [(2, .bool false)]) ⟨rfl, trivial⟩ ?_
                cases h
                replace h := hK1.1 _ rfl
                cases h
                refine S.b3 ?_
                refine S.closeR ?_
                refine S.b4 ?_
                refine S.closeR ?_
                refine S.drop ?_
                refine S.drop ?_
                refine S.drop ?_
                refine S.drop ?_
                refine S.drop ?_
                refine S.drop ?_
                exact S.ret1 Try.func3 rfl rfl (fun w hs hk => hR w _ _ ⟨rfl, rfl⟩ hs hk)
              · replace h := cond_f b284 h
                refine S.condF rfl b284 ?_
                refine S.skip ?_
                refine S.seq ?_
                refine S.region ?_
                refine SO.v rfl (opv_assign rfl) ?_
                refine SO.nil ?_
                obtain ⟨o12, hl12, h⟩ := opt_bind h
                refine S.b6 ?_
                refine S.b6 ?_
                refine S.b6 ?_
                refine S.b6 ?_
                refine S.b6 ?_
                refine S.b6 ?_
                refine S.b6 ?_
                refine S.to (ρ' := [(12, .int .i64 0), (0, v0), (2, .bool false), (3, .bool t1), (4, bp b6 0), (5, v8), (6, .int .i64 x6_1), (7, bp b16 0), (11, v260)]) ⟨rfl, rfl, rfl, rfl, rfl, rfl, rfl, rfl, rfl, trivial⟩ ?_
                refine S.forloop (X := Int × Unit) (O := Brk Bool Unit) (fun m x => law10_CdtPlays.l12 x14 y6_0_9 t257 m x.1) (fun x => match x with | (x12_12, _) => [(12, .int .i64 x12_12), (0, v0), (2, .bool false), (3, .bool t1), (4, bp b6 0), (5, v8), (6, .int .i64 x6_1), (7, bp b16 0), (11, v260)]) (fun x => match x with | (x12_12, _) => [Own 65 (ekI .u64) v8 qv8_11, Own 3 (ekI .i64) v260 t257, Box b16 [.int .i64 x14.What, .int .i64 x14.A, .int .i64 x14.B], OwnO 46 kr_ref10_Slot vy6_0_9 raws228 A229 y6_0_9, OwnO 56 kr_ref10_Obj vy6_1_9 raws224 A225 y6_1_9, Box b6 [vy6_0_9, vy6_1_9, .int .i64 y6_2_9, .int .i64 y6_3_9], F]) (fun Sk o' => (∀ r', o' = Brk.ret r' → some (Brk.ret r') = some o_1) ∧ ∀ _ : Unit, ∀ _ : Unit, o' = Brk.nx () → Sk [(0, v0), (2, .bool false), (3, .bool t1), (4, bp b6 0), (5, v8), (6, .int .i64 x6_1)] [Own 65 (ekI .u64) v8 qv8_11, Own 3 (ekI .i64) v260 t257, Box b16 [.int .i64 x14.What, .int .i64 x14.A, .int .i64 x14.B], OwnO 46 kr_ref10_Slot vy6_0_9 raws228 A229 y6_0_9, OwnO 56 kr_ref10_Obj vy6_1_9 raws224 A225 y6_1_9, Box b6 [vy6_0_9, vy6_1_9, .int .i64 y6_2_9, .int .i64 y6_3_9], F]) (fun _ => rfl) ?_ (m := k) (x := (0, ())) hl12 ?_
                · clear h hl12
                  intro k x o_12 h hK12 ih12
                  obtain ⟨x12_12, _⟩ := x
                  replace h : law10_CdtPlays.l12 x14 y6_0_9 t257 (k + 1) x12_12 = some o_12 := h
                  first | rw [law10_CdtPlays.l12] at h | unfold law10_CdtPlays.l12 at h
                  refine S.seq ?_
                  refine S.seq ?_
                  refine S.region ?_
                  refine SO.v rfl (opv_move rfl) ?_
                  refine SO.v rfl (opv_move rfl) ?_
                  refine SO.v rfl (opv_lenR rfl Try.underlying41 hr261 rfl) ?_
                  refine SO.v rfl (opv_lss rfl rfl) ?_
                  refine SO.nil ?_
                  rcases bool_or (decide (x12_12 < (t257.length : Int))) with b285 | b285
                  · replace h := cond_t b285 h
                    refine S.condT rfl b285 ?_
                    refine S.skip ?_
                    refine S.seq ?_
                    refine S.block ?_
                    refine S.seq ?_
                    obtain ⟨x286, hx287, h⟩ := opt_bind h
                    obtain ⟨x288, hx289, h⟩ := opt_bind h
                    obtain ⟨r290, hr291, hc292⟩ := relR.at hrel230 hx289
                    obtain ⟨u293, hu294, hru295⟩ := hc292.sl 7 rfl
                    obtain ⟨x296, hx297, h⟩ := opt_bind h
                    refine S.draw' (Z := fun Q => ∀ (_ : Unit) (_ : Unit) (_ : Unit) (_ : Unit) (_ : Unit) (_ : Unit) (_ : Unit) (_ : Unit) (_ : Unit) (_ : Unit) (_ : Unit) (_ : Unit) (_ : Unit), Q [(12, .int .i64 x12_12), (0, v0), (2, .bool false), (3, .bool t1), (5, v8), (6, .int .i64 x6_1), (4, bp b6 0), (7, bp b16 0), (11, v260), (187, .bool (x286 != x296))] [Own 65 (ekI .u64) v8 qv8_11, Own 3 (ekI .i64) v260 t257, Box b16 [.int .i64 x14.What, .int .i64 x14.A, .int .i64 x14.B], OwnO 46 kr_ref10_Slot vy6_0_9 raws228 A229 y6_0_9, OwnO 56 kr_ref10_Obj vy6_1_9 raws224 A225 y6_1_9, Box b6 [vy6_0_9, vy6_1_9, .int .i64 y6_2_9, .int .i64 y6_3_9], F]) (T := [tS 11 (v260), tS 12 (.int .i64 x12_12), tS 4 (bp b6 0), tS 7 (bp b16 0), tE [(0, v0), (2, .bool false), (3, .bool t1), (5, v8), (6, .int .i64 x6_1)], tR (Own 65 (ekI .u64) v8 qv8_11), tR (Own 3 (ekI .i64) v260 t257), tR (Box b16 [.int .i64 x14.What, .int .i64 x14.A, .int .i64 x14.B]), tR (OwnO 46 kr_ref10_Slot vy6_0_9 raws228 A229 y6_0_9), tR (OwnO 56 kr_ref10_Obj vy6_1_9 raws224 A225 y6_1_9), tR (Box b6 [vy6_0_9, vy6_1_9, .int .i64 y6_2_9, .int .i64 y6_3_9]), tR (F), tS 171 (v260), tS 172 (.int .i64 x12_12), tS 173 (idxp v260 (x12_12.toNat * (ekI .i64).sz)), tS 174 (.int .i64 x286), tS 175 (bp b6 0), tS 176 (bp b6 0), tS 177 (bp b6 0), tS 178 (vy6_0_9), tS 179 (bp b16 2), tS 180 (.int .i64 x14.B), tS 181 (idxp vy6_0_9 (x14.B.toNat * kr_ref10_Slot.sz)), tS 182 (idxp vy6_0_9 (x14.B.toNat * kr_ref10_Slot.sz + 7)), tS 183 (u293), tS 184 (.int .i64 x12_12), tS 185 (idxp u293 (x12_12.toNat * (ekI .i64).sz)), tS 186 (.int .i64 x296), tS 187 (.bool (x286 != x296))]) (D := [⟨[0], [], [12]⟩, ⟨[1], [], [13]⟩, ⟨[12, 13, 6], [], [14]⟩, ⟨[14, 6], [], [15]⟩, ⟨[2], [], [16]⟩, ⟨[16], [], [17]⟩, ⟨[17], [], [18]⟩, ⟨[18, 10], [], [19]⟩, ⟨[3], [], [20]⟩, ⟨[20, 7], [], [21]⟩, ⟨[19, 21, 8], [], [22]⟩, ⟨[22, 8], [], [23]⟩, ⟨[23, 8], [], [24]⟩, ⟨[1], [], [25]⟩, ⟨[24, 25, 8], [], [26]⟩, ⟨[26, 8], [], [27]⟩, ⟨[15, 27], [], [28]⟩]) (ini := [0, 1, 2, 3, 4, 5, 6, 7, 8, 9, 10, 11]) (fin := [1, 4, 2, 3, 0, 28, 5, 6, 7, 8, 9, 10, 11]) (bf := [[], [], [0, 1], [0, 1, 2], [], [4], [4, 5], [4, 5, 6], [], [8], [4, 5, 6, 7, 8, 9], [4, 5, 6, 7, 8, 9, 10], [4, 5, 6, 7, 8, 9, 10, 11], [], [4, 5, 6, 7, 8, 9, 10, 11, 12, 13], [4, 5, 6, 7, 8, 9, 10, 11, 12, 13, 14], [0, 1, 2, 3, 4, 5, 6, 7, 8, 9, 10, 11, 12, 13, 14, 15]]) (by kernel_rfl) (by kernel_rfl) (fun x w h1 h2 => (.cons () (.cons () (.cons () (.cons () (.cons () (.cons () (.cons () (.cons () (.cons () (.cons () (.cons () (.cons () (.nil ⟨EnvAll.of h1 ⟨rfl, rfl, rfl, rfl, rfl, rfl, rfl, rfl, rfl, trivial⟩, h2⟩)))))))))))))) (fun Q => by kernel_rfl) ⟨?_, ?_, ?_, ?_, ?_, ?_, ?_, ?_, ?_, ?_, ?_, ?_, ?_, ?_, ?_, ?_, ?_, trivial⟩ ?_
                    · rintro Fr _
                      refine SO.v rfl (opv_move rfl) ?_
                      exact SO.nilZ fun a w h1 h2 h3 h4 h5 => PZ.of h1 h3 h5 (.cons () (.cons () (.nil ⟨EnvAll.of h2 ⟨rfl, rfl, trivial⟩, h4⟩)))
                    · rintro Fr _
                      refine SO.v rfl (opv_move rfl) ?_
                      exact SO.nilZ fun a w h1 h2 h3 h4 h5 => PZ.of h1 h3 h5 (.cons () (.cons () (.nil ⟨EnvAll.of h2 ⟨rfl, rfl, trivial⟩, h4⟩)))
                    · rintro Fr _ _ _
                      refine SO.v rfl (opv_idx Try.underlying41 Try.sizeOf3 hr261 rfl rfl hx287) ?_
                      exact SO.nilZ fun a w h1 h2 h3 h4 h5 => PZ.of h1 h3 h5 (.cons () (.cons () (.cons () (.cons () (.nil ⟨EnvAll.of h2 ⟨rfl, rfl, rfl, trivial⟩, h4⟩)))))
                    · rintro Fr _ _
                      refine SO.loadI1 (j := 0) rfl Try.isAgg3 (Rd.head hr261) hx287 rfl rfl rfl rfl ?_
                      exact SO.nilZ fun a w h1 h2 h3 h4 h5 => PZ.of h1 h3 h5 (.cons () (.cons () (.cons () (.nil ⟨EnvAll.of h2 ⟨rfl, rfl, trivial⟩, h4⟩))))
                    · rintro Fr _
                      refine SO.v rfl (opv_move rfl) ?_
                      exact SO.nilZ fun a w h1 h2 h3 h4 h5 => PZ.of h1 h3 h5 (.cons () (.cons () (.nil ⟨EnvAll.of h2 ⟨rfl, rfl, trivial⟩, h4⟩)))
                    · rintro Fr _
                      refine SO.v rfl (opv_nilCheck rfl) ?_
                      exact SO.nilZ fun a w h1 h2 h3 h4 h5 => PZ.of h1 h3 h5 (.cons () (.cons () (.nil ⟨EnvAll.of h2 ⟨rfl, rfl, trivial⟩, h4⟩)))
                    · rintro Fr _
                      refine SO.v rfl (opv_fieldAddr Try.underlying50 rfl Try.sizeOf47 rfl rfl) ?_
                      exact SO.nilZ fun a w h1 h2 h3 h4 h5 => PZ.of h1 h3 h5 (.cons () (.cons () (.nil ⟨EnvAll.of h2 ⟨rfl, rfl, trivial⟩, h4⟩)))
                    · rintro Fr _ _
                      refine SO.load1 rfl Try.isAgg47 rfl rfl ?_
                      exact SO.nilZ fun a w h1 h2 h3 h4 h5 => PZ.of h1 h3 h5 (.cons () (.cons () (.cons () (.nil ⟨EnvAll.of h2 ⟨rfl, rfl, trivial⟩, h4⟩))))
                    · rintro Fr _
                      refine SO.v rfl (opv_fieldAddr Try.underlying29 rfl Try.sizeOf3 rfl rfl) ?_
                      exact SO.nilZ fun a w h1 h2 h3 h4 h5 => PZ.of h1 h3 h5 (.cons () (.cons () (.nil ⟨EnvAll.of h2 ⟨rfl, rfl, trivial⟩, h4⟩)))
                    · rintro Fr _ _
                      refine SO.load1 rfl Try.isAgg3 rfl rfl ?_
                      exact SO.nilZ fun a w h1 h2 h3 h4 h5 => PZ.of h1 h3 h5 (.cons () (.cons () (.cons () (.nil ⟨EnvAll.of h2 ⟨rfl, rfl, trivial⟩, h4⟩))))
                    · rintro Fr _ _ _
                      refine SO.v rfl (opv_idx Try.underlying47 Try.sizeOf46 hR231 rfl rfl hr291) ?_
                      exact SO.nilZ fun a w h1 h2 h3 h4 h5 => PZ.of h1 h3 h5 (.cons () (.cons () (.cons () (.cons () (.nil ⟨EnvAll.of h2 ⟨rfl, rfl, rfl, trivial⟩, h4⟩)))))
                    · rintro Fr _ _
                      refine SO.v rfl (opv_fieldIdx Try.underlying46 rfl Try.sizeOf41 hR231 hr291 rfl rfl) ?_
                      exact SO.nilZ fun a w h1 h2 h3 h4 h5 => PZ.of h1 h3 h5 (.cons () (.cons () (.cons () (.nil ⟨EnvAll.of h2 ⟨rfl, rfl, trivial⟩, h4⟩))))
                    · rintro Fr _ _
                      refine SO.loadI1 (j := 7) rfl Try.isAgg41 (Rd.head hR231) hr291 rfl rfl rfl hu294 ?_
                      exact SO.nilZ fun a w h1 h2 h3 h4 h5 => PZ.of h1 h3 h5 (.cons () (.cons () (.cons () (.nil ⟨EnvAll.of h2 ⟨rfl, rfl, trivial⟩, h4⟩))))
                    · rintro Fr _
                      refine SO.v rfl (opv_move rfl) ?_
                      exact SO.nilZ fun a w h1 h2 h3 h4 h5 => PZ.of h1 h3 h5 (.cons () (.cons () (.nil ⟨EnvAll.of h2 ⟨rfl, rfl, trivial⟩, h4⟩)))
                    · rintro Fr _ _ _
                      refine SO.v rfl (opv_idx Try.underlying41 Try.sizeOf3 hru295 rfl rfl hx297) ?_
                      exact SO.nilZ fun a w h1 h2 h3 h4 h5 => PZ.of h1 h3 h5 (.cons () (.cons () (.cons () (.cons () (.nil ⟨EnvAll.of h2 ⟨rfl, rfl, rfl, trivial⟩, h4⟩)))))
                    · rintro Fr _ _
                      refine SO.loadI1 (j := 0) rfl Try.isAgg3 (Rd.head (Rd.pool hru295)) hx297 rfl rfl rfl rfl ?_
                      exact SO.nilZ fun a w h1 h2 h3 h4 h5 => PZ.of h1 h3 h5 (.cons () (.cons () (.cons () (.nil ⟨EnvAll.of h2 ⟨rfl, rfl, trivial⟩, h4⟩))))
                    · rintro Fr _ _
                      refine SO.v rfl (opv_neq rfl rfl) ?_
                      exact SO.nilZ fun a w h1 h2 h3 h4 h5 => PZ.of h1 h3 h5 (.cons () (.cons () (.cons () (.nil ⟨EnvAll.of h2 ⟨rfl, rfl, rfl, trivial⟩, h4⟩))))
                    rintro _ _ _ _ _ _ _ _ _ _ _ _ _
                    refine S.to (ρ' := [(12, .int .i64 x12_12), (0, v0), (2, .bool false), (3, .bool t1), (5, v8), (6, .int .i64 x6_1), (4, bp b6 0), (7, bp b16 0), (11, v260), (187, .bool (x286 != x296))]) ⟨rfl, rfl, rfl, rfl, rfl, rfl, rfl, rfl, rfl, rfl, trivial⟩ ?_
                    rcases bool_or (x286 != x296) with b298 | b298
                    · replace h := cond_t b298 h
                      refine S.condT rfl b298 ?_
                      refine S.seq ?_
                      refine S.region ?_
                      refine SO.v rfl (opv_assign rfl) ?_
                      refine SO.nil ?_
                      refine S.to (ρ' := [(2, .bool false)]) ⟨rfl, trivial⟩ ?_
                      cases h
                      replace h := hK12.1 _ rfl
                      cases h
                      replace h := hK1.1 _ rfl
                      cases h
                      refine S.b3 ?_
                      refine S.closeR ?_
                      refine S.b4 ?_
                      refine S.closeR ?_
                      refine S.drop ?_
                      refine S.drop ?_
                      refine S.drop ?_
                      refine S.drop ?_
                      refine S.drop ?_
                      refine S.drop ?_
                      exact S.ret1 Try.func3 rfl rfl (fun w hs hk => hR w _ _ ⟨rfl, rfl⟩ hs hk)
                    · replace h := cond_f b298 h
                      refine S.condF rfl b298 ?_
                      refine S.skip ?_
                      refine S.inBlock ?_
                      refine S.region ?_
                      refine SO.v rfl (opv_move rfl) ?_
                      refine SO.v rfl (opv_add rfl rfl) ?_
                      refine SO.v rfl (opv_assign rfl) ?_
                      refine SO.nil ?_
                      refine S.b6 ?_
                      refine S.b6 ?_
                      refine S.b6 ?_
                      refine S.b6 ?_
                      refine S.b6 ?_
                      refine S.b6 ?_
                      refine S.b6 ?_
                      refine S.to ?_ (ih12 (w64 (x12_12 + 1), ()) h)
                      exact ⟨rfl, rfl, rfl, rfl, rfl, rfl, rfl, rfl, rfl, trivial⟩
                  · replace h := cond_f b285 h
                    refine S.condF rfl b285 ?_
                    refine S.exit rfl ?_
                    cases h
                    refine S.b6 ?_
                    refine S.b6 ?_
                    refine S.b6 ?_
                    refine S.b6 ?_
                    refine S.b6 ?_
                    refine S.b6 ?_
                    refine S.b6 ?_
                    refine S.to ?_ (hK12.2 () () rfl)
                    exact ⟨rfl, rfl, rfl, rfl, rfl, rfl, trivial⟩
                refine ⟨fun r' e' => ?_, ?_⟩
                · subst e'
                  have h9 := Brk.of_ret h
                  exact h9
                rintro _ _ e'
                subst e'
                replace h := Brk.of_nx h
                refine S.inBlock ?_
                refine S.region ?_
                refine SO.v rfl (opv_move rfl) ?_
                refine SO.v rfl (opv_add rfl rfl) ?_
                refine SO.v rfl (opv_assign rfl) ?_
                refine SO.nil ?_
                refine S.b3 ?_
                refine S.closeR ?_
                refine S.b4 ?_
                refine S.closeR ?_
                refine S.b3 ?_
                refine S.drop ?_
                refine S.b3 ?_
                refine S.drop ?_
                refine S.b4 ?_
                refine S.b4 ?_
                refine S.b4 ?_
                refine S.b4 ?_
                refine S.b4 ?_
                refine S.to ?_ (ih1 ((w64 (x6_1 + 1), y6_0_9, y6_1_9, y6_2_9, y6_3_9, qv8_11), (vy6_0_9, vy6_1_9)) h)
                exact ⟨rfl, rfl, rfl, rfl, rfl, rfl, trivial⟩
      · replace h := cond_f b13 h
        refine S.condF rfl b13 ?_
        refine S.exit rfl ?_
        cases h
        refine S.b4 ?_
        refine S.b4 ?_
        refine S.b2 ?_
        refine S.b4 ?_
        refine S.b4 ?_
        refine S.to ?_ (hK1.2 (y6_0_1, y6_1_1, y6_2_1, y6_3_1, qv8_1) (vy6_0_1, vy6_1_1) rfl)
        exact ⟨rfl, rfl, trivial⟩
    refine ⟨fun r' e' => ?_, ?_⟩
    · subst e'
      have h9 := Brk.of_ret h
      exact h9
    rintro ⟨y6_0_e1, y6_1_e1, y6_2_e1, y6_3_e1, qv8_e1⟩ ⟨vy6_0_e1, vy6_1_e1⟩ e'
    subst e'
    replace h := Brk.of_nx h
    refine S.b2 ?_
    refine S.rd fun hr299 => ?_
    refine S.seq ?_
    refine S.region ?_
    refine SO.v rfl (opv_move rfl) ?_
    refine SO.v rfl (opv_assign rfl) ?_
    refine SO.nil ?_
    cases h
    refine S.drop ?_
    refine S.drop ?_
    refine S.drop ?_
    refine S.drop ?_
    exact S.ret1 Try.func3 rfl rfl (fun w hs hk => hR w _ _ ⟨rfl, rfl⟩ hs hk)
end Go.Proofs
