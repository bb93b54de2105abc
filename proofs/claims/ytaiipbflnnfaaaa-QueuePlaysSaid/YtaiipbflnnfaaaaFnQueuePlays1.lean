/- What the functions that QueuePlays reaches come to, and that they do. On no condition. -/
import Derived.Test.YtaiipbflnnfaaaaFnQueuePlays0
set_option linter.all false
namespace Go.Proofs
open Go.Sl Go.RowKit
/-! 3 padstone/padstonelaw14.QueuePlays -/
def law14_QueuePlays.l4 (qv8_2 : List (List Int)) (x16_3 : Int) (t76 : List Int) : Nat → Int → Option (Brk Bool (Int × Int × Bool))
  | 0, _ => none
  | k + 1, x18_4 => bif decide (x18_4 < (t76.length : Int)) then ((at_ t76 x18_4).bind fun x96 => (at_ qv8_2 x16_3).bind fun x98 => (at_ x98 x18_4).bind fun x106 => bif x96 != x106 then (some (Brk.ret false)) else (law14_QueuePlays.l4 qv8_2 x16_3 t76 k (w64 (x18_4 + 1)))) else (some (Brk.nx (x18_4, x18_4, decide (x18_4 < (t76.length : Int)))))
def law14_QueuePlays.l3 (qv8_2 : List (List Int)) : Nat → (Int × (List Int)) → Option (Brk Bool (Int × Int × Bool × (List Int)))
  | 0, _ => none
  | k + 1, (x16_3, qv4_3) => bif decide (x16_3 < 4) then ((VM.run plainI (queue_List.f k x16_3) qv4_3).bind fun (t76, s78) => (at_ qv8_2 x16_3).bind fun x82 => bif (t76.length : Int) != (x82.length : Int) then (some (Brk.ret false)) else ((law14_QueuePlays.l4 qv8_2 x16_3 t76 k 0).bind fun o4 => Brk.go o4 (fun r => some (Brk.ret r)) (fun (j18_e4, j187_e4, j190_e4) => law14_QueuePlays.l3 qv8_2 k (w64 (x16_3 + 1), s78)))) else (some (Brk.nx (x16_3, x16_3, decide (x16_3 < 4), qv4_3)))
def law14_QueuePlays.l5 (qv8_2 : List (List Int)) (qv4_e3 : List Int) : Nat → Int → Option (Brk Bool (Int × Int × Bool))
  | 0, _ => none
  | k + 1, x19_5 => bif decide (x19_5 < 32) then ((law14_in.f k qv8_2 x19_5).bind fun t115 => (bif !t115 then ((at_ qv4_e3 (w64 ((w64 (480 + (w64 (8 * x19_5)))) + 2))).bind fun x120 => some (x120 != 0)) else (some false)).bind fun c118 => bif c118 then (some (Brk.ret false)) else (law14_QueuePlays.l5 qv8_2 qv4_e3 k (w64 (x19_5 + 1)))) else (some (Brk.nx (x19_5, x19_5, decide (x19_5 < 32))))
def law14_QueuePlays.l8 (qv8_6 : List (List Int)) (x16_7 : Int) (t181 : List Int) : Nat → Int → Option (Brk Bool (Int × Int × Bool))
  | 0, _ => none
  | k + 1, x18_8 => bif decide (x18_8 < (t181.length : Int)) then ((at_ t181 x18_8).bind fun x201 => (at_ qv8_6 x16_7).bind fun x203 => (at_ x203 x18_8).bind fun x211 => bif x201 != x211 then (some (Brk.ret false)) else (law14_QueuePlays.l8 qv8_6 x16_7 t181 k (w64 (x18_8 + 1)))) else (some (Brk.nx (x18_8, x18_8, decide (x18_8 < (t181.length : Int)))))
def law14_QueuePlays.l7 (qv8_6 : List (List Int)) : Nat → (Int × (List Int)) → Option (Brk Bool (Int × Int × Bool × (List Int)))
  | 0, _ => none
  | k + 1, (x16_7, qv4_7) => bif decide (x16_7 < 4) then ((VM.run plainI (queue_List.f k x16_7) qv4_7).bind fun (t181, s183) => (at_ qv8_6 x16_7).bind fun x187 => bif (t181.length : Int) != (x187.length : Int) then (some (Brk.ret false)) else ((law14_QueuePlays.l8 qv8_6 x16_7 t181 k 0).bind fun o8 => Brk.go o8 (fun r => some (Brk.ret r)) (fun (j18_e8, j187_e8, j190_e8) => law14_QueuePlays.l7 qv8_6 k (w64 (x16_7 + 1), s183)))) else (some (Brk.nx (x16_7, x16_7, decide (x16_7 < 4), qv4_7)))
def law14_QueuePlays.l9 (qv8_6 : List (List Int)) (qv4_e7 : List Int) : Nat → Int → Option (Brk Bool (Int × Int × Bool))
  | 0, _ => none
  | k + 1, x19_9 => bif decide (x19_9 < 32) then ((law14_in.f k qv8_6 x19_9).bind fun t220 => (bif !t220 then ((at_ qv4_e7 (w64 ((w64 (480 + (w64 (8 * x19_9)))) + 2))).bind fun x225 => some (x225 != 0)) else (some false)).bind fun c223 => bif c223 then (some (Brk.ret false)) else (law14_QueuePlays.l9 qv8_6 qv4_e7 k (w64 (x19_9 + 1)))) else (some (Brk.nx (x19_9, x19_9, decide (x19_9 < 32))))
def law14_QueuePlays.l11 (qv8_1 : List (List Int)) (x14 : law14_Deed) (t17 : Int) : Nat → (Int × Bool × (List Int)) → Option (((List Int) × Bool × Int × Int × Int × Bool))
  | 0, _ => none
  | k + 1, (x15_11, x14_11, x13_11) => (at_ qv8_1 t17).bind fun x292 => bif decide (x15_11 < (x292.length : Int)) then ((at_ qv8_1 t17).bind fun x305 => (at_ x305 x15_11).bind fun x313 => bif x313 == x14.T then (law14_QueuePlays.l11 qv8_1 x14 t17 k (w64 (x15_11 + 1), true, x13_11)) else ((at_ qv8_1 t17).bind fun x316 => (at_ x316 x15_11).bind fun x324 => (app x13_11 ([x324])).bind fun zs328 => law14_QueuePlays.l11 qv8_1 x14 t17 k (w64 (x15_11 + 1), x14_11, zs328))) else (some (x13_11, x14_11, x15_11, x15_11, (x292.length : Int), decide (x15_11 < (x292.length : Int))))
def law14_QueuePlays.l13 (qv8_10 : List (List Int)) (x16_12 : Int) (t358 : List Int) : Nat → Int → Option (Brk Bool (Int × Int × Bool))
  | 0, _ => none
  | k + 1, x18_13 => bif decide (x18_13 < (t358.length : Int)) then ((at_ t358 x18_13).bind fun x378 => (at_ qv8_10 x16_12).bind fun x380 => (at_ x380 x18_13).bind fun x388 => bif x378 != x388 then (some (Brk.ret false)) else (law14_QueuePlays.l13 qv8_10 x16_12 t358 k (w64 (x18_13 + 1)))) else (some (Brk.nx (x18_13, x18_13, decide (x18_13 < (t358.length : Int)))))
def law14_QueuePlays.l12 (qv8_10 : List (List Int)) : Nat → (Int × (List Int)) → Option (Brk Bool (Int × Int × Bool × (List Int)))
  | 0, _ => none
  | k + 1, (x16_12, qv4_12) => bif decide (x16_12 < 4) then ((VM.run plainI (queue_List.f k x16_12) qv4_12).bind fun (t358, s360) => (at_ qv8_10 x16_12).bind fun x364 => bif (t358.length : Int) != (x364.length : Int) then (some (Brk.ret false)) else ((law14_QueuePlays.l13 qv8_10 x16_12 t358 k 0).bind fun o13 => Brk.go o13 (fun r => some (Brk.ret r)) (fun (j18_e13, j187_e13, j190_e13) => law14_QueuePlays.l12 qv8_10 k (w64 (x16_12 + 1), s360)))) else (some (Brk.nx (x16_12, x16_12, decide (x16_12 < 4), qv4_12)))
def law14_QueuePlays.l14 (qv8_10 : List (List Int)) (qv4_e12 : List Int) : Nat → Int → Option (Brk Bool (Int × Int × Bool))
  | 0, _ => none
  | k + 1, x19_14 => bif decide (x19_14 < 32) then ((law14_in.f k qv8_10 x19_14).bind fun t397 => (bif !t397 then ((at_ qv4_e12 (w64 ((w64 (480 + (w64 (8 * x19_14)))) + 2))).bind fun x402 => some (x402 != 0)) else (some false)).bind fun c400 => bif c400 then (some (Brk.ret false)) else (law14_QueuePlays.l14 qv8_10 qv4_e12 k (w64 (x19_14 + 1)))) else (some (Brk.nx (x19_14, x19_14, decide (x19_14 < 32))))
def law14_QueuePlays.l1 (a0 : List law14_Deed) : Nat → (Int × (List Int) × (List (List Int))) → Option (Brk Bool ((List (List Int)) × (List Int)))
  | 0, _ => none
  | k + 1, (x6_1, qv4_1, qv8_1) => bif decide (x6_1 < (a0.length : Int)) then ((at_ a0 x6_1).bind fun x14 => (law10_Pick.f x14.Obj 4).bind fun t17 => (law10_Pick.f x14.What 4).bind fun t19 => bif decide (t19 < 2) then (bif (decide (x14.T < 0)) || (decide (31 < x14.T)) then ((VM.run plainI (queue_Push.f t17 x14.T) qv4_1).bind fun (t24, s26) => (law00_Code.f k t24).bind fun t28 => bif t28 != 2 then (some (Brk.ret false)) else ((bif 2 == 0 then ((at_ qv8_1 t17).bind fun x38 => (app ([]) x38).bind fun zs47 => (app zs47 ([x14.T])).bind fun zs55 => (at_ qv8_1 t17).bind fun x59 => some (qv8_1.set t17.toNat zs55)) else (some qv8_1)).bind fun qv8_2 => (law14_QueuePlays.l3 qv8_2 k (0, s26)).bind fun o3 => Brk.go o3 (fun r => some (Brk.ret r)) (fun (j16_e3, j171_e3, j172_e3, qv4_e3) => (law14_QueuePlays.l5 qv8_2 qv4_e3 k 4).bind fun o5 => Brk.go o5 (fun r => some (Brk.ret r)) (fun (j19_e5, j205_e5, j206_e5) => law14_QueuePlays.l1 a0 k (w64 (x6_1 + 1), qv4_e3, qv8_2))))) else ((bif decide (x14.T < 4) then (some true) else ((law14_in.f k qv8_1 x14.T).bind fun t130 => some t130)).bind fun c128 => bif c128 then (law14_QueuePlays.l1 a0 k (w64 (x6_1 + 1), qv4_1, qv8_1)) else ((VM.run plainI (queue_Push.f t17 x14.T) qv4_1).bind fun (t133, s135) => (law00_Code.f k t133).bind fun t137 => bif t137 != 0 then (some (Brk.ret false)) else ((bif 0 == 0 then ((at_ qv8_1 t17).bind fun x143 => (app ([]) x143).bind fun zs152 => (app zs152 ([x14.T])).bind fun zs160 => (at_ qv8_1 t17).bind fun x164 => some (qv8_1.set t17.toNat zs160)) else (some qv8_1)).bind fun qv8_6 => (law14_QueuePlays.l7 qv8_6 k (0, s135)).bind fun o7 => Brk.go o7 (fun r => some (Brk.ret r)) (fun (j16_e7, j171_e7, j172_e7, qv4_e7) => (law14_QueuePlays.l9 qv8_6 qv4_e7 k 4).bind fun o9 => Brk.go o9 (fun r => some (Brk.ret r)) (fun (j19_e9, j205_e9, j206_e9) => law14_QueuePlays.l1 a0 k (w64 (x6_1 + 1), qv4_e7, qv8_6))))))) else ((((bif t19 == 2 then ((VM.run plainI (queue_Pop.f t17) qv4_1).bind fun ((t229, t230), s232) => (at_ qv8_1 t17).bind fun x234 => bif (t230 != (decide (0 < (x234.length : Int)))) || ((!t230) && (t229 != 0)) then (some (Brk.ret false)) else (bif t230 then ((at_ qv8_1 t17).bind fun x250 => (at_ x250 0).bind fun x258 => bif t229 != x258 then (some (Brk.ret false)) else ((at_ qv8_1 t17).bind fun x263 => (slcF x263 1).bind fun zs271 => (app ([]) zs271).bind fun zs274 => (at_ qv8_1 t17).bind fun x278 => some (Brk.nx (s232, qv8_1.set t17.toNat zs274)))) else (some (Brk.nx (s232, qv8_1))))) else ((law14_QueuePlays.l11 qv8_1 x14 t17 k (0, false, [])).bind fun (j13_e11, j14_e11, j15_e11, j130_e11, j135_e11, j136_e11) => (VM.run plainI (queue_Remove.f k t17 x14.T) qv4_1).bind fun (t333, s335) => bif t333 != j14_e11 then (some (Brk.ret false)) else ((at_ qv8_1 t17).bind fun x338 => some (Brk.nx (s335, qv8_1.set t17.toNat j13_e11))))) : Option (Brk Bool ((List Int) × (List (List Int)))))).bind fun o10 => Brk.go o10 (fun r => some (Brk.ret r)) (fun (qv4_10, qv8_10) => (law14_QueuePlays.l12 qv8_10 k (0, qv4_10)).bind fun o12 => Brk.go o12 (fun r => some (Brk.ret r)) (fun (j16_e12, j171_e12, j172_e12, qv4_e12) => (law14_QueuePlays.l14 qv8_10 qv4_e12 k 4).bind fun o14 => Brk.go o14 (fun r => some (Brk.ret r)) (fun (j19_e14, j205_e14, j206_e14) => law14_QueuePlays.l1 a0 k (w64 (x6_1 + 1), qv4_e12, qv8_10)))))) else (some (Brk.nx (qv8_1, qv4_1)))
def law14_QueuePlays.f (k : Nat) (a0 : List law14_Deed) : Option (Bool) :=
  (law14_up.f k ).bind fun t1 => bif decide (150 < (a0.length : Int)) then (some t1) else ((mk_ 0 738).bind fun xs6 => (mk_ ([] : List Int) 4).bind fun xs10 => (law14_QueuePlays.l1 a0 k (0, xs6, xs10)).bind fun o1 => Brk.go o1 (fun r => some r) (fun (qv8_e1, qv4_e1) => some t1))
set_option maxHeartbeats 8000000 in
set_option maxRecDepth 100000 in
theorem law14_QueuePlays.ct (k : Nat) (v0 : Value) (a0 : List law14_Deed) (r0 : Bool) (h : law14_QueuePlays.f k a0 = some r0) :
    Ct Try.prog 3 [v0] (fun F => Rd ek_law14_Deed v0 a0 F) [] (fun u H' => u = .bool r0 ∧ H' = []) := by
  unfold law14_QueuePlays.f at h
  refine Ct.intro (n := 224) Try.func3 rfl rfl rfl ?_
  intro R w0 F hF hR
  have hF0 := hF
  refine S.seq ?_
  refine S.region ?_
  refine SO.v rfl (opv_assign rfl) ?_
  refine SO.nil ?_
  refine S.seq ?_
  refine S.region ?_
  obtain ⟨t1, ht2, h⟩ := opt_bind h
  refine SO.call (pre := []) rfl Try.call5 rfl rfl rfl (law14_up.ct _ _ ht2) trivial ?_
  rintro _ _ ⟨rfl, rfl⟩
  refine SO.v rfl (opv_assign rfl) ?_
  refine SO.nil ?_
  refine S.seq ?_
  refine S.seq ?_
  refine S.region ?_
  refine SO.v rfl (opv_move rfl) ?_
  refine SO.v rfl (opv_lenR rfl Try.underlying22 hF0 rfl) ?_
  refine SO.v rfl (opv_gtr rfl rfl) ?_
  refine SO.nil ?_
  rcases bool_or (decide (150 < (a0.length : Int))) with b3 | b3
  · replace h := cond_t b3 h
    refine S.condT rfl b3 ?_
    refine S.seq ?_
    refine S.region ?_
    refine SO.v rfl (opv_move rfl) ?_
    refine SO.v rfl (opv_assign rfl) ?_
    refine SO.nil ?_
    cases h
    exact S.ret1 Try.func3 rfl rfl (fun w hs hk => hR w _ _ ⟨rfl, rfl⟩ hs hk)
  · replace h := cond_f b3 h
    refine S.condF rfl b3 ?_
    refine S.skip ?_
    refine S.seq ?_
    refine S.region ?_
    obtain ⟨xs6, hx7, h⟩ := opt_bind h
    refine SO.makeSlice (K := ekI .u64) rfl Try.underlying24 inf40 rfl rfl rfl (by decide) rfl rfl rfl hx7 (fun v4 hr5 => ?_)
    refine SO.v rfl (opv_assign rfl) ?_
    refine SO.nil ?_
    refine S.seq ?_
    refine S.region ?_
    obtain ⟨xs10, hx11, h⟩ := opt_bind h
    refine SO.makeSliceR (K := krS (ekI .i64)) (zc := [.slice none 0 0]) rfl Try.underlying26 inf35 rfl rfl rfl (by decide) rfl ⟨Rd.nil0, trivial⟩ rfl rfl hx11 (fun v8 => ?_)
    refine SO.v rfl (opv_assign rfl) ?_
    refine SO.nil ?_
    refine S.seq ?_
    refine S.seq ?_
    refine S.region ?_
    refine SO.v rfl (opv_assign rfl) ?_
    refine SO.nil ?_
    obtain ⟨o1, hl1, h⟩ := opt_bind h
    refine S.b2 ?_
    refine S.b2 ?_
    refine S.b2 ?_
    refine S.to (ρ' := [(6, .int .i64 0), (5, v8), (4, v4), (3, .bool t1), (2, .bool false), (0, v0)]) ⟨rfl, rfl, rfl, rfl, rfl, rfl, trivial⟩ ?_
    refine S.forloop (X := (Int × (List Int) × (List (List Int))) × Unit) (O := Brk Bool ((List (List Int)) × (List Int))) (fun m x => law14_QueuePlays.l1 a0 m x.1) (fun x => match x with | ((x6_1, qv4_1, qv8_1), _) => [(6, .int .i64 x6_1), (5, v8), (4, v4), (3, .bool t1), (2, .bool false), (0, v0)]) (fun x => match x with | ((x6_1, qv4_1, qv8_1), _) => [OwnR 35 (krS (ekI .i64)) v8 qv8_1, Own 40 (ekI .u64) v4 qv4_1, F]) (fun Sk o' => (∀ r', o' = Brk.ret r' → some r' = some r0) ∧ ∀ j : ((List (List Int)) × (List Int)), match j with | (qv8_e1, qv4_e1) => ∀ _ : Unit, o' = Brk.nx (qv8_e1, qv4_e1) → Sk [(2, .bool false), (3, .bool t1)] [OwnR 35 (krS (ekI .i64)) v8 qv8_e1, Own 40 (ekI .u64) v4 qv4_e1, F]) (fun _ => rfl) ?_ (m := k) (x := ((0, xs6, xs10), ())) hl1 ?_
    · clear h hl1
      intro k x o_1 h hK1 ih1
      obtain ⟨⟨x6_1, qv4_1, qv8_1⟩, _⟩ := x
      replace h : law14_QueuePlays.l1 a0 (k + 1) (x6_1, qv4_1, qv8_1) = some o_1 := h
      first | rw [law14_QueuePlays.l1] at h | unfold law14_QueuePlays.l1 at h
      refine S.b1 ?_
      refine S.rd fun hr12 => ?_
      refine S.seq ?_
      refine S.seq ?_
      refine S.region ?_
      refine SO.v rfl (opv_move rfl) ?_
      refine SO.v rfl (opv_move rfl) ?_
      refine SO.v rfl (opv_lenR rfl Try.underlying22 hF0 rfl) ?_
      refine SO.v rfl (opv_lss rfl rfl) ?_
      refine SO.nil ?_
      rcases bool_or (decide (x6_1 < (a0.length : Int))) with b13 | b13
      · replace h := cond_t b13 h
        refine S.condT rfl b13 ?_
        refine S.skip ?_
        refine S.seq ?_
        refine S.block ?_
        refine S.seq ?_
        refine S.region ?_
        refine SO.v rfl (opv_move rfl) ?_
        refine SO.v rfl (opv_move rfl) ?_
        obtain ⟨x14, hx15, h⟩ := opt_bind h
        refine SO.v rfl (opv_idx Try.underlying22 Try.sizeOf28 hF0 rfl rfl hx15) ?_
        refine SO.loadIN rfl Try.isAgg28 Try.sizeOf28 (Rd.tail (Rd.tail (Rd.head hF0))) hx15 rfl rfl rfl ?_
        refine SO.alloc rfl Try.zeroValue28 rfl (fun b16 => ?_)
        refine SO.storeN Try.sizeOf28 rfl rfl rfl rfl rfl rfl ?_
        refine SO.nil ?_
        refine S.seq ?_
        refine S.region ?_
        refine SO.v rfl (opv_fieldAddr Try.underlying28 rfl Try.sizeOf3 rfl rfl) ?_
        refine SO.load1 rfl Try.isAgg3 rfl rfl ?_
        obtain ⟨t17, ht18, h⟩ := opt_bind h
        refine SO.call (pre := []) rfl Try.call6 rfl rfl rfl (law10_Pick.ct _ _ _ ht18) trivial ?_
        rintro _ _ ⟨rfl, rfl⟩
        refine SO.v rfl (opv_assign rfl) ?_
        refine SO.nil ?_
        refine S.seq ?_
        refine S.region ?_
        refine SO.v rfl (opv_fieldAddr Try.underlying28 rfl Try.sizeOf3 rfl rfl) ?_
        refine SO.load1 rfl Try.isAgg3 rfl rfl ?_
        obtain ⟨t19, ht20, h⟩ := opt_bind h
        refine SO.call (pre := []) rfl Try.call6 rfl rfl rfl (law10_Pick.ct _ _ _ ht20) trivial ?_
        rintro _ _ ⟨rfl, rfl⟩
        refine SO.v rfl (opv_assign rfl) ?_
        refine SO.nil ?_
        refine S.seq ?_
        refine S.seq ?_
        refine S.region ?_
        refine SO.v rfl (opv_move rfl) ?_
        refine SO.v rfl (opv_lss rfl rfl) ?_
        refine SO.nil ?_
        rcases bool_or (decide (t19 < 2)) with b21 | b21
        · replace h := cond_t b21 h
          refine S.condT rfl b21 ?_
          refine S.seq ?_
          refine S.region ?_
          refine SO.v rfl (opv_assign rfl) ?_
          refine SO.nil ?_
          refine S.seq ?_
          refine S.seq ?_
          refine S.region ?_
          refine SO.v rfl (opv_fieldAddr Try.underlying28 rfl Try.sizeOf3 rfl rfl) ?_
          refine SO.load1 rfl Try.isAgg3 rfl rfl ?_
          refine SO.v rfl (opv_lss rfl rfl) ?_
          refine SO.v rfl (opv_move rfl) ?_
          refine SO.cut 4 52 (.bool ((decide (x14.T < 0)) || (decide (31 < x14.T)))) [Box b16 [.int .i64 x14.What, .int .i64 x14.Obj, .int .i64 x14.T], Own 40 (ekI .u64) v4 qv4_1, OwnR 35 (krS (ekI .i64)) v8 qv8_1, F] (fun l2 hk2 => ?_) ?_
          · rcases bool_or (decide (x14.T < 0)) with b22 | b22
            · refine SO.passF rfl rfl rfl b22 rfl rfl ?_
              refine SO.passF rfl rfl rfl b22 rfl rfl ?_
              refine SO.passF rfl rfl rfl b22 rfl rfl ?_
              refine SO.v rfl (opv_pick_t' b22 rfl rfl) ?_
              refine SO.b3 ?_
              refine SO.b3 ?_
              refine SO.b3 ?_
              refine SO.b3 ?_
              exact hk2.fitc (m := 4) rfl (or_t b22) rfl
            · refine SO.takeT rfl rfl rfl b22 ?_
              refine SO.v rfl (opv_fieldAddr Try.underlying28 rfl Try.sizeOf3 rfl rfl) ?_
              refine SO.takeT rfl rfl rfl b22 ?_
              refine SO.load1 rfl Try.isAgg3 rfl rfl ?_
              refine SO.takeT rfl rfl rfl b22 ?_
              refine SO.v rfl (opv_gtr rfl rfl) ?_
              refine SO.v rfl (opv_pick_f' b22 rfl rfl) ?_
              refine SO.b3 ?_
              refine SO.b3 ?_
              refine SO.b3 ?_
              refine SO.b3 ?_
              exact hk2.fitc (m := 4) rfl (or_f b22) rfl
          refine SO.nil ?_
          rcases bool_or ((decide (x14.T < 0)) || (decide (31 < x14.T))) with b23 | b23
          · replace h := cond_t b23 h
            refine S.condT rfl b23 ?_
            refine S.region ?_
            refine SO.v rfl (opv_assign rfl) ?_
            refine SO.nil ?_
            refine S.seq ?_
            refine S.seq ?_
            refine S.region ?_
            refine SO.v rfl (opv_move rfl) ?_
            refine SO.v rfl (opv_iface Try.underlying25 rfl rfl) ?_
            refine SO.v rfl (opv_move rfl) ?_
            refine SO.v rfl (opv_fieldAddr Try.underlying28 rfl Try.sizeOf3 rfl rfl) ?_
            refine SO.load1 rfl Try.isAgg3 rfl rfl ?_
            obtain ⟨⟨t24, s26⟩, ht25, h⟩ := opt_bind h
            refine SO.b1 ?_
            refine SO.call (pre := [(plainV v4).rep _]) rfl Try.call9 rfl rfl rfl (queue_Push.ct (plainV v4) _ _ _ _ _ ht25) trivial ?_
            rintro _ _ ⟨rfl, rfl⟩
            refine headEq (plainV_rep _ _) ?_
            refine SO.rd fun hr27 => ?_
            obtain ⟨t28, ht29, h⟩ := opt_bind h
            refine SO.call (pre := []) rfl Try.call8 rfl rfl rfl (law00_Code.ct _ _ _ ht29) trivial ?_
            rintro _ _ ⟨rfl, rfl⟩
            refine SO.v rfl (opv_move rfl) ?_
            refine SO.v rfl (opv_neq rfl rfl) ?_
            refine SO.nil ?_
            rcases bool_or (t28 != 2) with b30 | b30
            · replace h := cond_t b30 h
              refine S.condT rfl b30 ?_
              refine S.seq ?_
              refine S.region ?_
              refine SO.v rfl (opv_assign rfl) ?_
              refine SO.nil ?_
              cases h
              replace h := hK1.1 _ rfl
              cases h
              refine S.drop ?_
              refine S.drop ?_
              refine S.drop ?_
              exact S.ret1 Try.func3 rfl rfl (fun w hs hk => hR w _ _ ⟨rfl, rfl⟩ hs hk)
            · replace h := cond_f b30 h
              refine S.condF rfl b30 ?_
              refine S.skip ?_
              refine S.seq ?_
              refine S.region ?_
              refine SO.v rfl (opv_move rfl) ?_
              refine SO.v rfl (opv_eql rfl rfl) ?_
              refine SO.nil ?_
              obtain ⟨qv8_2, hC2, hJ2⟩ := opt_bind h
              clear h
              refine S.cutP (G := Unit) (fun _ => True) (fun _ => [(0, v0), (2, .bool false), (3, .bool t1), (4, v4), (5, v8), (6, .int .i64 x6_1), (7, bp b16 0), (8, .int .i64 t17), (9, .int .i64 t19), (10, .int .i64 2), (27, .int .i64 x6_1), (28, v0), (29, .int .i64 (a0.length : Int)), (30, .bool (decide (x6_1 < (a0.length : Int)))), (33, v0), (34, .int .i64 x6_1), (35, idxp v0 (x6_1.toNat * ek_law14_Deed.sz)), (36, .agg #[.int .i64 x14.What, .int .i64 x14.Obj, .int .i64 x14.T]), (37, bp b16 1), (38, .int .i64 x14.Obj), (39, .int .i64 t17), (40, bp b16 0), (41, .int .i64 x14.What), (42, .int .i64 t19), (43, .int .i64 t19), (44, .bool (decide (t19 < 2))), (45, bp b16 2), (46, .int .i64 x14.T), (47, .bool (decide (x14.T < 0))), (48, .bool (decide (x14.T < 0))), (52, .bool ((decide (x14.T < 0)) || (decide (31 < x14.T)))), (62, v4), (63, (plainV v4).val), (64, .int .i64 t17), (65, bp b16 2), (66, .int .i64 x14.T), (67, errV 43 t24), (68, .int .i64 t28), (69, .int .i64 2), (70, .bool (t28 != 2)), (71, .int .i64 2), (72, .bool (2 == 0))]) (fun _ => [Own 40 (ekI .u64) v4 s26, Box b16 [.int .i64 x14.What, .int .i64 x14.Obj, .int .i64 x14.T], OwnR 35 (krS (ekI .i64)) v8 qv8_2, F]) (fun hk2 => ?_) ?_
              · replace h := hC2
                rcases bool_or (2 == 0) with b31 | b31
                · replace h := cond_t b31 h
                  refine S.condT rfl b31 ?_
                  refine S.b2 ?_
                  refine S.openR fun raws32 A33 hrel34 hR35 => ?_
                  obtain ⟨x38, hx39, h⟩ := opt_bind h
                  obtain ⟨r40, hr41, hc42⟩ := relR.at hrel34 hx39
                  obtain ⟨u43, hu44, hru45⟩ := hc42.sl 0 rfl
                  obtain ⟨zs47, hz48, h⟩ := opt_bind h
                  obtain ⟨zs55, hz56, h⟩ := opt_bind h
                  obtain ⟨x59, hx60, h⟩ := opt_bind h
                  obtain ⟨r61, hr62, hc63⟩ := relR.at hrel34 hx60
                  refine S.draw' (Z := fun Q => ∀ (_ : Unit) (_ : Unit) (_ : Unit) (_ : Unit) (_ : Unit) (_ : Unit) (_ : Unit) (_ : Unit) (_ : Unit) (_ : Unit) (_ : Unit) (_ : Unit) (v51 : Value) (_ : Unit) (_ : Unit) (_ : Unit) (_ : Unit) (_ : Unit), Q [(72, .bool (2 == 0)), (71, .int .i64 2), (70, .bool (t28 != 2)), (69, .int .i64 2), (68, .int .i64 t28), (67, errV 43 t24), (66, .int .i64 x14.T), (65, bp b16 2), (64, .int .i64 t17), (63, (plainV v4).val), (62, v4), (10, .int .i64 2), (52, .bool ((decide (x14.T < 0)) || (decide (31 < x14.T)))), (48, .bool (decide (x14.T < 0))), (47, .bool (decide (x14.T < 0))), (46, .int .i64 x14.T), (45, bp b16 2), (44, .bool (decide (t19 < 2))), (43, .int .i64 t19), (9, .int .i64 t19), (42, .int .i64 t19), (41, .int .i64 x14.What), (40, bp b16 0), (39, .int .i64 t17), (38, .int .i64 x14.Obj), (37, bp b16 1), (36, .agg #[.int .i64 x14.What, .int .i64 x14.Obj, .int .i64 x14.T]), (35, idxp v0 (x6_1.toNat * ek_law14_Deed.sz)), (34, .int .i64 x6_1), (33, v0), (30, .bool (decide (x6_1 < (a0.length : Int)))), (29, .int .i64 (a0.length : Int)), (28, v0), (27, .int .i64 x6_1), (6, .int .i64 x6_1), (4, v4), (3, .bool t1), (2, .bool false), (0, v0), (5, v8), (7, bp b16 0), (8, .int .i64 t17), (73, v8), (74, .int .i64 t17), (76, v8), (77, .int .i64 t17), (78, idxp v8 (t17.toNat * (krS (ekI .i64)).sz)), (79, u43), (81, bp b16 2), (82, .int .i64 x14.T), (83, v51), (85, idxp v8 (t17.toNat * (krS (ekI .i64)).sz))] [Own 3 (ekI .i64) v51 ([x14.T]), OwnR 35 (krS (ekI .i64)) v8 (qv8_1.set t17.toNat zs55), Own 40 (ekI .u64) v4 s26, Box b16 [.int .i64 x14.What, .int .i64 x14.Obj, .int .i64 x14.T], F]) (T := [tS 5 (v8), tS 8 (.int .i64 t17), tS 7 (bp b16 0), tE [(72, .bool (2 == 0)), (71, .int .i64 2), (70, .bool (t28 != 2)), (69, .int .i64 2), (68, .int .i64 t28), (67, errV 43 t24), (66, .int .i64 x14.T), (65, bp b16 2), (64, .int .i64 t17), (63, (plainV v4).val), (62, v4), (10, .int .i64 2), (52, .bool ((decide (x14.T < 0)) || (decide (31 < x14.T)))), (48, .bool (decide (x14.T < 0))), (47, .bool (decide (x14.T < 0))), (46, .int .i64 x14.T), (45, bp b16 2), (44, .bool (decide (t19 < 2))), (43, .int .i64 t19), (9, .int .i64 t19), (42, .int .i64 t19), (41, .int .i64 x14.What), (40, bp b16 0), (39, .int .i64 t17), (38, .int .i64 x14.Obj), (37, bp b16 1), (36, .agg #[.int .i64 x14.What, .int .i64 x14.Obj, .int .i64 x14.T]), (35, idxp v0 (x6_1.toNat * ek_law14_Deed.sz)), (34, .int .i64 x6_1), (33, v0), (30, .bool (decide (x6_1 < (a0.length : Int)))), (29, .int .i64 (a0.length : Int)), (28, v0), (27, .int .i64 x6_1), (6, .int .i64 x6_1), (4, v4), (3, .bool t1), (2, .bool false), (0, v0)], tR (OwnO 35 (krS (ekI .i64)) v8 raws32 A33 qv8_1), tR (Own 40 (ekI .u64) v4 s26), tR (Box b16 [.int .i64 x14.What, .int .i64 x14.Obj, .int .i64 x14.T]), tR (F), tS 73 (v8), tS 74 (.int .i64 t17), ⟨Value, [75], (fun v36 => [(75, v36)]), (fun v36 => [Own 3 (ekI .i64) v36 ([])]), fun _ => rfl⟩, tS 76 (v8), tS 77 (.int .i64 t17), tS 78 (idxp v8 (t17.toNat * (krS (ekI .i64)).sz)), tS 79 (u43), ⟨Value, [80], (fun v49 => [(80, v49)]), (fun v49 => [Own 3 (ekI .i64) v49 zs47]), fun _ => rfl⟩, tS 81 (bp b16 2), tS 82 (.int .i64 x14.T), ⟨Value, [83], (fun v51 => [(83, v51)]), (fun v51 => [Own 3 (ekI .i64) v51 ([x14.T])]), fun _ => rfl⟩, ⟨Value, [84], (fun v57 => [(84, v57)]), (fun v57 => [Own 3 (ekI .i64) v57 zs55]), fun _ => rfl⟩, tS 85 (idxp v8 (t17.toNat * (krS (ekI .i64)).sz)), tR (OwnR 35 (krS (ekI .i64)) v8 (qv8_1.set t17.toNat zs55))]) (D := [⟨[0], [], [8]⟩, ⟨[1], [], [9]⟩, ⟨[], [], [10]⟩, ⟨[0], [], [11]⟩, ⟨[1], [], [12]⟩, ⟨[11, 12, 4], [], [13]⟩, ⟨[13, 4], [], [14]⟩, ⟨[14, 4], [10], [15]⟩, ⟨[2], [], [16]⟩, ⟨[16, 6], [], [17]⟩, ⟨[17], [], [18]⟩, ⟨[18], [15], [19]⟩, ⟨[8, 9, 4], [], [20]⟩, ⟨[20], [19, 4], [21]⟩]) (ini := [0, 1, 2, 3, 4, 5, 6, 7]) (fin := [3, 0, 2, 1, 8, 9, 11, 12, 13, 14, 16, 17, 18, 20, 21, 5, 6, 7]) (bf := [[], [], [], [], [], [3, 4], [3, 4, 5], [2, 3, 4, 5, 6], [], [8], [8, 9], [2, 3, 4, 5, 6, 7, 8, 9, 10], [0, 1, 2, 3, 4, 5, 6, 7, 8, 9, 10, 11], [0, 1, 2, 3, 4, 5, 6, 7, 8, 9, 10, 11, 12]]) (by kernel_rfl) (by kernel_rfl) (fun x w h1 h2 => (.cons () (.cons () (.cons () (.cons () (.cons () (.cons () (.cons () (.cons () (.nil ⟨EnvAll.of h1 ⟨rfl, rfl, rfl, rfl, rfl, rfl, rfl, rfl, rfl, rfl, rfl, rfl, rfl, rfl, rfl, rfl, rfl, rfl, rfl, rfl, rfl, rfl, rfl, rfl, rfl, rfl, rfl, rfl, rfl, rfl, rfl, rfl, rfl, rfl, rfl, rfl, rfl, rfl, rfl, rfl, rfl, rfl, trivial⟩, h2⟩)))))))))) (fun Q => by kernel_rfl) ⟨?_, ?_, ?_, ?_, ?_, ?_, ?_, ?_, ?_, ?_, ?_, ?_, ?_, ?_, trivial⟩ ?_
                  · rintro Fr _
                    refine SO.v rfl (opv_move rfl) ?_
                    exact SO.nilZ fun a w h1 h2 h3 h4 h5 => PZ.of h1 h3 h5 (.cons () (.cons () (.nil ⟨EnvAll.of h2 ⟨rfl, rfl, trivial⟩, h4⟩)))
                  · rintro Fr _
                    refine SO.v rfl (opv_move rfl) ?_
                    exact SO.nilZ fun a w h1 h2 h3 h4 h5 => PZ.of h1 h3 h5 (.cons () (.cons () (.nil ⟨EnvAll.of h2 ⟨rfl, rfl, trivial⟩, h4⟩)))
                  · rintro Fr 
                    refine SO.buildSlice0 (ekI .i64) rfl Try.underlying35 Try.sizeOf3 (fun v36 hr37 => ?_)
                    exact SO.nilZ fun a w h1 h2 h3 h4 h5 => PZ.of h1 h3 h5 (.cons v36 (.nil ⟨EnvAll.of h2 ⟨rfl, trivial⟩, h4⟩))
                  · rintro Fr _
                    refine SO.v rfl (opv_move rfl) ?_
                    exact SO.nilZ fun a w h1 h2 h3 h4 h5 => PZ.of h1 h3 h5 (.cons () (.cons () (.nil ⟨EnvAll.of h2 ⟨rfl, rfl, trivial⟩, h4⟩)))
                  · rintro Fr _
                    refine SO.v rfl (opv_move rfl) ?_
                    exact SO.nilZ fun a w h1 h2 h3 h4 h5 => PZ.of h1 h3 h5 (.cons () (.cons () (.nil ⟨EnvAll.of h2 ⟨rfl, rfl, trivial⟩, h4⟩)))
                  · rintro Fr _ _ _
                    refine SO.v rfl (opv_idx Try.underlying26 Try.sizeOf35 hR35 rfl rfl hr41) ?_
                    exact SO.nilZ fun a w h1 h2 h3 h4 h5 => PZ.of h1 h3 h5 (.cons () (.cons () (.cons () (.cons () (.nil ⟨EnvAll.of h2 ⟨rfl, rfl, rfl, trivial⟩, h4⟩)))))
                  · rintro Fr _ _
                    refine SO.loadI1 (j := 0) rfl Try.isAgg35 (Rd.head hR35) hr41 rfl rfl rfl hu44 ?_
                    exact SO.nilZ fun a w h1 h2 h3 h4 h5 => PZ.of h1 h3 h5 (.cons () (.cons () (.cons () (.nil ⟨EnvAll.of h2 ⟨rfl, rfl, trivial⟩, h4⟩))))
                  · rintro Fr _ _ v36
                    refine SO.b1 ?_
                    refine SO.rd fun hr46 => ?_
                    refine SO.append rfl Try.underlying35 inf3 rfl rfl rfl (by decide) rfl rfl rfl (Rd.head (Rd.pool hru45)) hz48 (fun v49 => ?_)
                    refine SO.rd fun hr50 => ?_
                    refine SO.b1 ?_
                    exact SO.nilZ fun a w h1 h2 h3 h4 h5 => PZ.of h1 h3 h5 (.cons () (.cons () (.cons v49 (.nil ⟨EnvAll.of h2 ⟨rfl, rfl, trivial⟩, h4⟩))))
                  · rintro Fr _
                    refine SO.v rfl (opv_fieldAddr Try.underlying28 rfl Try.sizeOf3 rfl rfl) ?_
                    exact SO.nilZ fun a w h1 h2 h3 h4 h5 => PZ.of h1 h3 h5 (.cons () (.cons () (.nil ⟨EnvAll.of h2 ⟨rfl, rfl, trivial⟩, h4⟩)))
                  · rintro Fr _ _
                    refine SO.load1 rfl Try.isAgg3 rfl rfl ?_
                    exact SO.nilZ fun a w h1 h2 h3 h4 h5 => PZ.of h1 h3 h5 (.cons () (.cons () (.cons () (.nil ⟨EnvAll.of h2 ⟨rfl, rfl, trivial⟩, h4⟩))))
                  · rintro Fr _
                    refine SO.buildSlice (K := ekI .i64) (xs := [x14.T]) (cs := [.int .i64 x14.T]) rfl Try.underlying35 Try.sizeOf3 Try.zeroValue3 rfl rfl rfl (by kernel_rfl) rfl rfl rfl (fun v51 hr52 => ?_)
                    exact SO.nilZ fun a w h1 h2 h3 h4 h5 => PZ.of h1 h3 h5 (.cons () (.cons v51 (.nil ⟨EnvAll.of h2 ⟨rfl, rfl, trivial⟩, h4⟩)))
                  · rintro Fr v51 v49
                    refine SO.rd fun hr53 => ?_
                    refine SO.b1 ?_
                    refine SO.rd fun hr54 => ?_
                    refine SO.append rfl Try.underlying35 inf3 rfl rfl rfl (by decide) rfl rfl rfl (Rd.head hr53) hz56 (fun v57 => ?_)
                    refine SO.rd fun hr58 => ?_
                    refine SO.b1 ?_
                    exact SO.nilZ fun a w h1 h2 h3 h4 h5 => PZ.of h1 h3 h5 (.cons v51 (.cons v57 (.nil ⟨EnvAll.of h2 ⟨rfl, rfl, trivial⟩, h4⟩)))
                  · rintro Fr _ _ _
                    refine SO.v rfl (opv_idx Try.underlying26 Try.sizeOf35 hR35 rfl rfl hr62) ?_
                    exact SO.nilZ fun a w h1 h2 h3 h4 h5 => PZ.of h1 h3 h5 (.cons () (.cons () (.cons () (.cons () (.nil ⟨EnvAll.of h2 ⟨rfl, rfl, rfl, trivial⟩, h4⟩)))))
                  · rintro Fr _ v57 _
                    refine SO.rd fun hr64 => ?_
                    refine SO.b1 ?_
                    refine SO.b1 ?_
                    refine SO.freeze hrel34 fun A65 hcov66 hru67 hrel68 hR69 => ?_
                    refine SO.storeO1 (j := 0) (q := .sl (ekI .i64) zs55) (z' := zs55) Try.sizeOf35 hrel68 hx60 rfl rfl (Rd.one hru67) rfl rfl rfl hru67 (fun raws70 hrel71 hR72 => ?_)
                    refine SO.closeR ?_
                    exact SO.nilZ fun a w h1 h2 h3 h4 h5 => PZ.of h1 h3 h5 (.cons () (.cons () (.nil ⟨EnvAll.of h2 ⟨rfl, trivial⟩, h4⟩)))
                  rintro _ _ _ _ _ _ _ _ _ _ _ _ v51 _ _ _ _ _
                  refine S.to (ρ' := [(72, .bool (2 == 0)), (71, .int .i64 2), (70, .bool (t28 != 2)), (69, .int .i64 2), (68, .int .i64 t28), (67, errV 43 t24), (66, .int .i64 x14.T), (65, bp b16 2), (64, .int .i64 t17), (63, (plainV v4).val), (62, v4), (10, .int .i64 2), (52, .bool ((decide (x14.T < 0)) || (decide (31 < x14.T)))), (48, .bool (decide (x14.T < 0))), (47, .bool (decide (x14.T < 0))), (46, .int .i64 x14.T), (45, bp b16 2), (44, .bool (decide (t19 < 2))), (43, .int .i64 t19), (9, .int .i64 t19), (42, .int .i64 t19), (41, .int .i64 x14.What), (40, bp b16 0), (39, .int .i64 t17), (38, .int .i64 x14.Obj), (37, bp b16 1), (36, .agg #[.int .i64 x14.What, .int .i64 x14.Obj, .int .i64 x14.T]), (35, idxp v0 (x6_1.toNat * ek_law14_Deed.sz)), (34, .int .i64 x6_1), (33, v0), (30, .bool (decide (x6_1 < (a0.length : Int)))), (29, .int .i64 (a0.length : Int)), (28, v0), (27, .int .i64 x6_1), (6, .int .i64 x6_1), (4, v4), (3, .bool t1), (2, .bool false), (0, v0), (5, v8), (7, bp b16 0), (8, .int .i64 t17), (73, v8), (74, .int .i64 t17), (76, v8), (77, .int .i64 t17), (78, idxp v8 (t17.toNat * (krS (ekI .i64)).sz)), (79, u43), (81, bp b16 2), (82, .int .i64 x14.T), (83, v51), (85, idxp v8 (t17.toNat * (krS (ekI .i64)).sz))]) ⟨rfl, rfl, rfl, rfl, rfl, rfl, rfl, rfl, rfl, rfl, rfl, rfl, rfl, rfl, rfl, rfl, rfl, rfl, rfl, rfl, rfl, rfl, rfl, rfl, rfl, rfl, rfl, rfl, rfl, rfl, rfl, rfl, rfl, rfl, rfl, rfl, rfl, rfl, rfl, rfl, rfl, rfl, rfl, rfl, rfl, rfl, rfl, rfl, rfl, rfl, rfl, rfl, trivial⟩ ?_
                  refine S.rd fun hr73 => ?_
                  cases h
                  refine S.drop ?_
                  refine S.b3 ?_
                  refine S.b1 ?_
                  refine S.b3 ?_
                  refine S.b3 ?_
                  refine S.to ?_ (hk2 () trivial)
                  exact ⟨rfl, rfl, rfl, rfl, rfl, rfl, rfl, rfl, rfl, rfl, rfl, rfl, rfl, rfl, rfl, rfl, rfl, rfl, rfl, rfl, rfl, rfl, rfl, rfl, rfl, rfl, rfl, rfl, rfl, rfl, rfl, rfl, rfl, rfl, rfl, rfl, rfl, rfl, rfl, rfl, rfl, rfl, trivial⟩
                · replace h := cond_f b31 h
                  refine S.condF rfl b31 ?_
                  refine S.skip ?_
                  cases h
                  refine S.b3 ?_
                  refine S.b3 ?_
                  refine S.b3 ?_
                  refine S.b3 ?_
                  refine S.to ?_ (hk2 () trivial)
                  exact ⟨rfl, rfl, rfl, rfl, rfl, rfl, rfl, rfl, rfl, rfl, rfl, rfl, rfl, rfl, rfl, rfl, rfl, rfl, rfl, rfl, rfl, rfl, rfl, rfl, rfl, rfl, rfl, rfl, rfl, rfl, rfl, rfl, rfl, rfl, rfl, rfl, rfl, rfl, rfl, rfl, rfl, rfl, trivial⟩
              rintro _ -
              replace h := hJ2
              refine S.seq ?_
              refine S.seq ?_
              refine S.region ?_
              refine SO.v rfl (opv_assign rfl) ?_
              refine SO.nil ?_
              obtain ⟨o3, hl3, h⟩ := opt_bind h
              refine S.b3 ?_
              refine S.b3 ?_
              refine S.b3 ?_
              refine S.b3 ?_
              refine S.to (ρ' := [(16, .int .i64 0), (0, v0), (2, .bool false), (3, .bool t1), (4, v4), (5, v8), (6, .int .i64 x6_1), (7, bp b16 0), (8, .int .i64 t17), (9, .int .i64 t19), (10, .int .i64 2), (27, .int .i64 x6_1), (28, v0), (29, .int .i64 (a0.length : Int)), (30, .bool (decide (x6_1 < (a0.length : Int)))), (33, v0), (34, .int .i64 x6_1), (35, idxp v0 (x6_1.toNat * ek_law14_Deed.sz)), (36, .agg #[.int .i64 x14.What, .int .i64 x14.Obj, .int .i64 x14.T]), (37, bp b16 1), (38, .int .i64 x14.Obj), (39, .int .i64 t17), (40, bp b16 0), (41, .int .i64 x14.What), (42, .int .i64 t19), (43, .int .i64 t19), (44, .bool (decide (t19 < 2))), (45, bp b16 2), (46, .int .i64 x14.T), (47, .bool (decide (x14.T < 0))), (48, .bool (decide (x14.T < 0))), (52, .bool ((decide (x14.T < 0)) || (decide (31 < x14.T)))), (62, v4), (63, (plainV v4).val), (64, .int .i64 t17), (65, bp b16 2), (66, .int .i64 x14.T), (67, errV 43 t24), (68, .int .i64 t28), (69, .int .i64 2), (70, .bool (t28 != 2)), (71, .int .i64 2), (72, .bool (2 == 0))]) ⟨rfl, rfl, rfl, rfl, rfl, rfl, rfl, rfl, rfl, rfl, rfl, rfl, rfl, rfl, rfl, rfl, rfl, rfl, rfl, rfl, rfl, rfl, rfl, rfl, rfl, rfl, rfl, rfl, rfl, rfl, rfl, rfl, rfl, rfl, rfl, rfl, rfl, rfl, rfl, rfl, rfl, rfl, rfl, trivial⟩ ?_
              refine S.forloop (X := (Int × (List Int)) × Unit) (O := Brk Bool (Int × Int × Bool × (List Int))) (fun m x => law14_QueuePlays.l3 qv8_2 m x.1) (fun x => match x with | ((x16_3, qv4_3), _) => [(16, .int .i64 x16_3), (0, v0), (2, .bool false), (3, .bool t1), (4, v4), (5, v8), (6, .int .i64 x6_1), (7, bp b16 0), (8, .int .i64 t17), (9, .int .i64 t19), (10, .int .i64 2), (27, .int .i64 x6_1), (28, v0), (29, .int .i64 (a0.length : Int)), (30, .bool (decide (x6_1 < (a0.length : Int)))), (33, v0), (34, .int .i64 x6_1), (35, idxp v0 (x6_1.toNat * ek_law14_Deed.sz)), (36, .agg #[.int .i64 x14.What, .int .i64 x14.Obj, .int .i64 x14.T]), (37, bp b16 1), (38, .int .i64 x14.Obj), (39, .int .i64 t17), (40, bp b16 0), (41, .int .i64 x14.What), (42, .int .i64 t19), (43, .int .i64 t19), (44, .bool (decide (t19 < 2))), (45, bp b16 2), (46, .int .i64 x14.T), (47, .bool (decide (x14.T < 0))), (48, .bool (decide (x14.T < 0))), (52, .bool ((decide (x14.T < 0)) || (decide (31 < x14.T)))), (62, v4), (63, (plainV v4).val), (64, .int .i64 t17), (65, bp b16 2), (66, .int .i64 x14.T), (67, errV 43 t24), (68, .int .i64 t28), (69, .int .i64 2), (70, .bool (t28 != 2)), (71, .int .i64 2), (72, .bool (2 == 0))]) (fun x => match x with | ((x16_3, qv4_3), _) => [Own 40 (ekI .u64) v4 qv4_3, Box b16 [.int .i64 x14.What, .int .i64 x14.Obj, .int .i64 x14.T], OwnR 35 (krS (ekI .i64)) v8 qv8_2, F]) (fun Sk o' => (∀ r', o' = Brk.ret r' → some (Brk.ret r') = some o_1) ∧ ∀ j : (Int × Int × Bool × (List Int)), match j with | (j16_e3, j171_e3, j172_e3, qv4_e3) => ∀ _ : Unit, o' = Brk.nx (j16_e3, j171_e3, j172_e3, qv4_e3) → Sk [(0, v0), (2, .bool false), (3, .bool t1), (4, v4), (5, v8), (6, .int .i64 x6_1), (7, bp b16 0), (8, .int .i64 t17), (9, .int .i64 t19), (10, .int .i64 2), (16, .int .i64 j16_e3), (27, .int .i64 x6_1), (28, v0), (29, .int .i64 (a0.length : Int)), (30, .bool (decide (x6_1 < (a0.length : Int)))), (33, v0), (34, .int .i64 x6_1), (35, idxp v0 (x6_1.toNat * ek_law14_Deed.sz)), (36, .agg #[.int .i64 x14.What, .int .i64 x14.Obj, .int .i64 x14.T]), (37, bp b16 1), (38, .int .i64 x14.Obj), (39, .int .i64 t17), (40, bp b16 0), (41, .int .i64 x14.What), (42, .int .i64 t19), (43, .int .i64 t19), (44, .bool (decide (t19 < 2))), (45, bp b16 2), (46, .int .i64 x14.T), (47, .bool (decide (x14.T < 0))), (48, .bool (decide (x14.T < 0))), (52, .bool ((decide (x14.T < 0)) || (decide (31 < x14.T)))), (62, v4), (63, (plainV v4).val), (64, .int .i64 t17), (65, bp b16 2), (66, .int .i64 x14.T), (67, errV 43 t24), (68, .int .i64 t28), (69, .int .i64 2), (70, .bool (t28 != 2)), (71, .int .i64 2), (72, .bool (2 == 0)), (171, .int .i64 j171_e3), (172, .bool j172_e3)] [Own 40 (ekI .u64) v4 qv4_e3, Box b16 [.int .i64 x14.What, .int .i64 x14.Obj, .int .i64 x14.T], OwnR 35 (krS (ekI .i64)) v8 qv8_2, F]) (fun _ => rfl) ?_ (m := k) (x := ((0, s26), ())) hl3 ?_
              · clear h hl3
                intro k x o_3 h hK3 ih3
                obtain ⟨⟨x16_3, qv4_3⟩, _⟩ := x
                replace h : law14_QueuePlays.l3 qv8_2 (k + 1) (x16_3, qv4_3) = some o_3 := h
                first | rw [law14_QueuePlays.l3] at h | unfold law14_QueuePlays.l3 at h
                refine S.rd fun hr74 => ?_
                refine S.seq ?_
                refine S.seq ?_
                refine S.region ?_
                refine SO.v rfl (opv_move rfl) ?_
                refine SO.v rfl (opv_lss rfl rfl) ?_
                refine SO.nil ?_
                rcases bool_or (decide (x16_3 < 4)) with b75 | b75
                · replace h := cond_t b75 h
                  refine S.condT rfl b75 ?_
                  refine S.skip ?_
                  refine S.seq ?_
                  refine S.block ?_
                  refine S.seq ?_
                  refine S.region ?_
                  refine SO.v rfl (opv_move rfl) ?_
                  refine SO.v rfl (opv_iface Try.underlying25 rfl rfl) ?_
                  refine SO.v rfl (opv_move rfl) ?_
                  obtain ⟨⟨t76, s78⟩, ht77, h⟩ := opt_bind h
                  refine SO.call (pre := [(plainV v4).rep _]) rfl Try.call12 rfl rfl rfl (queue_List.ct (plainV v4) _ _ _ _ _ ht77) trivial ?_
                  rintro v79 _ ⟨_, rfl, rfl⟩
                  refine SO.rd fun hr80 => ?_
                  refine SO.b1 ?_
                  refine headEq (plainV_rep _ _) ?_
                  refine SO.rd fun hr81 => ?_
                  refine SO.v rfl (opv_assign rfl) ?_
                  refine SO.nil ?_
                  refine S.seq ?_
                  refine S.seq ?_
                  refine S.region ?_
                  refine SO.v rfl (opv_move rfl) ?_
                  refine SO.v rfl (opv_lenR rfl Try.underlying35 hr80 rfl) ?_
                  refine SO.v rfl (opv_move rfl) ?_
                  refine SO.v rfl (opv_move rfl) ?_
                  refine SO.b3 ?_
                  refine SO.openR fun raws87 A88 hrel89 hR90 => ?_
                  obtain ⟨x82, hx83, h⟩ := opt_bind h
                  obtain ⟨r84, hr85, hc86⟩ := relR.at hrel89 hx83
                  refine SO.v rfl (opv_idx Try.underlying26 Try.sizeOf35 hR90 rfl rfl hr85) ?_
                  obtain ⟨u91, hu92, hru93⟩ := hc86.sl 0 rfl
                  refine SO.loadI1 (j := 0) rfl Try.isAgg35 (Rd.head hR90) hr85 rfl rfl rfl hu92 ?_
                  refine SO.v rfl (opv_lenR rfl Try.underlying35 hru93 rfl) ?_
                  refine SO.v rfl (opv_neq rfl rfl) ?_
                  refine SO.nil ?_
                  rcases bool_or ((t76.length : Int) != (x82.length : Int)) with b94 | b94
                  · replace h := cond_t b94 h
                    refine S.condT rfl b94 ?_
                    refine S.seq ?_
                    refine S.region ?_
                    refine SO.v rfl (opv_assign rfl) ?_
                    refine SO.nil ?_
                    cases h
                    replace h := hK3.1 _ rfl
                    cases h
                    replace h := hK1.1 _ rfl
                    cases h
                    refine S.closeR ?_
                    refine S.drop ?_
                    refine S.drop ?_
                    refine S.drop ?_
                    refine S.drop ?_
                    exact S.ret1 Try.func3 rfl rfl (fun w hs hk => hR w _ _ ⟨rfl, rfl⟩ hs hk)
                  · replace h := cond_f b94 h
                    refine S.condF rfl b94 ?_
                    refine S.skip ?_
                    refine S.seq ?_
                    refine S.region ?_
                    refine SO.v rfl (opv_assign rfl) ?_
                    refine SO.nil ?_
                    obtain ⟨o4, hl4, h⟩ := opt_bind h
                    refine S.b4 ?_
                    refine S.b4 ?_
                    refine S.b4 ?_
                    refine S.b4 ?_
                    refine S.b4 ?_
                    refine S.to (ρ' := [(18, .int .i64 0), (186, .bool ((t76.length : Int) != (x82.length : Int))), (185, .int .i64 (x82.length : Int)), (184, u91), (183, idxp v8 (x16_3.toNat * (krS (ekI .i64)).sz)), (182, .int .i64 x16_3), (181, v8), (180, .int .i64 (t76.length : Int)), (179, v79), (17, v79), (178, v79), (177, .int .i64 x16_3), (176, (plainV v4).val), (175, v4), (172, .bool (decide (x16_3 < 4))), (171, .int .i64 x16_3), (16, .int .i64 x16_3), (0, v0), (2, .bool false), (3, .bool t1), (4, v4), (5, v8), (6, .int .i64 x6_1), (7, bp b16 0), (8, .int .i64 t17), (9, .int .i64 t19), (10, .int .i64 2), (27, .int .i64 x6_1), (28, v0), (29, .int .i64 (a0.length : Int)), (30, .bool (decide (x6_1 < (a0.length : Int)))), (33, v0), (34, .int .i64 x6_1), (35, idxp v0 (x6_1.toNat * ek_law14_Deed.sz)), (36, .agg #[.int .i64 x14.What, .int .i64 x14.Obj, .int .i64 x14.T]), (37, bp b16 1), (38, .int .i64 x14.Obj), (39, .int .i64 t17), (40, bp b16 0), (41, .int .i64 x14.What), (42, .int .i64 t19), (43, .int .i64 t19), (44, .bool (decide (t19 < 2))), (45, bp b16 2), (46, .int .i64 x14.T), (47, .bool (decide (x14.T < 0))), (48, .bool (decide (x14.T < 0))), (52, .bool ((decide (x14.T < 0)) || (decide (31 < x14.T)))), (62, v4), (63, (plainV v4).val), (64, .int .i64 t17), (65, bp b16 2), (66, .int .i64 x14.T), (67, errV 43 t24), (68, .int .i64 t28), (69, .int .i64 2), (70, .bool (t28 != 2)), (71, .int .i64 2), (72, .bool (2 == 0))]) ⟨rfl, rfl, rfl, rfl, rfl, rfl, rfl, rfl, rfl, rfl, rfl, rfl, rfl, rfl, rfl, rfl, rfl, rfl, rfl, rfl, rfl, rfl, rfl, rfl, rfl, rfl, rfl, rfl, rfl, rfl, rfl, rfl, rfl, rfl, rfl, rfl, rfl, rfl, rfl, rfl, rfl, rfl, rfl, rfl, rfl, rfl, rfl, rfl, rfl, rfl, rfl, rfl, rfl, rfl, rfl, rfl, rfl, rfl, rfl, trivial⟩ ?_
                    refine S.forloop (X := Int × Unit) (O := Brk Bool (Int × Int × Bool)) (fun m x => law14_QueuePlays.l4 qv8_2 x16_3 t76 m x.1) (fun x => match x with | (x18_4, _) => [(18, .int .i64 x18_4), (186, .bool ((t76.length : Int) != (x82.length : Int))), (185, .int .i64 (x82.length : Int)), (184, u91), (183, idxp v8 (x16_3.toNat * (krS (ekI .i64)).sz)), (182, .int .i64 x16_3), (181, v8), (180, .int .i64 (t76.length : Int)), (179, v79), (17, v79), (178, v79), (177, .int .i64 x16_3), (176, (plainV v4).val), (175, v4), (172, .bool (decide (x16_3 < 4))), (171, .int .i64 x16_3), (16, .int .i64 x16_3), (0, v0), (2, .bool false), (3, .bool t1), (4, v4), (5, v8), (6, .int .i64 x6_1), (7, bp b16 0), (8, .int .i64 t17), (9, .int .i64 t19), (10, .int .i64 2), (27, .int .i64 x6_1), (28, v0), (29, .int .i64 (a0.length : Int)), (30, .bool (decide (x6_1 < (a0.length : Int)))), (33, v0), (34, .int .i64 x6_1), (35, idxp v0 (x6_1.toNat * ek_law14_Deed.sz)), (36, .agg #[.int .i64 x14.What, .int .i64 x14.Obj, .int .i64 x14.T]), (37, bp b16 1), (38, .int .i64 x14.Obj), (39, .int .i64 t17), (40, bp b16 0), (41, .int .i64 x14.What), (42, .int .i64 t19), (43, .int .i64 t19), (44, .bool (decide (t19 < 2))), (45, bp b16 2), (46, .int .i64 x14.T), (47, .bool (decide (x14.T < 0))), (48, .bool (decide (x14.T < 0))), (52, .bool ((decide (x14.T < 0)) || (decide (31 < x14.T)))), (62, v4), (63, (plainV v4).val), (64, .int .i64 t17), (65, bp b16 2), (66, .int .i64 x14.T), (67, errV 43 t24), (68, .int .i64 t28), (69, .int .i64 2), (70, .bool (t28 != 2)), (71, .int .i64 2), (72, .bool (2 == 0))]) (fun x => match x with | (x18_4, _) => [OwnO 35 (krS (ekI .i64)) v8 raws87 A88 qv8_2, Own 40 (ekI .u64) v4 s78, Own 3 (ekI .i64) v79 t76, Box b16 [.int .i64 x14.What, .int .i64 x14.Obj, .int .i64 x14.T], F]) (fun Sk o' => (∀ r', o' = Brk.ret r' → some (Brk.ret r') = some o_3) ∧ ∀ j : (Int × Int × Bool), match j with | (j18_e4, j187_e4, j190_e4) => ∀ _ : Unit, o' = Brk.nx (j18_e4, j187_e4, j190_e4) → Sk [(0, v0), (2, .bool false), (3, .bool t1), (4, v4), (5, v8), (6, .int .i64 x6_1), (7, bp b16 0), (8, .int .i64 t17), (9, .int .i64 t19), (10, .int .i64 2), (16, .int .i64 x16_3), (17, v79), (18, .int .i64 j18_e4), (27, .int .i64 x6_1), (28, v0), (29, .int .i64 (a0.length : Int)), (30, .bool (decide (x6_1 < (a0.length : Int)))), (33, v0), (34, .int .i64 x6_1), (35, idxp v0 (x6_1.toNat * ek_law14_Deed.sz)), (36, .agg #[.int .i64 x14.What, .int .i64 x14.Obj, .int .i64 x14.T]), (37, bp b16 1), (38, .int .i64 x14.Obj), (39, .int .i64 t17), (40, bp b16 0), (41, .int .i64 x14.What), (42, .int .i64 t19), (43, .int .i64 t19), (44, .bool (decide (t19 < 2))), (45, bp b16 2), (46, .int .i64 x14.T), (47, .bool (decide (x14.T < 0))), (48, .bool (decide (x14.T < 0))), (52, .bool ((decide (x14.T < 0)) || (decide (31 < x14.T)))), (62, v4), (63, (plainV v4).val), (64, .int .i64 t17), (65, bp b16 2), (66, .int .i64 x14.T), (67, errV 43 t24), (68, .int .i64 t28), (69, .int .i64 2), (70, .bool (t28 != 2)), (71, .int .i64 2), (72, .bool (2 == 0)), (171, .int .i64 x16_3), (172, .bool (decide (x16_3 < 4))), (175, v4), (176, (plainV v4).val), (177, .int .i64 x16_3), (178, v79), (179, v79), (180, .int .i64 (t76.length : Int)), (181, v8), (182, .int .i64 x16_3), (183, idxp v8 (x16_3.toNat * (krS (ekI .i64)).sz)), (184, u91), (185, .int .i64 (x82.length : Int)), (186, .bool ((t76.length : Int) != (x82.length : Int))), (187, .int .i64 j187_e4), (188, v79), (189, .int .i64 (t76.length : Int)), (190, .bool j190_e4)] [OwnO 35 (krS (ekI .i64)) v8 raws87 A88 qv8_2, Own 40 (ekI .u64) v4 s78, Own 3 (ekI .i64) v79 t76, Box b16 [.int .i64 x14.What, .int .i64 x14.Obj, .int .i64 x14.T], F]) (fun _ => rfl) ?_ (m := k) (x := (0, ())) hl4 ?_
                    · clear h hl4
                      intro k x o_4 h hK4 ih4
                      obtain ⟨x18_4, _⟩ := x
                      replace h : law14_QueuePlays.l4 qv8_2 x16_3 t76 (k + 1) x18_4 = some o_4 := h
                      first | rw [law14_QueuePlays.l4] at h | unfold law14_QueuePlays.l4 at h
                      refine S.seq ?_
                      refine S.seq ?_
                      refine S.region ?_
                      refine SO.v rfl (opv_move rfl) ?_
                      refine SO.v rfl (opv_move rfl) ?_
                      refine SO.v rfl (opv_lenR rfl Try.underlying35 hr80 rfl) ?_
                      refine SO.v rfl (opv_lss rfl rfl) ?_
                      refine SO.nil ?_
                      rcases bool_or (decide (x18_4 < (t76.length : Int))) with b95 | b95
                      · replace h := cond_t b95 h
                        refine S.condT rfl b95 ?_
                        refine S.skip ?_
                        refine S.seq ?_
                        refine S.block ?_
                        refine S.seq ?_
                        obtain ⟨x96, hx97, h⟩ := opt_bind h
                        obtain ⟨x98, hx99, h⟩ := opt_bind h
                        obtain ⟨r100, hr101, hc102⟩ := relR.at hrel89 hx99
                        obtain ⟨u103, hu104, hru105⟩ := hc102.sl 0 rfl
                        obtain ⟨x106, hx107, h⟩ := opt_bind h
                        refine S.draw' (Z := fun Q => ∀ (_ : Unit) (_ : Unit) (_ : Unit) (_ : Unit) (_ : Unit) (_ : Unit) (_ : Unit) (_ : Unit) (_ : Unit) (_ : Unit) (_ : Unit) (_ : Unit) (_ : Unit) (_ : Unit) (_ : Unit) (_ : Unit) (_ : Unit) (_ : Unit) (_ : Unit) (_ : Unit) (_ : Unit) (_ : Unit), Q [(18, .int .i64 x18_4), (190, .bool (decide (x18_4 < (t76.length : Int)))), (189, .int .i64 (t76.length : Int)), (188, v79), (187, .int .i64 x18_4), (186, .bool ((t76.length : Int) != (x82.length : Int))), (185, .int .i64 (x82.length : Int)), (184, u91), (183, idxp v8 (x16_3.toNat * (krS (ekI .i64)).sz)), (182, .int .i64 x16_3), (181, v8), (180, .int .i64 (t76.length : Int)), (179, v79), (178, v79), (177, .int .i64 x16_3), (176, (plainV v4).val), (175, v4), (172, .bool (decide (x16_3 < 4))), (171, .int .i64 x16_3), (0, v0), (2, .bool false), (3, .bool t1), (4, v4), (6, .int .i64 x6_1), (7, bp b16 0), (8, .int .i64 t17), (9, .int .i64 t19), (10, .int .i64 2), (27, .int .i64 x6_1), (28, v0), (29, .int .i64 (a0.length : Int)), (30, .bool (decide (x6_1 < (a0.length : Int)))), (33, v0), (34, .int .i64 x6_1), (35, idxp v0 (x6_1.toNat * ek_law14_Deed.sz)), (36, .agg #[.int .i64 x14.What, .int .i64 x14.Obj, .int .i64 x14.T]), (37, bp b16 1), (38, .int .i64 x14.Obj), (39, .int .i64 t17), (40, bp b16 0), (41, .int .i64 x14.What), (42, .int .i64 t19), (43, .int .i64 t19), (44, .bool (decide (t19 < 2))), (45, bp b16 2), (46, .int .i64 x14.T), (47, .bool (decide (x14.T < 0))), (48, .bool (decide (x14.T < 0))), (52, .bool ((decide (x14.T < 0)) || (decide (31 < x14.T)))), (62, v4), (63, (plainV v4).val), (64, .int .i64 t17), (65, bp b16 2), (66, .int .i64 x14.T), (67, errV 43 t24), (68, .int .i64 t28), (69, .int .i64 2), (70, .bool (t28 != 2)), (71, .int .i64 2), (72, .bool (2 == 0)), (17, v79), (16, .int .i64 x16_3), (5, v8), (193, v79), (194, .int .i64 x18_4), (195, idxp v79 (x18_4.toNat * (ekI .i64).sz)), (196, .int .i64 x96), (197, v8), (198, .int .i64 x16_3), (199, idxp v8 (x16_3.toNat * (krS (ekI .i64)).sz)), (200, u103), (201, .int .i64 x18_4), (202, idxp u103 (x18_4.toNat * (ekI .i64).sz)), (203, .int .i64 x106), (204, .bool (x96 != x106))] [OwnO 35 (krS (ekI .i64)) v8 raws87 A88 qv8_2, Own 40 (ekI .u64) v4 s78, Own 3 (ekI .i64) v79 t76, Box b16 [.int .i64 x14.What, .int .i64 x14.Obj, .int .i64 x14.T], F]) (T := [tS 17 (v79), tS 18 (.int .i64 x18_4), tS 5 (v8), tS 16 (.int .i64 x16_3), tE [(190, .bool (decide (x18_4 < (t76.length : Int)))), (189, .int .i64 (t76.length : Int)), (188, v79), (187, .int .i64 x18_4), (186, .bool ((t76.length : Int) != (x82.length : Int))), (185, .int .i64 (x82.length : Int)), (184, u91), (183, idxp v8 (x16_3.toNat * (krS (ekI .i64)).sz)), (182, .int .i64 x16_3), (181, v8), (180, .int .i64 (t76.length : Int)), (179, v79), (178, v79), (177, .int .i64 x16_3), (176, (plainV v4).val), (175, v4), (172, .bool (decide (x16_3 < 4))), (171, .int .i64 x16_3), (0, v0), (2, .bool false), (3, .bool t1), (4, v4), (6, .int .i64 x6_1), (7, bp b16 0), (8, .int .i64 t17), (9, .int .i64 t19), (10, .int .i64 2), (27, .int .i64 x6_1), (28, v0), (29, .int .i64 (a0.length : Int)), (30, .bool (decide (x6_1 < (a0.length : Int)))), (33, v0), (34, .int .i64 x6_1), (35, idxp v0 (x6_1.toNat * ek_law14_Deed.sz)), (36, .agg #[.int .i64 x14.What, .int .i64 x14.Obj, .int .i64 x14.T]), (37, bp b16 1), (38, .int .i64 x14.Obj), (39, .int .i64 t17), (40, bp b16 0), (41, .int .i64 x14.What), (42, .int .i64 t19), (43, .int .i64 t19), (44, .bool (decide (t19 < 2))), (45, bp b16 2), (46, .int .i64 x14.T), (47, .bool (decide (x14.T < 0))), (48, .bool (decide (x14.T < 0))), (52, .bool ((decide (x14.T < 0)) || (decide (31 < x14.T)))), (62, v4), (63, (plainV v4).val), (64, .int .i64 t17), (65, bp b16 2), (66, .int .i64 x14.T), (67, errV 43 t24), (68, .int .i64 t28), (69, .int .i64 2), (70, .bool (t28 != 2)), (71, .int .i64 2), (72, .bool (2 == 0))], tR (OwnO 35 (krS (ekI .i64)) v8 raws87 A88 qv8_2), tR (Own 40 (ekI .u64) v4 s78), tR (Own 3 (ekI .i64) v79 t76), tR (Box b16 [.int .i64 x14.What, .int .i64 x14.Obj, .int .i64 x14.T]), tR (F), tS 193 (v79), tS 194 (.int .i64 x18_4), tS 195 (idxp v79 (x18_4.toNat * (ekI .i64).sz)), tS 196 (.int .i64 x96), tS 197 (v8), tS 198 (.int .i64 x16_3), tS 199 (idxp v8 (x16_3.toNat * (krS (ekI .i64)).sz)), tS 200 (u103), tS 201 (.int .i64 x18_4), tS 202 (idxp u103 (x18_4.toNat * (ekI .i64).sz)), tS 203 (.int .i64 x106), tS 204 (.bool (x96 != x106))]) (D := [⟨[0], [], [10]⟩, ⟨[1], [], [11]⟩, ⟨[10, 11, 7], [], [12]⟩, ⟨[12, 7], [], [13]⟩, ⟨[2], [], [14]⟩, ⟨[3], [], [15]⟩, ⟨[14, 15, 5], [], [16]⟩, ⟨[16, 5], [], [17]⟩, ⟨[1], [], [18]⟩, ⟨[17, 18, 5], [], [19]⟩, ⟨[19, 5], [], [20]⟩, ⟨[13, 20], [], [21]⟩]) (ini := [0, 1, 2, 3, 4, 5, 6, 7, 8, 9]) (fin := [1, 4, 0, 3, 2, 10, 11, 12, 13, 14, 15, 16, 17, 18, 19, 20, 21, 5, 6, 7, 8, 9]) (bf := [[], [], [0, 1], [0, 1, 2], [], [], [4, 5], [4, 5, 6], [], [4, 5, 6, 7, 8], [4, 5, 6, 7, 8, 9], [0, 1, 2, 3, 4, 5, 6, 7, 8, 9, 10]]) (by kernel_rfl) (by kernel_rfl) (fun x w h1 h2 => (.cons () (.cons () (.cons () (.cons () (.cons () (.cons () (.cons () (.cons () (.cons () (.cons () (.nil ⟨EnvAll.of h1 ⟨rfl, rfl, rfl, rfl, rfl, rfl, rfl, rfl, rfl, rfl, rfl, rfl, rfl, rfl, rfl, rfl, rfl, rfl, rfl, rfl, rfl, rfl, rfl, rfl, rfl, rfl, rfl, rfl, rfl, rfl, rfl, rfl, rfl, rfl, rfl, rfl, rfl, rfl, rfl, rfl, rfl, rfl, rfl, rfl, rfl, rfl, rfl, rfl, rfl, rfl, rfl, rfl, rfl, rfl, rfl, rfl, rfl, rfl, rfl, rfl, rfl, rfl, rfl, trivial⟩, h2⟩)))))))))))) (fun Q => by kernel_rfl) ⟨?_, ?_, ?_, ?_, ?_, ?_, ?_, ?_, ?_, ?_, ?_, ?_, trivial⟩ ?_
                        · rintro Fr _
                          refine SO.v rfl (opv_move rfl) ?_
                          exact SO.nilZ fun a w h1 h2 h3 h4 h5 => PZ.of h1 h3 h5 (.cons () (.cons () (.nil ⟨EnvAll.of h2 ⟨rfl, rfl, trivial⟩, h4⟩)))
                        · rintro Fr _
                          refine SO.v rfl (opv_move rfl) ?_
                          exact SO.nilZ fun a w h1 h2 h3 h4 h5 => PZ.of h1 h3 h5 (.cons () (.cons () (.nil ⟨EnvAll.of h2 ⟨rfl, rfl, trivial⟩, h4⟩)))
                        · rintro Fr _ _ _
                          refine SO.v rfl (opv_idx Try.underlying35 Try.sizeOf3 hr80 rfl rfl hx97) ?_
                          exact SO.nilZ fun a w h1 h2 h3 h4 h5 => PZ.of h1 h3 h5 (.cons () (.cons () (.cons () (.cons () (.nil ⟨EnvAll.of h2 ⟨rfl, rfl, rfl, trivial⟩, h4⟩)))))
                        · rintro Fr _ _
                          refine SO.loadI1 (j := 0) rfl Try.isAgg3 (Rd.head hr80) hx97 rfl rfl rfl rfl ?_
                          exact SO.nilZ fun a w h1 h2 h3 h4 h5 => PZ.of h1 h3 h5 (.cons () (.cons () (.cons () (.nil ⟨EnvAll.of h2 ⟨rfl, rfl, trivial⟩, h4⟩))))
                        · rintro Fr _
                          refine SO.v rfl (opv_move rfl) ?_
                          exact SO.nilZ fun a w h1 h2 h3 h4 h5 => PZ.of h1 h3 h5 (.cons () (.cons () (.nil ⟨EnvAll.of h2 ⟨rfl, rfl, trivial⟩, h4⟩)))
                        · rintro Fr _
                          refine SO.v rfl (opv_move rfl) ?_
                          exact SO.nilZ fun a w h1 h2 h3 h4 h5 => PZ.of h1 h3 h5 (.cons () (.cons () (.nil ⟨EnvAll.of h2 ⟨rfl, rfl, trivial⟩, h4⟩)))
                        · rintro Fr _ _ _
                          refine SO.v rfl (opv_idx Try.underlying26 Try.sizeOf35 hR90 rfl rfl hr101) ?_
                          exact SO.nilZ fun a w h1 h2 h3 h4 h5 => PZ.of h1 h3 h5 (.cons () (.cons () (.cons () (.cons () (.nil ⟨EnvAll.of h2 ⟨rfl, rfl, rfl, trivial⟩, h4⟩)))))
                        · rintro Fr _ _
                          refine SO.loadI1 (j := 0) rfl Try.isAgg35 (Rd.head hR90) hr101 rfl rfl rfl hu104 ?_
                          exact SO.nilZ fun a w h1 h2 h3 h4 h5 => PZ.of h1 h3 h5 (.cons () (.cons () (.cons () (.nil ⟨EnvAll.of h2 ⟨rfl, rfl, trivial⟩, h4⟩))))
                        · rintro Fr _
                          refine SO.v rfl (opv_move rfl) ?_
                          exact SO.nilZ fun a w h1 h2 h3 h4 h5 => PZ.of h1 h3 h5 (.cons () (.cons () (.nil ⟨EnvAll.of h2 ⟨rfl, rfl, trivial⟩, h4⟩)))
                        · rintro Fr _ _ _
                          refine SO.v rfl (opv_idx Try.underlying35 Try.sizeOf3 hru105 rfl rfl hx107) ?_
                          exact SO.nilZ fun a w h1 h2 h3 h4 h5 => PZ.of h1 h3 h5 (.cons () (.cons () (.cons () (.cons () (.nil ⟨EnvAll.of h2 ⟨rfl, rfl, rfl, trivial⟩, h4⟩)))))
                        · rintro Fr _ _
                          refine SO.loadI1 (j := 0) rfl Try.isAgg3 (Rd.head (Rd.pool hru105)) hx107 rfl rfl rfl rfl ?_
                          exact SO.nilZ fun a w h1 h2 h3 h4 h5 => PZ.of h1 h3 h5 (.cons () (.cons () (.cons () (.nil ⟨EnvAll.of h2 ⟨rfl, rfl, trivial⟩, h4⟩))))
                        · rintro Fr _ _
                          refine SO.v rfl (opv_neq rfl rfl) ?_
                          exact SO.nilZ fun a w h1 h2 h3 h4 h5 => PZ.of h1 h3 h5 (.cons () (.cons () (.cons () (.nil ⟨EnvAll.of h2 ⟨rfl, rfl, rfl, trivial⟩, h4⟩))))
                        rintro _ _ _ _ _ _ _ _ _ _ _ _ _ _ _ _ _ _ _ _ _ _
                        refine S.to (ρ' := [(18, .int .i64 x18_4), (190, .bool (decide (x18_4 < (t76.length : Int)))), (189, .int .i64 (t76.length : Int)), (188, v79), (187, .int .i64 x18_4), (186, .bool ((t76.length : Int) != (x82.length : Int))), (185, .int .i64 (x82.length : Int)), (184, u91), (183, idxp v8 (x16_3.toNat * (krS (ekI .i64)).sz)), (182, .int .i64 x16_3), (181, v8), (180, .int .i64 (t76.length : Int)), (179, v79), (178, v79), (177, .int .i64 x16_3), (176, (plainV v4).val), (175, v4), (172, .bool (decide (x16_3 < 4))), (171, .int .i64 x16_3), (0, v0), (2, .bool false), (3, .bool t1), (4, v4), (6, .int .i64 x6_1), (7, bp b16 0), (8, .int .i64 t17), (9, .int .i64 t19), (10, .int .i64 2), (27, .int .i64 x6_1), (28, v0), (29, .int .i64 (a0.length : Int)), (30, .bool (decide (x6_1 < (a0.length : Int)))), (33, v0), (34, .int .i64 x6_1), (35, idxp v0 (x6_1.toNat * ek_law14_Deed.sz)), (36, .agg #[.int .i64 x14.What, .int .i64 x14.Obj, .int .i64 x14.T]), (37, bp b16 1), (38, .int .i64 x14.Obj), (39, .int .i64 t17), (40, bp b16 0), (41, .int .i64 x14.What), (42, .int .i64 t19), (43, .int .i64 t19), (44, .bool (decide (t19 < 2))), (45, bp b16 2), (46, .int .i64 x14.T), (47, .bool (decide (x14.T < 0))), (48, .bool (decide (x14.T < 0))), (52, .bool ((decide (x14.T < 0)) || (decide (31 < x14.T)))), (62, v4), (63, (plainV v4).val), (64, .int .i64 t17), (65, bp b16 2), (66, .int .i64 x14.T), (67, errV 43 t24), (68, .int .i64 t28), (69, .int .i64 2), (70, .bool (t28 != 2)), (71, .int .i64 2), (72, .bool (2 == 0)), (17, v79), (16, .int .i64 x16_3), (5, v8), (193, v79), (194, .int .i64 x18_4), (195, idxp v79 (x18_4.toNat * (ekI .i64).sz)), (196, .int .i64 x96), (197, v8), (198, .int .i64 x16_3), (199, idxp v8 (x16_3.toNat * (krS (ekI .i64)).sz)), (200, u103), (201, .int .i64 x18_4), (202, idxp u103 (x18_4.toNat * (ekI .i64).sz)), (203, .int .i64 x106), (204, .bool (x96 != x106))]) ⟨rfl, rfl, rfl, rfl, rfl, rfl, rfl, rfl, rfl, rfl, rfl, rfl, rfl, rfl, rfl, rfl, rfl, rfl, rfl, rfl, rfl, rfl, rfl, rfl, rfl, rfl, rfl, rfl, rfl, rfl, rfl, rfl, rfl, rfl, rfl, rfl, rfl, rfl, rfl, rfl, rfl, rfl, rfl, rfl, rfl, rfl, rfl, rfl, rfl, rfl, rfl, rfl, rfl, rfl, rfl, rfl, rfl, rfl, rfl, rfl, rfl, rfl, rfl, rfl, rfl, rfl, rfl, rfl, rfl, rfl, rfl, rfl, rfl, rfl, rfl, trivial⟩ ?_
                        rcases bool_or (x96 != x106) with b108 | b108
                        · replace h := cond_t b108 h
                          refine S.condT rfl b108 ?_
                          refine S.seq ?_
                          refine S.region ?_
                          refine SO.v rfl (opv_assign rfl) ?_
                          refine SO.nil ?_
                          cases h
                          replace h := hK4.1 _ rfl
                          cases h
                          replace h := hK3.1 _ rfl
                          cases h
                          replace h := hK1.1 _ rfl
                          cases h
                          refine S.closeR ?_
                          refine S.drop ?_
                          refine S.drop ?_
                          refine S.drop ?_
                          refine S.drop ?_
                          exact S.ret1 Try.func3 rfl rfl (fun w hs hk => hR w _ _ ⟨rfl, rfl⟩ hs hk)
                        · replace h := cond_f b108 h
                          refine S.condF rfl b108 ?_
                          refine S.skip ?_
                          refine S.inBlock ?_
                          refine S.region ?_
                          refine SO.v rfl (opv_move rfl) ?_
                          refine SO.v rfl (opv_add rfl rfl) ?_
                          refine SO.v rfl (opv_assign rfl) ?_
                          refine SO.nil ?_
                          refine S.b4 ?_
                          refine S.b4 ?_
                          refine S.b4 ?_
                          refine S.b4 ?_
                          refine S.b4 ?_
                          refine S.to ?_ (ih4 (w64 (x18_4 + 1), ()) h)
                          exact ⟨rfl, rfl, rfl, rfl, rfl, rfl, rfl, rfl, rfl, rfl, rfl, rfl, rfl, rfl, rfl, rfl, rfl, rfl, rfl, rfl, rfl, rfl, rfl, rfl, rfl, rfl, rfl, rfl, rfl, rfl, rfl, rfl, rfl, rfl, rfl, rfl, rfl, rfl, rfl, rfl, rfl, rfl, rfl, rfl, rfl, rfl, rfl, rfl, rfl, rfl, rfl, rfl, rfl, rfl, rfl, rfl, rfl, rfl, rfl, trivial⟩
                      · replace h := cond_f b95 h
                        refine S.condF rfl b95 ?_
                        refine S.exit rfl ?_
                        cases h
                        refine S.b4 ?_
                        refine S.b4 ?_
                        refine S.b4 ?_
                        refine S.b4 ?_
                        refine S.b4 ?_
                        refine S.to ?_ (hK4.2 (x18_4, x18_4, decide (x18_4 < (t76.length : Int))) () rfl)
                        exact ⟨rfl, rfl, rfl, rfl, rfl, rfl, rfl, rfl, rfl, rfl, rfl, rfl, rfl, rfl, rfl, rfl, rfl, rfl, rfl, rfl, rfl, rfl, rfl, rfl, rfl, rfl, rfl, rfl, rfl, rfl, rfl, rfl, rfl, rfl, rfl, rfl, rfl, rfl, rfl, rfl, rfl, rfl, rfl, rfl, rfl, rfl, rfl, rfl, rfl, rfl, rfl, rfl, rfl, rfl, rfl, rfl, rfl, rfl, rfl, rfl, rfl, rfl, rfl, trivial⟩
                    refine ⟨fun r' e' => ?_, ?_⟩
                    · subst e'
                      have h9 := Brk.of_ret h
                      exact h9
                    rintro ⟨j18_e4, j187_e4, j190_e4⟩ _ e'
                    subst e'
                    replace h := Brk.of_nx h
                    refine S.inBlock ?_
                    refine S.region ?_
                    refine SO.v rfl (opv_move rfl) ?_
                    refine SO.v rfl (opv_add rfl rfl) ?_
                    refine SO.v rfl (opv_assign rfl) ?_
                    refine SO.nil ?_
                    refine S.closeR ?_
                    refine S.b2 ?_
                    refine S.drop ?_
                    refine S.b3 ?_
                    refine S.b1 ?_
                    refine S.b3 ?_
                    refine S.b3 ?_
                    refine S.to ?_ (ih3 ((w64 (x16_3 + 1), s78), ()) h)
                    exact ⟨rfl, rfl, rfl, rfl, rfl, rfl, rfl, rfl, rfl, rfl, rfl, rfl, rfl, rfl, rfl, rfl, rfl, rfl, rfl, rfl, rfl, rfl, rfl, rfl, rfl, rfl, rfl, rfl, rfl, rfl, rfl, rfl, rfl, rfl, rfl, rfl, rfl, rfl, rfl, rfl, rfl, rfl, rfl, trivial⟩
                · replace h := cond_f b75 h
                  refine S.condF rfl b75 ?_
                  refine S.exit rfl ?_
                  cases h
                  refine S.b3 ?_
                  refine S.b3 ?_
                  refine S.b3 ?_
                  refine S.b3 ?_
                  refine S.to ?_ (hK3.2 (x16_3, x16_3, decide (x16_3 < 4), qv4_3) () rfl)
                  exact ⟨rfl, rfl, rfl, rfl, rfl, rfl, rfl, rfl, rfl, rfl, rfl, rfl, rfl, rfl, rfl, rfl, rfl, rfl, rfl, rfl, rfl, rfl, rfl, rfl, rfl, rfl, rfl, rfl, rfl, rfl, rfl, rfl, rfl, rfl, rfl, rfl, rfl, rfl, rfl, rfl, rfl, rfl, rfl, rfl, rfl, trivial⟩
              refine ⟨fun r' e' => ?_, ?_⟩
              · subst e'
                have h9 := Brk.of_ret h
                exact h9
              rintro ⟨j16_e3, j171_e3, j172_e3, qv4_e3⟩ _ e'
              subst e'
              replace h := Brk.of_nx h
              refine S.rd fun hr109 => ?_
              refine S.seq ?_
              refine S.region ?_
              refine SO.v rfl (opv_assign rfl) ?_
              refine SO.nil ?_
              obtain ⟨o5, hl5, h⟩ := opt_bind h
              refine S.b3 ?_
              refine S.b3 ?_
              refine S.b3 ?_
              refine S.b3 ?_
              refine S.to (ρ' := [(19, .int .i64 4), (0, v0), (2, .bool false), (3, .bool t1), (4, v4), (5, v8), (6, .int .i64 x6_1), (7, bp b16 0), (8, .int .i64 t17), (9, .int .i64 t19), (10, .int .i64 2), (16, .int .i64 j16_e3), (27, .int .i64 x6_1), (28, v0), (29, .int .i64 (a0.length : Int)), (30, .bool (decide (x6_1 < (a0.length : Int)))), (33, v0), (34, .int .i64 x6_1), (35, idxp v0 (x6_1.toNat * ek_law14_Deed.sz)), (36, .agg #[.int .i64 x14.What, .int .i64 x14.Obj, .int .i64 x14.T]), (37, bp b16 1), (38, .int .i64 x14.Obj), (39, .int .i64 t17), (40, bp b16 0), (41, .int .i64 x14.What), (42, .int .i64 t19), (43, .int .i64 t19), (44, .bool (decide (t19 < 2))), (45, bp b16 2), (46, .int .i64 x14.T), (47, .bool (decide (x14.T < 0))), (48, .bool (decide (x14.T < 0))), (52, .bool ((decide (x14.T < 0)) || (decide (31 < x14.T)))), (62, v4), (63, (plainV v4).val), (64, .int .i64 t17), (65, bp b16 2), (66, .int .i64 x14.T), (67, errV 43 t24), (68, .int .i64 t28), (69, .int .i64 2), (70, .bool (t28 != 2)), (71, .int .i64 2), (72, .bool (2 == 0)), (171, .int .i64 j171_e3), (172, .bool j172_e3)]) ⟨rfl, rfl, rfl, rfl, rfl, rfl, rfl, rfl, rfl, rfl, rfl, rfl, rfl, rfl, rfl, rfl, rfl, rfl, rfl, rfl, rfl, rfl, rfl, rfl, rfl, rfl, rfl, rfl, rfl, rfl, rfl, rfl, rfl, rfl, rfl, rfl, rfl, rfl, rfl, rfl, rfl, rfl, rfl, rfl, rfl, rfl, trivial⟩ ?_
              refine S.forloop (X := Int × Unit) (O := Brk Bool (Int × Int × Bool)) (fun m x => law14_QueuePlays.l5 qv8_2 qv4_e3 m x.1) (fun x => match x with | (x19_5, _) => [(19, .int .i64 x19_5), (0, v0), (2, .bool false), (3, .bool t1), (4, v4), (5, v8), (6, .int .i64 x6_1), (7, bp b16 0), (8, .int .i64 t17), (9, .int .i64 t19), (10, .int .i64 2), (16, .int .i64 j16_e3), (27, .int .i64 x6_1), (28, v0), (29, .int .i64 (a0.length : Int)), (30, .bool (decide (x6_1 < (a0.length : Int)))), (33, v0), (34, .int .i64 x6_1), (35, idxp v0 (x6_1.toNat * ek_law14_Deed.sz)), (36, .agg #[.int .i64 x14.What, .int .i64 x14.Obj, .int .i64 x14.T]), (37, bp b16 1), (38, .int .i64 x14.Obj), (39, .int .i64 t17), (40, bp b16 0), (41, .int .i64 x14.What), (42, .int .i64 t19), (43, .int .i64 t19), (44, .bool (decide (t19 < 2))), (45, bp b16 2), (46, .int .i64 x14.T), (47, .bool (decide (x14.T < 0))), (48, .bool (decide (x14.T < 0))), (52, .bool ((decide (x14.T < 0)) || (decide (31 < x14.T)))), (62, v4), (63, (plainV v4).val), (64, .int .i64 t17), (65, bp b16 2), (66, .int .i64 x14.T), (67, errV 43 t24), (68, .int .i64 t28), (69, .int .i64 2), (70, .bool (t28 != 2)), (71, .int .i64 2), (72, .bool (2 == 0)), (171, .int .i64 j171_e3), (172, .bool j172_e3)]) (fun x => match x with | (x19_5, _) => [Own 40 (ekI .u64) v4 qv4_e3, Box b16 [.int .i64 x14.What, .int .i64 x14.Obj, .int .i64 x14.T], OwnR 35 (krS (ekI .i64)) v8 qv8_2, F]) (fun Sk o' => (∀ r', o' = Brk.ret r' → some (Brk.ret r') = some o_1) ∧ ∀ j : (Int × Int × Bool), match j with | (j19_e5, j205_e5, j206_e5) => ∀ _ : Unit, o' = Brk.nx (j19_e5, j205_e5, j206_e5) → Sk [(0, v0), (2, .bool false), (3, .bool t1), (4, v4), (5, v8), (6, .int .i64 x6_1), (7, bp b16 0), (8, .int .i64 t17), (9, .int .i64 t19), (10, .int .i64 2), (16, .int .i64 j16_e3), (19, .int .i64 j19_e5), (27, .int .i64 x6_1), (28, v0), (29, .int .i64 (a0.length : Int)), (30, .bool (decide (x6_1 < (a0.length : Int)))), (33, v0), (34, .int .i64 x6_1), (35, idxp v0 (x6_1.toNat * ek_law14_Deed.sz)), (36, .agg #[.int .i64 x14.What, .int .i64 x14.Obj, .int .i64 x14.T]), (37, bp b16 1), (38, .int .i64 x14.Obj), (39, .int .i64 t17), (40, bp b16 0), (41, .int .i64 x14.What), (42, .int .i64 t19), (43, .int .i64 t19), (44, .bool (decide (t19 < 2))), (45, bp b16 2), (46, .int .i64 x14.T), (47, .bool (decide (x14.T < 0))), (48, .bool (decide (x14.T < 0))), (52, .bool ((decide (x14.T < 0)) || (decide (31 < x14.T)))), (62, v4), (63, (plainV v4).val), (64, .int .i64 t17), (65, bp b16 2), (66, .int .i64 x14.T), (67, errV 43 t24), (68, .int .i64 t28), (69, .int .i64 2), (70, .bool (t28 != 2)), (71, .int .i64 2), (72, .bool (2 == 0)), (171, .int .i64 j171_e3), (172, .bool j172_e3), (205, .int .i64 j205_e5), (206, .bool j206_e5)] [Own 40 (ekI .u64) v4 qv4_e3, Box b16 [.int .i64 x14.What, .int .i64 x14.Obj, .int .i64 x14.T], OwnR 35 (krS (ekI .i64)) v8 qv8_2, F]) (fun _ => rfl) ?_ (m := k) (x := (4, ())) hl5 ?_
              · clear h hl5
                intro k x o_5 h hK5 ih5
                obtain ⟨x19_5, _⟩ := x
                replace h : law14_QueuePlays.l5 qv8_2 qv4_e3 (k + 1) x19_5 = some o_5 := h
                first | rw [law14_QueuePlays.l5] at h | unfold law14_QueuePlays.l5 at h
                refine S.seq ?_
                refine S.seq ?_
                refine S.region ?_
                refine SO.v rfl (opv_move rfl) ?_
                refine SO.v rfl (opv_lss rfl rfl) ?_
                refine SO.nil ?_
                rcases bool_or (decide (x19_5 < 32)) with b110 | b110
                · replace h := cond_t b110 h
                  refine S.condT rfl b110 ?_
                  refine S.skip ?_
                  refine S.seq ?_
                  refine S.block ?_
                  refine S.seq ?_
                  refine S.region ?_
                  refine SO.v rfl (opv_move rfl) ?_
                  refine SO.v rfl (opv_move rfl) ?_
                  obtain ⟨t115, ht116, h⟩ := opt_bind h
                  refine SO.b2 ?_
                  refine SO.openR fun raws111 A112 hrel113 hR114 => ?_
                  refine SO.call (pre := []) rfl Try.call7 rfl rfl rfl (law14_in.ct _ v8 _ _ _ ht116) (Rd2.head (Rd2.ofO hrel113 hR114)) ?_
                  rintro _ _ ⟨rfl, rfl⟩
                  refine SO.v rfl (opv_not rfl) ?_
                  refine SO.v rfl (opv_move rfl) ?_
                  obtain ⟨c118, hc119, hgk⟩ := opt_bind h
                  refine SO.cut 9 222 (.bool c118) [OwnO 35 (krS (ekI .i64)) v8 raws111 A112 qv8_2, Own 40 (ekI .u64) v4 qv4_e3, Box b16 [.int .i64 x14.What, .int .i64 x14.Obj, .int .i64 x14.T], F] (fun l2 hk2 => ?_) ?_
                  · clear hgk
                    replace h := hc119
                    rcases bool_or (!t115) with b117 | b117
                    · replace h := cond_t b117 h
                      refine SO.takeT rfl rfl rfl b117 ?_
                      refine SO.v rfl (opv_move rfl) ?_
                      refine SO.takeT rfl rfl rfl b117 ?_
                      refine SO.v rfl (opv_move rfl) ?_
                      refine SO.takeT rfl rfl rfl b117 ?_
                      refine SO.v rfl (opv_mul rfl rfl) ?_
                      refine SO.takeT rfl rfl rfl b117 ?_
                      refine SO.v rfl (opv_add rfl rfl) ?_
                      refine SO.takeT rfl rfl rfl b117 ?_
                      refine SO.v rfl (opv_add rfl rfl) ?_
                      refine SO.takeT rfl rfl rfl b117 ?_
                      obtain ⟨x120, hx121, h⟩ := opt_bind h
                      refine SO.v rfl (opv_idx Try.underlying25 Try.sizeOf40 hr109 rfl rfl hx121) ?_
                      refine SO.takeT rfl rfl rfl b117 ?_
                      refine SO.loadI1 (j := 0) rfl Try.isAgg40 (Rd.tail (Rd.head hr109)) hx121 rfl rfl rfl rfl ?_
                      refine SO.takeT rfl rfl rfl b117 ?_
                      refine SO.v rfl (opv_neq rfl rfl) ?_
                      cases h
                      refine SO.v rfl (opv_pick_t' b117 rfl rfl) ?_
                      refine SO.b3 ?_
                      refine SO.b3 ?_
                      refine SO.b3 ?_
                      refine SO.b3 ?_
                      exact hk2.fitc (m := 9) rfl (rfl) rfl
                    · replace h := cond_f b117 h
                      refine SO.passF rfl rfl rfl b117 rfl rfl ?_
                      refine SO.passF rfl rfl rfl b117 rfl rfl ?_
                      refine SO.passF rfl rfl rfl b117 rfl rfl ?_
                      refine SO.passF rfl rfl rfl b117 rfl rfl ?_
                      refine SO.passF rfl rfl rfl b117 rfl rfl ?_
                      refine SO.passF rfl rfl rfl b117 rfl rfl ?_
                      refine SO.passF rfl rfl rfl b117 rfl rfl ?_
                      refine SO.passF rfl rfl rfl b117 rfl rfl ?_
                      cases h
                      refine SO.v rfl (opv_pick_f' b117 rfl rfl) ?_
                      refine SO.b3 ?_
                      refine SO.b3 ?_
                      refine SO.b3 ?_
                      refine SO.b3 ?_
                      exact hk2.fitc (m := 9) rfl (rfl) rfl
                  clear hc119
                  replace h := hgk
                  refine SO.nil ?_
                  rcases bool_or c118 with b122 | b122
                  · replace h := cond_t b122 h
                    refine S.condT rfl b122 ?_
                    refine S.seq ?_
                    refine S.region ?_
                    refine SO.v rfl (opv_assign rfl) ?_
                    refine SO.nil ?_
                    cases h
                    replace h := hK5.1 _ rfl
                    cases h
                    replace h := hK1.1 _ rfl
                    cases h
                    refine S.closeR ?_
                    refine S.drop ?_
                    refine S.drop ?_
                    refine S.drop ?_
                    exact S.ret1 Try.func3 rfl rfl (fun w hs hk => hR w _ _ ⟨rfl, rfl⟩ hs hk)
                  · replace h := cond_f b122 h
                    refine S.condF rfl b122 ?_
                    refine S.skip ?_
                    refine S.inBlock ?_
                    refine S.region ?_
                    refine SO.v rfl (opv_move rfl) ?_
                    refine SO.v rfl (opv_add rfl rfl) ?_
                    refine SO.v rfl (opv_assign rfl) ?_
                    refine SO.nil ?_
                    refine S.closeR ?_
                    refine S.b3 ?_
                    refine S.b1 ?_
                    refine S.b3 ?_
                    refine S.b3 ?_
                    refine S.to ?_ (ih5 (w64 (x19_5 + 1), ()) h)
                    exact ⟨rfl, rfl, rfl, rfl, rfl, rfl, rfl, rfl, rfl, rfl, rfl, rfl, rfl, rfl, rfl, rfl, rfl, rfl, rfl, rfl, rfl, rfl, rfl, rfl, rfl, rfl, rfl, rfl, rfl, rfl, rfl, rfl, rfl, rfl, rfl, rfl, rfl, rfl, rfl, rfl, rfl, rfl, rfl, rfl, rfl, rfl, trivial⟩
                · replace h := cond_f b110 h
                  refine S.condF rfl b110 ?_
                  refine S.exit rfl ?_
                  cases h
                  refine S.b3 ?_
                  refine S.b3 ?_
                  refine S.b3 ?_
                  refine S.b3 ?_
                  refine S.to ?_ (hK5.2 (x19_5, x19_5, decide (x19_5 < 32)) () rfl)
                  exact ⟨rfl, rfl, rfl, rfl, rfl, rfl, rfl, rfl, rfl, rfl, rfl, rfl, rfl, rfl, rfl, rfl, rfl, rfl, rfl, rfl, rfl, rfl, rfl, rfl, rfl, rfl, rfl, rfl, rfl, rfl, rfl, rfl, rfl, rfl, rfl, rfl, rfl, rfl, rfl, rfl, rfl, rfl, rfl, rfl, rfl, rfl, rfl, rfl, trivial⟩
              refine ⟨fun r' e' => ?_, ?_⟩
              · subst e'
                have h9 := Brk.of_ret h
                exact h9
              rintro ⟨j19_e5, j205_e5, j206_e5⟩ _ e'
              subst e'
              replace h := Brk.of_nx h
              refine S.inBlock ?_
              refine S.region ?_
              refine SO.v rfl (opv_move rfl) ?_
              refine SO.v rfl (opv_add rfl rfl) ?_
              refine SO.v rfl (opv_assign rfl) ?_
              refine SO.nil ?_
              refine S.b1 ?_
              refine S.drop ?_
              refine S.b2 ?_
              refine S.b1 ?_
              refine S.b2 ?_
              refine S.to ?_ (ih1 ((w64 (x6_1 + 1), qv4_e3, qv8_2), ()) h)
              exact ⟨rfl, rfl, rfl, rfl, rfl, rfl, trivial⟩
          · replace h := cond_f b23 h
            refine S.condF rfl b23 ?_
            refine S.seq ?_
            refine S.region ?_
            refine SO.v rfl (opv_fieldAddr Try.underlying28 rfl Try.sizeOf3 rfl rfl) ?_
            refine SO.load1 rfl Try.isAgg3 rfl rfl ?_
            refine SO.v rfl (opv_lss rfl rfl) ?_
            refine SO.v rfl (opv_move rfl) ?_
            refine SO.b2 ?_
            refine SO.openR fun raws123 A124 hrel125 hR126 => ?_
            obtain ⟨c128, hc129, hgk⟩ := opt_bind h
            refine SO.cut 5 61 (.bool c128) [OwnO 35 (krS (ekI .i64)) v8 raws123 A124 qv8_1, Box b16 [.int .i64 x14.What, .int .i64 x14.Obj, .int .i64 x14.T], Own 40 (ekI .u64) v4 qv4_1, F] (fun l2 hk2 => ?_) ?_
            · clear hgk
              replace h := hc129
              rcases bool_or (decide (x14.T < 4)) with b127 | b127
              · replace h := cond_t b127 h
                refine SO.passF rfl rfl rfl b127 rfl rfl ?_
                refine SO.passF rfl rfl rfl b127 rfl rfl ?_
                refine SO.passF rfl rfl rfl b127 rfl rfl ?_
                refine SO.passF rfl rfl rfl b127 rfl rfl ?_
                cases h
                refine SO.v rfl (opv_pick_t' b127 rfl rfl) ?_
                refine SO.b3 ?_
                refine SO.b3 ?_
                refine SO.b3 ?_
                refine SO.b3 ?_
                exact hk2.fitc (m := 5) rfl (rfl) rfl
              · replace h := cond_f b127 h
                refine SO.takeT rfl rfl rfl b127 ?_
                refine SO.v rfl (opv_move rfl) ?_
                refine SO.takeT rfl rfl rfl b127 ?_
                refine SO.v rfl (opv_fieldAddr Try.underlying28 rfl Try.sizeOf3 rfl rfl) ?_
                refine SO.takeT rfl rfl rfl b127 ?_
                refine SO.b1 ?_
                refine SO.load1 rfl Try.isAgg3 rfl rfl ?_
                refine SO.takeT rfl rfl rfl b127 ?_
                obtain ⟨t130, ht131, h⟩ := opt_bind h
                refine SO.call (pre := []) rfl Try.call7 rfl rfl rfl (law14_in.ct _ v8 _ _ _ ht131) (Rd2.tail (Rd2.head (Rd2.ofO hrel125 hR126))) ?_
                rintro _ _ ⟨rfl, rfl⟩
                cases h
                refine SO.v rfl (opv_pick_f' b127 rfl rfl) ?_
                refine SO.b3 ?_
                refine SO.b3 ?_
                refine SO.b2 ?_
                refine SO.b3 ?_
                exact hk2.fitc (m := 5) rfl (rfl) rfl
            clear hc129
            replace h := hgk
            refine SO.nil ?_
            rcases bool_or c128 with b132 | b132
            · replace h := cond_t b132 h
              refine S.condT rfl b132 ?_
              refine S.exit rfl ?_
              refine S.region ?_
              refine SO.v rfl (opv_move rfl) ?_
              refine SO.v rfl (opv_add rfl rfl) ?_
              refine SO.v rfl (opv_assign rfl) ?_
              refine SO.nil ?_
              refine S.closeR ?_
              refine S.b1 ?_
              refine S.drop ?_
              refine S.b2 ?_
              refine S.b2 ?_
              refine S.b2 ?_
              refine S.to ?_ (ih1 ((w64 (x6_1 + 1), qv4_1, qv8_1), ()) h)
              exact ⟨rfl, rfl, rfl, rfl, rfl, rfl, trivial⟩
            · replace h := cond_f b132 h
              refine S.condF rfl b132 ?_
              refine S.skip ?_
              refine S.seq ?_
              refine S.seq ?_
              refine S.region ?_
              refine SO.v rfl (opv_move rfl) ?_
              refine SO.v rfl (opv_iface Try.underlying25 rfl rfl) ?_
              refine SO.v rfl (opv_move rfl) ?_
              refine SO.v rfl (opv_fieldAddr Try.underlying28 rfl Try.sizeOf3 rfl rfl) ?_
              refine SO.b1 ?_
              refine SO.load1 rfl Try.isAgg3 rfl rfl ?_
              obtain ⟨⟨t133, s135⟩, ht134, h⟩ := opt_bind h
              refine SO.b2 ?_
              refine SO.call (pre := [(plainV v4).rep _]) rfl Try.call9 rfl rfl rfl (queue_Push.ct (plainV v4) _ _ _ _ _ ht134) trivial ?_
              rintro _ _ ⟨rfl, rfl⟩
              refine headEq (plainV_rep _ _) ?_
              refine SO.rd fun hr136 => ?_
              obtain ⟨t137, ht138, h⟩ := opt_bind h
              refine SO.call (pre := []) rfl Try.call8 rfl rfl rfl (law00_Code.ct _ _ _ ht138) trivial ?_
              rintro _ _ ⟨rfl, rfl⟩
              refine SO.v rfl (opv_move rfl) ?_
              refine SO.v rfl (opv_neq rfl rfl) ?_
              refine SO.nil ?_
              rcases bool_or (t137 != 0) with b139 | b139
              · replace h := cond_t b139 h
                refine S.condT rfl b139 ?_
                refine S.seq ?_
                refine S.region ?_
                refine SO.v rfl (opv_assign rfl) ?_
                refine SO.nil ?_
                cases h
                replace h := hK1.1 _ rfl
                cases h
                refine S.b2 ?_
                refine S.closeR ?_
                refine S.drop ?_
                refine S.drop ?_
                refine S.drop ?_
                exact S.ret1 Try.func3 rfl rfl (fun w hs hk => hR w _ _ ⟨rfl, rfl⟩ hs hk)
              · replace h := cond_f b139 h
                refine S.condF rfl b139 ?_
                refine S.skip ?_
                refine S.seq ?_
                refine S.region ?_
                refine SO.v rfl (opv_move rfl) ?_
                refine SO.v rfl (opv_eql rfl rfl) ?_
                refine SO.nil ?_
                obtain ⟨qv8_6, hC6, hJ6⟩ := opt_bind h
                clear h
                refine S.cutP (G := Unit) (fun _ => True) (fun _ => [(0, v0), (2, .bool false), (3, .bool t1), (4, v4), (5, v8), (6, .int .i64 x6_1), (7, bp b16 0), (8, .int .i64 t17), (9, .int .i64 t19), (10, .int .i64 0), (27, .int .i64 x6_1), (28, v0), (29, .int .i64 (a0.length : Int)), (30, .bool (decide (x6_1 < (a0.length : Int)))), (33, v0), (34, .int .i64 x6_1), (35, idxp v0 (x6_1.toNat * ek_law14_Deed.sz)), (36, .agg #[.int .i64 x14.What, .int .i64 x14.Obj, .int .i64 x14.T]), (37, bp b16 1), (38, .int .i64 x14.Obj), (39, .int .i64 t17), (40, bp b16 0), (41, .int .i64 x14.What), (42, .int .i64 t19), (43, .int .i64 t19), (44, .bool (decide (t19 < 2))), (45, bp b16 2), (46, .int .i64 x14.T), (47, .bool (decide (x14.T < 0))), (48, .bool (decide (x14.T < 0))), (52, .bool ((decide (x14.T < 0)) || (decide (31 < x14.T)))), (53, bp b16 2), (54, .int .i64 x14.T), (55, .bool (decide (x14.T < 4))), (56, .bool (decide (x14.T < 4))), (61, .bool c128), (62, v4), (63, (plainV v4).val), (64, .int .i64 t17), (65, bp b16 2), (66, .int .i64 x14.T), (67, errV 43 t133), (68, .int .i64 t137), (69, .int .i64 0), (70, .bool (t137 != 0)), (71, .int .i64 0), (72, .bool (0 == 0))]) (fun _ => [Own 40 (ekI .u64) v4 s135, Box b16 [.int .i64 x14.What, .int .i64 x14.Obj, .int .i64 x14.T], OwnR 35 (krS (ekI .i64)) v8 qv8_6, F]) (fun hk6 => ?_) ?_
                · replace h := hC6
                  rcases bool_or (0 == 0) with b140 | b140
                  · replace h := cond_t b140 h
                    refine S.condT rfl b140 ?_
                    obtain ⟨x143, hx144, h⟩ := opt_bind h
                    obtain ⟨r145, hr146, hc147⟩ := relR.at hrel125 hx144
                    obtain ⟨u148, hu149, hru150⟩ := hc147.sl 0 rfl
                    obtain ⟨zs152, hz153, h⟩ := opt_bind h
                    obtain ⟨zs160, hz161, h⟩ := opt_bind h
                    obtain ⟨x164, hx165, h⟩ := opt_bind h
                    obtain ⟨r166, hr167, hc168⟩ := relR.at hrel125 hx165
                    refine S.draw' (Z := fun Q => ∀ (_ : Unit) (_ : Unit) (_ : Unit) (_ : Unit) (_ : Unit) (_ : Unit) (_ : Unit) (_ : Unit) (_ : Unit) (_ : Unit) (_ : Unit) (_ : Unit) (v156 : Value) (_ : Unit) (_ : Unit) (_ : Unit) (_ : Unit) (_ : Unit), Q [(72, .bool (0 == 0)), (71, .int .i64 0), (70, .bool (t137 != 0)), (69, .int .i64 0), (68, .int .i64 t137), (67, errV 43 t133), (66, .int .i64 x14.T), (65, bp b16 2), (64, .int .i64 t17), (63, (plainV v4).val), (62, v4), (61, .bool c128), (56, .bool (decide (x14.T < 4))), (55, .bool (decide (x14.T < 4))), (54, .int .i64 x14.T), (53, bp b16 2), (52, .bool ((decide (x14.T < 0)) || (decide (31 < x14.T)))), (48, .bool (decide (x14.T < 0))), (47, .bool (decide (x14.T < 0))), (46, .int .i64 x14.T), (45, bp b16 2), (10, .int .i64 0), (44, .bool (decide (t19 < 2))), (43, .int .i64 t19), (9, .int .i64 t19), (42, .int .i64 t19), (41, .int .i64 x14.What), (40, bp b16 0), (39, .int .i64 t17), (38, .int .i64 x14.Obj), (37, bp b16 1), (36, .agg #[.int .i64 x14.What, .int .i64 x14.Obj, .int .i64 x14.T]), (35, idxp v0 (x6_1.toNat * ek_law14_Deed.sz)), (34, .int .i64 x6_1), (33, v0), (30, .bool (decide (x6_1 < (a0.length : Int)))), (29, .int .i64 (a0.length : Int)), (28, v0), (27, .int .i64 x6_1), (6, .int .i64 x6_1), (4, v4), (3, .bool t1), (2, .bool false), (0, v0), (5, v8), (7, bp b16 0), (8, .int .i64 t17), (73, v8), (74, .int .i64 t17), (76, v8), (77, .int .i64 t17), (78, idxp v8 (t17.toNat * (krS (ekI .i64)).sz)), (79, u148), (81, bp b16 2), (82, .int .i64 x14.T), (83, v156), (85, idxp v8 (t17.toNat * (krS (ekI .i64)).sz))] [Own 3 (ekI .i64) v156 ([x14.T]), Own 40 (ekI .u64) v4 s135, Box b16 [.int .i64 x14.What, .int .i64 x14.Obj, .int .i64 x14.T], OwnR 35 (krS (ekI .i64)) v8 (qv8_1.set t17.toNat zs160), F]) (T := [tS 5 (v8), tS 8 (.int .i64 t17), tS 7 (bp b16 0), tE [(72, .bool (0 == 0)), (71, .int .i64 0), (70, .bool (t137 != 0)), (69, .int .i64 0), (68, .int .i64 t137), (67, errV 43 t133), (66, .int .i64 x14.T), (65, bp b16 2), (64, .int .i64 t17), (63, (plainV v4).val), (62, v4), (61, .bool c128), (56, .bool (decide (x14.T < 4))), (55, .bool (decide (x14.T < 4))), (54, .int .i64 x14.T), (53, bp b16 2), (52, .bool ((decide (x14.T < 0)) || (decide (31 < x14.T)))), (48, .bool (decide (x14.T < 0))), (47, .bool (decide (x14.T < 0))), (46, .int .i64 x14.T), (45, bp b16 2), (10, .int .i64 0), (44, .bool (decide (t19 < 2))), (43, .int .i64 t19), (9, .int .i64 t19), (42, .int .i64 t19), (41, .int .i64 x14.What), (40, bp b16 0), (39, .int .i64 t17), (38, .int .i64 x14.Obj), (37, bp b16 1), (36, .agg #[.int .i64 x14.What, .int .i64 x14.Obj, .int .i64 x14.T]), (35, idxp v0 (x6_1.toNat * ek_law14_Deed.sz)), (34, .int .i64 x6_1), (33, v0), (30, .bool (decide (x6_1 < (a0.length : Int)))), (29, .int .i64 (a0.length : Int)), (28, v0), (27, .int .i64 x6_1), (6, .int .i64 x6_1), (4, v4), (3, .bool t1), (2, .bool false), (0, v0)], tR (Own 40 (ekI .u64) v4 s135), tR (Box b16 [.int .i64 x14.What, .int .i64 x14.Obj, .int .i64 x14.T]), tR (OwnO 35 (krS (ekI .i64)) v8 raws123 A124 qv8_1), tR (F), tS 73 (v8), tS 74 (.int .i64 t17), ⟨Value, [75], (fun v141 => [(75, v141)]), (fun v141 => [Own 3 (ekI .i64) v141 ([])]), fun _ => rfl⟩, tS 76 (v8), tS 77 (.int .i64 t17), tS 78 (idxp v8 (t17.toNat * (krS (ekI .i64)).sz)), tS 79 (u148), ⟨Value, [80], (fun v154 => [(80, v154)]), (fun v154 => [Own 3 (ekI .i64) v154 zs152]), fun _ => rfl⟩, tS 81 (bp b16 2), tS 82 (.int .i64 x14.T), ⟨Value, [83], (fun v156 => [(83, v156)]), (fun v156 => [Own 3 (ekI .i64) v156 ([x14.T])]), fun _ => rfl⟩, ⟨Value, [84], (fun v162 => [(84, v162)]), (fun v162 => [Own 3 (ekI .i64) v162 zs160]), fun _ => rfl⟩, tS 85 (idxp v8 (t17.toNat * (krS (ekI .i64)).sz)), tR (OwnR 35 (krS (ekI .i64)) v8 (qv8_1.set t17.toNat zs160))]) (D := [⟨[0], [], [8]⟩, ⟨[1], [], [9]⟩, ⟨[], [], [10]⟩, ⟨[0], [], [11]⟩, ⟨[1], [], [12]⟩, ⟨[11, 12, 6], [], [13]⟩, ⟨[13, 6], [], [14]⟩, ⟨[14, 6], [10], [15]⟩, ⟨[2], [], [16]⟩, ⟨[16, 5], [], [17]⟩, ⟨[17], [], [18]⟩, ⟨[18], [15], [19]⟩, ⟨[8, 9, 6], [], [20]⟩, ⟨[20], [19, 6], [21]⟩]) (ini := [0, 1, 2, 3, 4, 5, 6, 7]) (fin := [3, 0, 2, 1, 8, 9, 11, 12, 13, 14, 16, 17, 18, 20, 4, 5, 21, 7]) (bf := [[], [], [], [], [], [3, 4], [3, 4, 5], [2, 3, 4, 5, 6], [], [8], [8, 9], [2, 3, 4, 5, 6, 7, 8, 9, 10], [0, 1, 2, 3, 4, 5, 6, 7, 8, 9, 10, 11], [0, 1, 2, 3, 4, 5, 6, 7, 8, 9, 10, 11, 12]]) (by kernel_rfl) (by kernel_rfl) (fun x w h1 h2 => (.cons () (.cons () (.cons () (.cons () (.cons () (.cons () (.cons () (.cons () (.nil ⟨EnvAll.of h1 ⟨rfl, rfl, rfl, rfl, rfl, rfl, rfl, rfl, rfl, rfl, rfl, rfl, rfl, rfl, rfl, rfl, rfl, rfl, rfl, rfl, rfl, rfl, rfl, rfl, rfl, rfl, rfl, rfl, rfl, rfl, rfl, rfl, rfl, rfl, rfl, rfl, rfl, rfl, rfl, rfl, rfl, rfl, rfl, rfl, rfl, rfl, rfl, trivial⟩, h2⟩)))))))))) (fun Q => by kernel_rfl) ⟨?_, ?_, ?_, ?_, ?_, ?_, ?_, ?_, ?_, ?_, ?_, ?_, ?_, ?_, trivial⟩ ?_
                    · rintro Fr _
                      refine SO.v rfl (opv_move rfl) ?_
                      exact SO.nilZ fun a w h1 h2 h3 h4 h5 => PZ.of h1 h3 h5 (.cons () (.cons () (.nil ⟨EnvAll.of h2 ⟨rfl, rfl, trivial⟩, h4⟩)))
                    · rintro Fr _
                      refine SO.v rfl (opv_move rfl) ?_
                      exact SO.nilZ fun a w h1 h2 h3 h4 h5 => PZ.of h1 h3 h5 (.cons () (.cons () (.nil ⟨EnvAll.of h2 ⟨rfl, rfl, trivial⟩, h4⟩)))
                    · rintro Fr 
                      refine SO.buildSlice0 (ekI .i64) rfl Try.underlying35 Try.sizeOf3 (fun v141 hr142 => ?_)
                      exact SO.nilZ fun a w h1 h2 h3 h4 h5 => PZ.of h1 h3 h5 (.cons v141 (.nil ⟨EnvAll.of h2 ⟨rfl, trivial⟩, h4⟩))
                    · rintro Fr _
                      refine SO.v rfl (opv_move rfl) ?_
                      exact SO.nilZ fun a w h1 h2 h3 h4 h5 => PZ.of h1 h3 h5 (.cons () (.cons () (.nil ⟨EnvAll.of h2 ⟨rfl, rfl, trivial⟩, h4⟩)))
                    · rintro Fr _
                      refine SO.v rfl (opv_move rfl) ?_
                      exact SO.nilZ fun a w h1 h2 h3 h4 h5 => PZ.of h1 h3 h5 (.cons () (.cons () (.nil ⟨EnvAll.of h2 ⟨rfl, rfl, trivial⟩, h4⟩)))
                    · rintro Fr _ _ _
                      refine SO.v rfl (opv_idx Try.underlying26 Try.sizeOf35 hR126 rfl rfl hr146) ?_
                      exact SO.nilZ fun a w h1 h2 h3 h4 h5 => PZ.of h1 h3 h5 (.cons () (.cons () (.cons () (.cons () (.nil ⟨EnvAll.of h2 ⟨rfl, rfl, rfl, trivial⟩, h4⟩)))))
                    · rintro Fr _ _
                      refine SO.loadI1 (j := 0) rfl Try.isAgg35 (Rd.head hR126) hr146 rfl rfl rfl hu149 ?_
                      exact SO.nilZ fun a w h1 h2 h3 h4 h5 => PZ.of h1 h3 h5 (.cons () (.cons () (.cons () (.nil ⟨EnvAll.of h2 ⟨rfl, rfl, trivial⟩, h4⟩))))
                    · rintro Fr _ _ v141
                      refine SO.b1 ?_
                      refine SO.rd fun hr151 => ?_
                      refine SO.append rfl Try.underlying35 inf3 rfl rfl rfl (by decide) rfl rfl rfl (Rd.head (Rd.pool hru150)) hz153 (fun v154 => ?_)
                      refine SO.rd fun hr155 => ?_
                      refine SO.b1 ?_
                      exact SO.nilZ fun a w h1 h2 h3 h4 h5 => PZ.of h1 h3 h5 (.cons () (.cons () (.cons v154 (.nil ⟨EnvAll.of h2 ⟨rfl, rfl, trivial⟩, h4⟩))))
                    · rintro Fr _
                      refine SO.v rfl (opv_fieldAddr Try.underlying28 rfl Try.sizeOf3 rfl rfl) ?_
                      exact SO.nilZ fun a w h1 h2 h3 h4 h5 => PZ.of h1 h3 h5 (.cons () (.cons () (.nil ⟨EnvAll.of h2 ⟨rfl, rfl, trivial⟩, h4⟩)))
                    · rintro Fr _ _
                      refine SO.load1 rfl Try.isAgg3 rfl rfl ?_
                      exact SO.nilZ fun a w h1 h2 h3 h4 h5 => PZ.of h1 h3 h5 (.cons () (.cons () (.cons () (.nil ⟨EnvAll.of h2 ⟨rfl, rfl, trivial⟩, h4⟩))))
                    · rintro Fr _
                      refine SO.buildSlice (K := ekI .i64) (xs := [x14.T]) (cs := [.int .i64 x14.T]) rfl Try.underlying35 Try.sizeOf3 Try.zeroValue3 rfl rfl rfl (by kernel_rfl) rfl rfl rfl (fun v156 hr157 => ?_)
                      exact SO.nilZ fun a w h1 h2 h3 h4 h5 => PZ.of h1 h3 h5 (.cons () (.cons v156 (.nil ⟨EnvAll.of h2 ⟨rfl, rfl, trivial⟩, h4⟩)))
                    · rintro Fr v156 v154
                      refine SO.rd fun hr158 => ?_
                      refine SO.b1 ?_
                      refine SO.rd fun hr159 => ?_
                      refine SO.append rfl Try.underlying35 inf3 rfl rfl rfl (by decide) rfl rfl rfl (Rd.head hr158) hz161 (fun v162 => ?_)
                      refine SO.rd fun hr163 => ?_
                      refine SO.b1 ?_
                      exact SO.nilZ fun a w h1 h2 h3 h4 h5 => PZ.of h1 h3 h5 (.cons v156 (.cons v162 (.nil ⟨EnvAll.of h2 ⟨rfl, rfl, trivial⟩, h4⟩)))
                    · rintro Fr _ _ _
                      refine SO.v rfl (opv_idx Try.underlying26 Try.sizeOf35 hR126 rfl rfl hr167) ?_
                      exact SO.nilZ fun a w h1 h2 h3 h4 h5 => PZ.of h1 h3 h5 (.cons () (.cons () (.cons () (.cons () (.nil ⟨EnvAll.of h2 ⟨rfl, rfl, rfl, trivial⟩, h4⟩)))))
                    · rintro Fr _ v162 _
                      refine SO.rd fun hr169 => ?_
                      refine SO.b1 ?_
                      refine SO.b1 ?_
                      refine SO.freeze hrel125 fun A170 hcov171 hru172 hrel173 hR174 => ?_
                      refine SO.storeO1 (j := 0) (q := .sl (ekI .i64) zs160) (z' := zs160) Try.sizeOf35 hrel173 hx165 rfl rfl (Rd.one hru172) rfl rfl rfl hru172 (fun raws175 hrel176 hR177 => ?_)
                      refine SO.closeR ?_
                      exact SO.nilZ fun a w h1 h2 h3 h4 h5 => PZ.of h1 h3 h5 (.cons () (.cons () (.nil ⟨EnvAll.of h2 ⟨rfl, trivial⟩, h4⟩)))
                    rintro _ _ _ _ _ _ _ _ _ _ _ _ v156 _ _ _ _ _
                    refine S.to (ρ' := [(72, .bool (0 == 0)), (71, .int .i64 0), (70, .bool (t137 != 0)), (69, .int .i64 0), (68, .int .i64 t137), (67, errV 43 t133), (66, .int .i64 x14.T), (65, bp b16 2), (64, .int .i64 t17), (63, (plainV v4).val), (62, v4), (61, .bool c128), (56, .bool (decide (x14.T < 4))), (55, .bool (decide (x14.T < 4))), (54, .int .i64 x14.T), (53, bp b16 2), (52, .bool ((decide (x14.T < 0)) || (decide (31 < x14.T)))), (48, .bool (decide (x14.T < 0))), (47, .bool (decide (x14.T < 0))), (46, .int .i64 x14.T), (45, bp b16 2), (10, .int .i64 0), (44, .bool (decide (t19 < 2))), (43, .int .i64 t19), (9, .int .i64 t19), (42, .int .i64 t19), (41, .int .i64 x14.What), (40, bp b16 0), (39, .int .i64 t17), (38, .int .i64 x14.Obj), (37, bp b16 1), (36, .agg #[.int .i64 x14.What, .int .i64 x14.Obj, .int .i64 x14.T]), (35, idxp v0 (x6_1.toNat * ek_law14_Deed.sz)), (34, .int .i64 x6_1), (33, v0), (30, .bool (decide (x6_1 < (a0.length : Int)))), (29, .int .i64 (a0.length : Int)), (28, v0), (27, .int .i64 x6_1), (6, .int .i64 x6_1), (4, v4), (3, .bool t1), (2, .bool false), (0, v0), (5, v8), (7, bp b16 0), (8, .int .i64 t17), (73, v8), (74, .int .i64 t17), (76, v8), (77, .int .i64 t17), (78, idxp v8 (t17.toNat * (krS (ekI .i64)).sz)), (79, u148), (81, bp b16 2), (82, .int .i64 x14.T), (83, v156), (85, idxp v8 (t17.toNat * (krS (ekI .i64)).sz))]) ⟨rfl, rfl, rfl, rfl, rfl, rfl, rfl, rfl, rfl, rfl, rfl, rfl, rfl, rfl, rfl, rfl, rfl, rfl, rfl, rfl, rfl, rfl, rfl, rfl, rfl, rfl, rfl, rfl, rfl, rfl, rfl, rfl, rfl, rfl, rfl, rfl, rfl, rfl, rfl, rfl, rfl, rfl, rfl, rfl, rfl, rfl, rfl, rfl, rfl, rfl, rfl, rfl, rfl, rfl, rfl, rfl, rfl, trivial⟩ ?_
                    refine S.rd fun hr178 => ?_
                    cases h
                    refine S.drop ?_
                    refine S.b3 ?_
                    refine S.b3 ?_
                    refine S.b3 ?_
                    refine S.b3 ?_
                    refine S.to ?_ (hk6 () trivial)
                    exact ⟨rfl, rfl, rfl, rfl, rfl, rfl, rfl, rfl, rfl, rfl, rfl, rfl, rfl, rfl, rfl, rfl, rfl, rfl, rfl, rfl, rfl, rfl, rfl, rfl, rfl, rfl, rfl, rfl, rfl, rfl, rfl, rfl, rfl, rfl, rfl, rfl, rfl, rfl, rfl, rfl, rfl, rfl, rfl, rfl, rfl, rfl, rfl, trivial⟩
                  · replace h := cond_f b140 h
                    refine S.condF rfl b140 ?_
                    refine S.skip ?_
                    cases h
                    refine S.b2 ?_
                    refine S.closeR ?_
                    refine S.b3 ?_
                    refine S.b1 ?_
                    refine S.b3 ?_
                    refine S.b3 ?_
                    refine S.to ?_ (hk6 () trivial)
                    exact ⟨rfl, rfl, rfl, rfl, rfl, rfl, rfl, rfl, rfl, rfl, rfl, rfl, rfl, rfl, rfl, rfl, rfl, rfl, rfl, rfl, rfl, rfl, rfl, rfl, rfl, rfl, rfl, rfl, rfl, rfl, rfl, rfl, rfl, rfl, rfl, rfl, rfl, rfl, rfl, rfl, rfl, rfl, rfl, rfl, rfl, rfl, rfl, trivial⟩
                rintro _ -
                replace h := hJ6
                refine S.seq ?_
                refine S.seq ?_
                refine S.region ?_
                refine SO.v rfl (opv_assign rfl) ?_
                refine SO.nil ?_
                obtain ⟨o7, hl7, h⟩ := opt_bind h
                refine S.b3 ?_
                refine S.b3 ?_
                refine S.b3 ?_
                refine S.b3 ?_
                refine S.to (ρ' := [(16, .int .i64 0), (0, v0), (2, .bool false), (3, .bool t1), (4, v4), (5, v8), (6, .int .i64 x6_1), (7, bp b16 0), (8, .int .i64 t17), (9, .int .i64 t19), (10, .int .i64 0), (27, .int .i64 x6_1), (28, v0), (29, .int .i64 (a0.length : Int)), (30, .bool (decide (x6_1 < (a0.length : Int)))), (33, v0), (34, .int .i64 x6_1), (35, idxp v0 (x6_1.toNat * ek_law14_Deed.sz)), (36, .agg #[.int .i64 x14.What, .int .i64 x14.Obj, .int .i64 x14.T]), (37, bp b16 1), (38, .int .i64 x14.Obj), (39, .int .i64 t17), (40, bp b16 0), (41, .int .i64 x14.What), (42, .int .i64 t19), (43, .int .i64 t19), (44, .bool (decide (t19 < 2))), (45, bp b16 2), (46, .int .i64 x14.T), (47, .bool (decide (x14.T < 0))), (48, .bool (decide (x14.T < 0))), (52, .bool ((decide (x14.T < 0)) || (decide (31 < x14.T)))), (53, bp b16 2), (54, .int .i64 x14.T), (55, .bool (decide (x14.T < 4))), (56, .bool (decide (x14.T < 4))), (61, .bool c128), (62, v4), (63, (plainV v4).val), (64, .int .i64 t17), (65, bp b16 2), (66, .int .i64 x14.T), (67, errV 43 t133), (68, .int .i64 t137), (69, .int .i64 0), (70, .bool (t137 != 0)), (71, .int .i64 0), (72, .bool (0 == 0))]) ⟨rfl, rfl, rfl, rfl, rfl, rfl, rfl, rfl, rfl, rfl, rfl, rfl, rfl, rfl, rfl, rfl, rfl, rfl, rfl, rfl, rfl, rfl, rfl, rfl, rfl, rfl, rfl, rfl, rfl, rfl, rfl, rfl, rfl, rfl, rfl, rfl, rfl, rfl, rfl, rfl, rfl, rfl, rfl, rfl, rfl, rfl, rfl, rfl, trivial⟩ ?_
                refine S.forloop (X := (Int × (List Int)) × Unit) (O := Brk Bool (Int × Int × Bool × (List Int))) (fun m x => law14_QueuePlays.l7 qv8_6 m x.1) (fun x => match x with | ((x16_7, qv4_7), _) => [(16, .int .i64 x16_7), (0, v0), (2, .bool false), (3, .bool t1), (4, v4), (5, v8), (6, .int .i64 x6_1), (7, bp b16 0), (8, .int .i64 t17), (9, .int .i64 t19), (10, .int .i64 0), (27, .int .i64 x6_1), (28, v0), (29, .int .i64 (a0.length : Int)), (30, .bool (decide (x6_1 < (a0.length : Int)))), (33, v0), (34, .int .i64 x6_1), (35, idxp v0 (x6_1.toNat * ek_law14_Deed.sz)), (36, .agg #[.int .i64 x14.What, .int .i64 x14.Obj, .int .i64 x14.T]), (37, bp b16 1), (38, .int .i64 x14.Obj), (39, .int .i64 t17), (40, bp b16 0), (41, .int .i64 x14.What), (42, .int .i64 t19), (43, .int .i64 t19), (44, .bool (decide (t19 < 2))), (45, bp b16 2), (46, .int .i64 x14.T), (47, .bool (decide (x14.T < 0))), (48, .bool (decide (x14.T < 0))), (52, .bool ((decide (x14.T < 0)) || (decide (31 < x14.T)))), (53, bp b16 2), (54, .int .i64 x14.T), (55, .bool (decide (x14.T < 4))), (56, .bool (decide (x14.T < 4))), (61, .bool c128), (62, v4), (63, (plainV v4).val), (64, .int .i64 t17), (65, bp b16 2), (66, .int .i64 x14.T), (67, errV 43 t133), (68, .int .i64 t137), (69, .int .i64 0), (70, .bool (t137 != 0)), (71, .int .i64 0), (72, .bool (0 == 0))]) (fun x => match x with | ((x16_7, qv4_7), _) => [Own 40 (ekI .u64) v4 qv4_7, Box b16 [.int .i64 x14.What, .int .i64 x14.Obj, .int .i64 x14.T], OwnR 35 (krS (ekI .i64)) v8 qv8_6, F]) (fun Sk o' => (∀ r', o' = Brk.ret r' → some (Brk.ret r') = some o_1) ∧ ∀ j : (Int × Int × Bool × (List Int)), match j with | (j16_e7, j171_e7, j172_e7, qv4_e7) => ∀ _ : Unit, o' = Brk.nx (j16_e7, j171_e7, j172_e7, qv4_e7) → Sk [(0, v0), (2, .bool false), (3, .bool t1), (4, v4), (5, v8), (6, .int .i64 x6_1), (7, bp b16 0), (8, .int .i64 t17), (9, .int .i64 t19), (10, .int .i64 0), (16, .int .i64 j16_e7), (27, .int .i64 x6_1), (28, v0), (29, .int .i64 (a0.length : Int)), (30, .bool (decide (x6_1 < (a0.length : Int)))), (33, v0), (34, .int .i64 x6_1), (35, idxp v0 (x6_1.toNat * ek_law14_Deed.sz)), (36, .agg #[.int .i64 x14.What, .int .i64 x14.Obj, .int .i64 x14.T]), (37, bp b16 1), (38, .int .i64 x14.Obj), (39, .int .i64 t17), (40, bp b16 0), (41, .int .i64 x14.What), (42, .int .i64 t19), (43, .int .i64 t19), (44, .bool (decide (t19 < 2))), (45, bp b16 2), (46, .int .i64 x14.T), (47, .bool (decide (x14.T < 0))), (48, .bool (decide (x14.T < 0))), (52, .bool ((decide (x14.T < 0)) || (decide (31 < x14.T)))), (53, bp b16 2), (54, .int .i64 x14.T), (55, .bool (decide (x14.T < 4))), (56, .bool (decide (x14.T < 4))), (61, .bool c128), (62, v4), (63, (plainV v4).val), (64, .int .i64 t17), (65, bp b16 2), (66, .int .i64 x14.T), (67, errV 43 t133), (68, .int .i64 t137), (69, .int .i64 0), (70, .bool (t137 != 0)), (71, .int .i64 0), (72, .bool (0 == 0)), (171, .int .i64 j171_e7), (172, .bool j172_e7)] [Own 40 (ekI .u64) v4 qv4_e7, Box b16 [.int .i64 x14.What, .int .i64 x14.Obj, .int .i64 x14.T], OwnR 35 (krS (ekI .i64)) v8 qv8_6, F]) (fun _ => rfl) ?_ (m := k) (x := ((0, s135), ())) hl7 ?_
                · clear h hl7
                  intro k x o_7 h hK7 ih7
                  obtain ⟨⟨x16_7, qv4_7⟩, _⟩ := x
                  replace h : law14_QueuePlays.l7 qv8_6 (k + 1) (x16_7, qv4_7) = some o_7 := h
                  first | rw [law14_QueuePlays.l7] at h | unfold law14_QueuePlays.l7 at h
                  refine S.rd fun hr179 => ?_
                  refine S.seq ?_
                  refine S.seq ?_
                  refine S.region ?_
                  refine SO.v rfl (opv_move rfl) ?_
                  refine SO.v rfl (opv_lss rfl rfl) ?_
                  refine SO.nil ?_
                  rcases bool_or (decide (x16_7 < 4)) with b180 | b180
                  · replace h := cond_t b180 h
                    refine S.condT rfl b180 ?_
                    refine S.skip ?_
                    refine S.seq ?_
                    refine S.block ?_
                    refine S.seq ?_
                    refine S.region ?_
                    refine SO.v rfl (opv_move rfl) ?_
                    refine SO.v rfl (opv_iface Try.underlying25 rfl rfl) ?_
                    refine SO.v rfl (opv_move rfl) ?_
                    obtain ⟨⟨t181, s183⟩, ht182, h⟩ := opt_bind h
                    refine SO.call (pre := [(plainV v4).rep _]) rfl Try.call12 rfl rfl rfl (queue_List.ct (plainV v4) _ _ _ _ _ ht182) trivial ?_
                    rintro v184 _ ⟨_, rfl, rfl⟩
                    refine SO.rd fun hr185 => ?_
                    refine SO.b1 ?_
                    refine headEq (plainV_rep _ _) ?_
                    refine SO.rd fun hr186 => ?_
                    refine SO.v rfl (opv_assign rfl) ?_
                    refine SO.nil ?_
                    refine S.seq ?_
                    refine S.seq ?_
                    refine S.region ?_
                    refine SO.v rfl (opv_move rfl) ?_
                    refine SO.v rfl (opv_lenR rfl Try.underlying35 hr185 rfl) ?_
                    refine SO.v rfl (opv_move rfl) ?_
                    refine SO.v rfl (opv_move rfl) ?_
                    refine SO.b3 ?_
                    refine SO.openR fun raws192 A193 hrel194 hR195 => ?_
                    obtain ⟨x187, hx188, h⟩ := opt_bind h
                    obtain ⟨r189, hr190, hc191⟩ := relR.at hrel194 hx188
                    refine SO.v rfl (opv_idx Try.underlying26 Try.sizeOf35 hR195 rfl rfl hr190) ?_
                    obtain ⟨u196, hu197, hru198⟩ := hc191.sl 0 rfl
                    refine SO.loadI1 (j := 0) rfl Try.isAgg35 (Rd.head hR195) hr190 rfl rfl rfl hu197 ?_
                    refine SO.v rfl (opv_lenR rfl Try.underlying35 hru198 rfl) ?_
                    refine SO.v rfl (opv_neq rfl rfl) ?_
                    refine SO.nil ?_
                    rcases bool_or ((t181.length : Int) != (x187.length : Int)) with b199 | b199
                    · replace h := cond_t b199 h
                      refine S.condT rfl b199 ?_
                      refine S.seq ?_
                      refine S.region ?_
                      refine SO.v rfl (opv_assign rfl) ?_
                      refine SO.nil ?_
                      cases h
                      replace h := hK7.1 _ rfl
                      cases h
                      replace h := hK1.1 _ rfl
                      cases h
                      refine S.closeR ?_
                      refine S.drop ?_
                      refine S.drop ?_
                      refine S.drop ?_
                      refine S.drop ?_
                      exact S.ret1 Try.func3 rfl rfl (fun w hs hk => hR w _ _ ⟨rfl, rfl⟩ hs hk)
                    · replace h := cond_f b199 h
                      refine S.condF rfl b199 ?_
                      refine S.skip ?_
                      refine S.seq ?_
                      refine S.region ?_
                      refine SO.v rfl (opv_assign rfl) ?_
                      refine SO.nil ?_
                      obtain ⟨o8, hl8, h⟩ := opt_bind h
                      refine S.b4 ?_
                      refine S.b4 ?_
                      refine S.b4 ?_
                      refine S.b4 ?_
                      refine S.b4 ?_
                      refine S.to (ρ' := [(18, .int .i64 0), (186, .bool ((t181.length : Int) != (x187.length : Int))), (185, .int .i64 (x187.length : Int)), (184, u196), (183, idxp v8 (x16_7.toNat * (krS (ekI .i64)).sz)), (182, .int .i64 x16_7), (181, v8), (180, .int .i64 (t181.length : Int)), (179, v184), (17, v184), (178, v184), (177, .int .i64 x16_7), (176, (plainV v4).val), (175, v4), (172, .bool (decide (x16_7 < 4))), (171, .int .i64 x16_7), (16, .int .i64 x16_7), (0, v0), (2, .bool false), (3, .bool t1), (4, v4), (5, v8), (6, .int .i64 x6_1), (7, bp b16 0), (8, .int .i64 t17), (9, .int .i64 t19), (10, .int .i64 0), (27, .int .i64 x6_1), (28, v0), (29, .int .i64 (a0.length : Int)), (30, .bool (decide (x6_1 < (a0.length : Int)))), (33, v0), (34, .int .i64 x6_1), (35, idxp v0 (x6_1.toNat * ek_law14_Deed.sz)), (36, .agg #[.int .i64 x14.What, .int .i64 x14.Obj, .int .i64 x14.T]), (37, bp b16 1), (38, .int .i64 x14.Obj), (39, .int .i64 t17), (40, bp b16 0), (41, .int .i64 x14.What), (42, .int .i64 t19), (43, .int .i64 t19), (44, .bool (decide (t19 < 2))), (45, bp b16 2), (46, .int .i64 x14.T), (47, .bool (decide (x14.T < 0))), (48, .bool (decide (x14.T < 0))), (52, .bool ((decide (x14.T < 0)) || (decide (31 < x14.T)))), (53, bp b16 2), (54, .int .i64 x14.T), (55, .bool (decide (x14.T < 4))), (56, .bool (decide (x14.T < 4))), (61, .bool c128), (62, v4), (63, (plainV v4).val), (64, .int .i64 t17), (65, bp b16 2), (66, .int .i64 x14.T), (67, errV 43 t133), (68, .int .i64 t137), (69, .int .i64 0), (70, .bool (t137 != 0)), (71, .int .i64 0), (72, .bool (0 == 0))]) ⟨rfl, rfl, rfl, rfl, rfl, rfl, rfl, rfl, rfl, rfl, rfl, rfl, rfl, rfl, rfl, rfl, rfl, rfl, rfl, rfl, rfl, rfl, rfl, rfl, rfl, rfl, rfl, rfl, rfl, rfl, rfl, rfl, rfl, rfl, rfl, rfl, rfl, rfl, rfl, rfl, rfl, rfl, rfl, rfl, rfl, rfl, rfl, rfl, rfl, rfl, rfl, rfl, rfl, rfl, rfl, rfl, rfl, rfl, rfl, rfl, rfl, rfl, rfl, rfl, trivial⟩ ?_
                      refine S.forloop (X := Int × Unit) (O := Brk Bool (Int × Int × Bool)) (fun m x => law14_QueuePlays.l8 qv8_6 x16_7 t181 m x.1) (fun x => match x with | (x18_8, _) => [(18, .int .i64 x18_8), (186, .bool ((t181.length : Int) != (x187.length : Int))), (185, .int .i64 (x187.length : Int)), (184, u196), (183, idxp v8 (x16_7.toNat * (krS (ekI .i64)).sz)), (182, .int .i64 x16_7), (181, v8), (180, .int .i64 (t181.length : Int)), (179, v184), (17, v184), (178, v184), (177, .int .i64 x16_7), (176, (plainV v4).val), (175, v4), (172, .bool (decide (x16_7 < 4))), (171, .int .i64 x16_7), (16, .int .i64 x16_7), (0, v0), (2, .bool false), (3, .bool t1), (4, v4), (5, v8), (6, .int .i64 x6_1), (7, bp b16 0), (8, .int .i64 t17), (9, .int .i64 t19), (10, .int .i64 0), (27, .int .i64 x6_1), (28, v0), (29, .int .i64 (a0.length : Int)), (30, .bool (decide (x6_1 < (a0.length : Int)))), (33, v0), (34, .int .i64 x6_1), (35, idxp v0 (x6_1.toNat * ek_law14_Deed.sz)), (36, .agg #[.int .i64 x14.What, .int .i64 x14.Obj, .int .i64 x14.T]), (37, bp b16 1), (38, .int .i64 x14.Obj), (39, .int .i64 t17), (40, bp b16 0), (41, .int .i64 x14.What), (42, .int .i64 t19), (43, .int .i64 t19), (44, .bool (decide (t19 < 2))), (45, bp b16 2), (46, .int .i64 x14.T), (47, .bool (decide (x14.T < 0))), (48, .bool (decide (x14.T < 0))), (52, .bool ((decide (x14.T < 0)) || (decide (31 < x14.T)))), (53, bp b16 2), (54, .int .i64 x14.T), (55, .bool (decide (x14.T < 4))), (56, .bool (decide (x14.T < 4))), (61, .bool c128), (62, v4), (63, (plainV v4).val), (64, .int .i64 t17), (65, bp b16 2), (66, .int .i64 x14.T), (67, errV 43 t133), (68, .int .i64 t137), (69, .int .i64 0), (70, .bool (t137 != 0)), (71, .int .i64 0), (72, .bool (0 == 0))]) (fun x => match x with | (x18_8, _) => [OwnO 35 (krS (ekI .i64)) v8 raws192 A193 qv8_6, Own 40 (ekI .u64) v4 s183, Own 3 (ekI .i64) v184 t181, Box b16 [.int .i64 x14.What, .int .i64 x14.Obj, .int .i64 x14.T], F]) (fun Sk o' => (∀ r', o' = Brk.ret r' → some (Brk.ret r') = some o_7) ∧ ∀ j : (Int × Int × Bool), match j with | (j18_e8, j187_e8, j190_e8) => ∀ _ : Unit, o' = Brk.nx (j18_e8, j187_e8, j190_e8) → Sk [(0, v0), (2, .bool false), (3, .bool t1), (4, v4), (5, v8), (6, .int .i64 x6_1), (7, bp b16 0), (8, .int .i64 t17), (9, .int .i64 t19), (10, .int .i64 0), (16, .int .i64 x16_7), (17, v184), (18, .int .i64 j18_e8), (27, .int .i64 x6_1), (28, v0), (29, .int .i64 (a0.length : Int)), (30, .bool (decide (x6_1 < (a0.length : Int)))), (33, v0), (34, .int .i64 x6_1), (35, idxp v0 (x6_1.toNat * ek_law14_Deed.sz)), (36, .agg #[.int .i64 x14.What, .int .i64 x14.Obj, .int .i64 x14.T]), (37, bp b16 1), (38, .int .i64 x14.Obj), (39, .int .i64 t17), (40, bp b16 0), (41, .int .i64 x14.What), (42, .int .i64 t19), (43, .int .i64 t19), (44, .bool (decide (t19 < 2))), (45, bp b16 2), (46, .int .i64 x14.T), (47, .bool (decide (x14.T < 0))), (48, .bool (decide (x14.T < 0))), (52, .bool ((decide (x14.T < 0)) || (decide (31 < x14.T)))), (53, bp b16 2), (54, .int .i64 x14.T), (55, .bool (decide (x14.T < 4))), (56, .bool (decide (x14.T < 4))), (61, .bool c128), (62, v4), (63, (plainV v4).val), (64, .int .i64 t17), (65, bp b16 2), (66, .int .i64 x14.T), (67, errV 43 t133), (68, .int .i64 t137), (69, .int .i64 0), (70, .bool (t137 != 0)), (71, .int .i64 0), (72, .bool (0 == 0)), (171, .int .i64 x16_7), (172, .bool (decide (x16_7 < 4))), (175, v4), (176, (plainV v4).val), (177, .int .i64 x16_7), (178, v184), (179, v184), (180, .int .i64 (t181.length : Int)), (181, v8), (182, .int .i64 x16_7), (183, idxp v8 (x16_7.toNat * (krS (ekI .i64)).sz)), (184, u196), (185, .int .i64 (x187.length : Int)), (186, .bool ((t181.length : Int) != (x187.length : Int))), (187, .int .i64 j187_e8), (188, v184), (189, .int .i64 (t181.length : Int)), (190, .bool j190_e8)] [OwnO 35 (krS (ekI .i64)) v8 raws192 A193 qv8_6, Own 40 (ekI .u64) v4 s183, Own 3 (ekI .i64) v184 t181, Box b16 [.int .i64 x14.What, .int .i64 x14.Obj, .int .i64 x14.T], F]) (fun _ => rfl) ?_ (m := k) (x := (0, ())) hl8 ?_
                      · clear h hl8
                        intro k x o_8 h hK8 ih8
                        obtain ⟨x18_8, _⟩ := x
                        replace h : law14_QueuePlays.l8 qv8_6 x16_7 t181 (k + 1) x18_8 = some o_8 := h
                        first | rw [law14_QueuePlays.l8] at h | unfold law14_QueuePlays.l8 at h
                        refine S.seq ?_
                        refine S.seq ?_
                        refine S.region ?_
                        refine SO.v rfl (opv_move rfl) ?_
                        refine SO.v rfl (opv_move rfl) ?_
                        refine SO.v rfl (opv_lenR rfl Try.underlying35 hr185 rfl) ?_
                        refine SO.v rfl (opv_lss rfl rfl) ?_
                        refine SO.nil ?_
                        rcases bool_or (decide (x18_8 < (t181.length : Int))) with b200 | b200
                        · replace h := cond_t b200 h
                          refine S.condT rfl b200 ?_
                          refine S.skip ?_
                          refine S.seq ?_
                          refine S.block ?_
                          refine S.seq ?_
                          obtain ⟨x201, hx202, h⟩ := opt_bind h
                          obtain ⟨x203, hx204, h⟩ := opt_bind h
                          obtain ⟨r205, hr206, hc207⟩ := relR.at hrel194 hx204
                          obtain ⟨u208, hu209, hru210⟩ := hc207.sl 0 rfl
                          obtain ⟨x211, hx212, h⟩ := opt_bind h
                          refine S.draw' (Z := fun Q => ∀ (_ : Unit) (_ : Unit) (_ : Unit) (_ : Unit) (_ : Unit) (_ : Unit) (_ : Unit) (_ : Unit) (_ : Unit) (_ : Unit) (_ : Unit) (_ : Unit) (_ : Unit) (_ : Unit) (_ : Unit) (_ : Unit) (_ : Unit) (_ : Unit) (_ : Unit) (_ : Unit) (_ : Unit) (_ : Unit), Q [(18, .int .i64 x18_8), (190, .bool (decide (x18_8 < (t181.length : Int)))), (189, .int .i64 (t181.length : Int)), (188, v184), (187, .int .i64 x18_8), (186, .bool ((t181.length : Int) != (x187.length : Int))), (185, .int .i64 (x187.length : Int)), (184, u196), (183, idxp v8 (x16_7.toNat * (krS (ekI .i64)).sz)), (182, .int .i64 x16_7), (181, v8), (180, .int .i64 (t181.length : Int)), (179, v184), (178, v184), (177, .int .i64 x16_7), (176, (plainV v4).val), (175, v4), (172, .bool (decide (x16_7 < 4))), (171, .int .i64 x16_7), (0, v0), (2, .bool false), (3, .bool t1), (4, v4), (6, .int .i64 x6_1), (7, bp b16 0), (8, .int .i64 t17), (9, .int .i64 t19), (10, .int .i64 0), (27, .int .i64 x6_1), (28, v0), (29, .int .i64 (a0.length : Int)), (30, .bool (decide (x6_1 < (a0.length : Int)))), (33, v0), (34, .int .i64 x6_1), (35, idxp v0 (x6_1.toNat * ek_law14_Deed.sz)), (36, .agg #[.int .i64 x14.What, .int .i64 x14.Obj, .int .i64 x14.T]), (37, bp b16 1), (38, .int .i64 x14.Obj), (39, .int .i64 t17), (40, bp b16 0), (41, .int .i64 x14.What), (42, .int .i64 t19), (43, .int .i64 t19), (44, .bool (decide (t19 < 2))), (45, bp b16 2), (46, .int .i64 x14.T), (47, .bool (decide (x14.T < 0))), (48, .bool (decide (x14.T < 0))), (52, .bool ((decide (x14.T < 0)) || (decide (31 < x14.T)))), (53, bp b16 2), (54, .int .i64 x14.T), (55, .bool (decide (x14.T < 4))), (56, .bool (decide (x14.T < 4))), (61, .bool c128), (62, v4), (63, (plainV v4).val), (64, .int .i64 t17), (65, bp b16 2), (66, .int .i64 x14.T), (67, errV 43 t133), (68, .int .i64 t137), (69, .int .i64 0), (70, .bool (t137 != 0)), (71, .int .i64 0), (72, .bool (0 == 0)), (17, v184), (16, .int .i64 x16_7), (5, v8), (193, v184), (194, .int .i64 x18_8), (195, idxp v184 (x18_8.toNat * (ekI .i64).sz)), (196, .int .i64 x201), (197, v8), (198, .int .i64 x16_7), (199, idxp v8 (x16_7.toNat * (krS (ekI .i64)).sz)), (200, u208), (201, .int .i64 x18_8), (202, idxp u208 (x18_8.toNat * (ekI .i64).sz)), (203, .int .i64 x211), (204, .bool (x201 != x211))] [OwnO 35 (krS (ekI .i64)) v8 raws192 A193 qv8_6, Own 40 (ekI .u64) v4 s183, Own 3 (ekI .i64) v184 t181, Box b16 [.int .i64 x14.What, .int .i64 x14.Obj, .int .i64 x14.T], F]) (T := [tS 17 (v184), tS 18 (.int .i64 x18_8), tS 5 (v8), tS 16 (.int .i64 x16_7), tE [(190, .bool (decide (x18_8 < (t181.length : Int)))), (189, .int .i64 (t181.length : Int)), (188, v184), (187, .int .i64 x18_8), (186, .bool ((t181.length : Int) != (x187.length : Int))), (185, .int .i64 (x187.length : Int)), (184, u196), (183, idxp v8 (x16_7.toNat * (krS (ekI .i64)).sz)), (182, .int .i64 x16_7), (181, v8), (180, .int .i64 (t181.length : Int)), (179, v184), (178, v184), (177, .int .i64 x16_7), (176, (plainV v4).val), (175, v4), (172, .bool (decide (x16_7 < 4))), (171, .int .i64 x16_7), (0, v0), (2, .bool false), (3, .bool t1), (4, v4), (6, .int .i64 x6_1), (7, bp b16 0), (8, .int .i64 t17), (9, .int .i64 t19), (10, .int .i64 0), (27, .int .i64 x6_1), (28, v0), (29, .int .i64 (a0.length : Int)), (30, .bool (decide (x6_1 < (a0.length : Int)))), (33, v0), (34, .int .i64 x6_1), (35, idxp v0 (x6_1.toNat * ek_law14_Deed.sz)), (36, .agg #[.int .i64 x14.What, .int .i64 x14.Obj, .int .i64 x14.T]), (37, bp b16 1), (38, .int .i64 x14.Obj), (39, .int .i64 t17), (40, bp b16 0), (41, .int .i64 x14.What), (42, .int .i64 t19), (43, .int .i64 t19), (44, .bool (decide (t19 < 2))), (45, bp b16 2), (46, .int .i64 x14.T), (47, .bool (decide (x14.T < 0))), (48, .bool (decide (x14.T < 0))), (52, .bool ((decide (x14.T < 0)) || (decide (31 < x14.T)))), (53, bp b16 2), (54, .int .i64 x14.T), (55, .bool (decide (x14.T < 4))), (56, .bool (decide (x14.T < 4))), (61, .bool c128), (62, v4), (63, (plainV v4).val), (64, .int .i64 t17), (65, bp b16 2), (66, .int .i64 x14.T), (67, errV 43 t133), (68, .int .i64 t137), (69, .int .i64 0), (70, .bool (t137 != 0)), (71, .int .i64 0), (72, .bool (0 == 0))], tR (OwnO 35 (krS (ekI .i64)) v8 raws192 A193 qv8_6), tR (Own 40 (ekI .u64) v4 s183), tR (Own 3 (ekI .i64) v184 t181), tR (Box b16 [.int .i64 x14.What, .int .i64 x14.Obj, .int .i64 x14.T]), tR (F), tS 193 (v184), tS 194 (.int .i64 x18_8), tS 195 (idxp v184 (x18_8.toNat * (ekI .i64).sz)), tS 196 (.int .i64 x201), tS 197 (v8), tS 198 (.int .i64 x16_7), tS 199 (idxp v8 (x16_7.toNat * (krS (ekI .i64)).sz)), tS 200 (u208), tS 201 (.int .i64 x18_8), tS 202 (idxp u208 (x18_8.toNat * (ekI .i64).sz)), tS 203 (.int .i64 x211), tS 204 (.bool (x201 != x211))]) (D := [⟨[0], [], [10]⟩, ⟨[1], [], [11]⟩, ⟨[10, 11, 7], [], [12]⟩, ⟨[12, 7], [], [13]⟩, ⟨[2], [], [14]⟩, ⟨[3], [], [15]⟩, ⟨[14, 15, 5], [], [16]⟩, ⟨[16, 5], [], [17]⟩, ⟨[1], [], [18]⟩, ⟨[17, 18, 5], [], [19]⟩, ⟨[19, 5], [], [20]⟩, ⟨[13, 20], [], [21]⟩]) (ini := [0, 1, 2, 3, 4, 5, 6, 7, 8, 9]) (fin := [1, 4, 0, 3, 2, 10, 11, 12, 13, 14, 15, 16, 17, 18, 19, 20, 21, 5, 6, 7, 8, 9]) (bf := [[], [], [0, 1], [0, 1, 2], [], [], [4, 5], [4, 5, 6], [], [4, 5, 6, 7, 8], [4, 5, 6, 7, 8, 9], [0, 1, 2, 3, 4, 5, 6, 7, 8, 9, 10]]) (by kernel_rfl) (by kernel_rfl) (fun x w h1 h2 => (.cons () (.cons () (.cons () (.cons () (.cons () (.cons () (.cons () (.cons () (.cons () (.cons () (.nil ⟨EnvAll.of h1 ⟨rfl, rfl, rfl, rfl, rfl, rfl, rfl, rfl, rfl, rfl, rfl, rfl, rfl, rfl, rfl, rfl, rfl, rfl, rfl, rfl, rfl, rfl, rfl, rfl, rfl, rfl, rfl, rfl, rfl, rfl, rfl, rfl, rfl, rfl, rfl, rfl, rfl, rfl, rfl, rfl, rfl, rfl, rfl, rfl, rfl, rfl, rfl, rfl, rfl, rfl, rfl, rfl, rfl, rfl, rfl, rfl, rfl, rfl, rfl, rfl, rfl, rfl, rfl, rfl, rfl, rfl, rfl, rfl, trivial⟩, h2⟩)))))))))))) (fun Q => by kernel_rfl) ⟨?_, ?_, ?_, ?_, ?_, ?_, ?_, ?_, ?_, ?_, ?_, ?_, trivial⟩ ?_
                          · rintro Fr _
                            refine SO.v rfl (opv_move rfl) ?_
                            exact SO.nilZ fun a w h1 h2 h3 h4 h5 => PZ.of h1 h3 h5 (.cons () (.cons () (.nil ⟨EnvAll.of h2 ⟨rfl, rfl, trivial⟩, h4⟩)))
                          · rintro Fr _
                            refine SO.v rfl (opv_move rfl) ?_
                            exact SO.nilZ fun a w h1 h2 h3 h4 h5 => PZ.of h1 h3 h5 (.cons () (.cons () (.nil ⟨EnvAll.of h2 ⟨rfl, rfl, trivial⟩, h4⟩)))
                          · rintro Fr _ _ _
                            refine SO.v rfl (opv_idx Try.underlying35 Try.sizeOf3 hr185 rfl rfl hx202) ?_
                            exact SO.nilZ fun a w h1 h2 h3 h4 h5 => PZ.of h1 h3 h5 (.cons () (.cons () (.cons () (.cons () (.nil ⟨EnvAll.of h2 ⟨rfl, rfl, rfl, trivial⟩, h4⟩)))))
                          · rintro Fr _ _
                            refine SO.loadI1 (j := 0) rfl Try.isAgg3 (Rd.head hr185) hx202 rfl rfl rfl rfl ?_
                            exact SO.nilZ fun a w h1 h2 h3 h4 h5 => PZ.of h1 h3 h5 (.cons () (.cons () (.cons () (.nil ⟨EnvAll.of h2 ⟨rfl, rfl, trivial⟩, h4⟩))))
                          · rintro Fr _
                            refine SO.v rfl (opv_move rfl) ?_
                            exact SO.nilZ fun a w h1 h2 h3 h4 h5 => PZ.of h1 h3 h5 (.cons () (.cons () (.nil ⟨EnvAll.of h2 ⟨rfl, rfl, trivial⟩, h4⟩)))
                          · rintro Fr _
                            refine SO.v rfl (opv_move rfl) ?_
                            exact SO.nilZ fun a w h1 h2 h3 h4 h5 => PZ.of h1 h3 h5 (.cons () (.cons () (.nil ⟨EnvAll.of h2 ⟨rfl, rfl, trivial⟩, h4⟩)))
                          · rintro Fr _ _ _
                            refine SO.v rfl (opv_idx Try.underlying26 Try.sizeOf35 hR195 rfl rfl hr206) ?_
                            exact SO.nilZ fun a w h1 h2 h3 h4 h5 => PZ.of h1 h3 h5 (.cons () (.cons () (.cons () (.cons () (.nil ⟨EnvAll.of h2 ⟨rfl, rfl, rfl, trivial⟩, h4⟩)))))
                          · rintro Fr _ _
                            refine SO.loadI1 (j := 0) rfl Try.isAgg35 (Rd.head hR195) hr206 rfl rfl rfl hu209 ?_
                            exact SO.nilZ fun a w h1 h2 h3 h4 h5 => PZ.of h1 h3 h5 (.cons () (.cons () (.cons () (.nil ⟨EnvAll.of h2 ⟨rfl, rfl, trivial⟩, h4⟩))))
                          · rintro Fr _
                            refine SO.v rfl (opv_move rfl) ?_
                            exact SO.nilZ fun a w h1 h2 h3 h4 h5 => PZ.of h1 h3 h5 (.cons () (.cons () (.nil ⟨EnvAll.of h2 ⟨rfl, rfl, trivial⟩, h4⟩)))
                          · rintro Fr _ _ _
                            refine SO.v rfl (opv_idx Try.underlying35 Try.sizeOf3 hru210 rfl rfl hx212) ?_
                            exact SO.nilZ fun a w h1 h2 h3 h4 h5 => PZ.of h1 h3 h5 (.cons () (.cons () (.cons () (.cons () (.nil ⟨EnvAll.of h2 ⟨rfl, rfl, rfl, trivial⟩, h4⟩)))))
                          · rintro Fr _ _
                            refine SO.loadI1 (j := 0) rfl Try.isAgg3 (Rd.head (Rd.pool hru210)) hx212 rfl rfl rfl rfl ?_
                            exact SO.nilZ fun a w h1 h2 h3 h4 h5 => PZ.of h1 h3 h5 (.cons () (.cons () (.cons () (.nil ⟨EnvAll.of h2 ⟨rfl, rfl, trivial⟩, h4⟩))))
                          · rintro Fr _ _
                            refine SO.v rfl (opv_neq rfl rfl) ?_
                            exact SO.nilZ fun a w h1 h2 h3 h4 h5 => PZ.of h1 h3 h5 (.cons () (.cons () (.cons () (.nil ⟨EnvAll.of h2 ⟨rfl, rfl, rfl, trivial⟩, h4⟩))))
                          rintro _ _ _ _ _ _ _ _ _ _ _ _ _ _ _ _ _ _ _ _ _ _
                          refine S.to (ρ' := [(18, .int .i64 x18_8), (190, .bool (decide (x18_8 < (t181.length : Int)))), (189, .int .i64 (t181.length : Int)), (188, v184), (187, .int .i64 x18_8), (186, .bool ((t181.length : Int) != (x187.length : Int))), (185, .int .i64 (x187.length : Int)), (184, u196), (183, idxp v8 (x16_7.toNat * (krS (ekI .i64)).sz)), (182, .int .i64 x16_7), (181, v8), (180, .int .i64 (t181.length : Int)), (179, v184), (178, v184), (177, .int .i64 x16_7), (176, (plainV v4).val), (175, v4), (172, .bool (decide (x16_7 < 4))), (171, .int .i64 x16_7), (0, v0), (2, .bool false), (3, .bool t1), (4, v4), (6, .int .i64 x6_1), (7, bp b16 0), (8, .int .i64 t17), (9, .int .i64 t19), (10, .int .i64 0), (27, .int .i64 x6_1), (28, v0), (29, .int .i64 (a0.length : Int)), (30, .bool (decide (x6_1 < (a0.length : Int)))), (33, v0), (34, .int .i64 x6_1), (35, idxp v0 (x6_1.toNat * ek_law14_Deed.sz)), (36, .agg #[.int .i64 x14.What, .int .i64 x14.Obj, .int .i64 x14.T]), (37, bp b16 1), (38, .int .i64 x14.Obj), (39, .int .i64 t17), (40, bp b16 0), (41, .int .i64 x14.What), (42, .int .i64 t19), (43, .int .i64 t19), (44, .bool (decide (t19 < 2))), (45, bp b16 2), (46, .int .i64 x14.T), (47, .bool (decide (x14.T < 0))), (48, .bool (decide (x14.T < 0))), (52, .bool ((decide (x14.T < 0)) || (decide (31 < x14.T)))), (53, bp b16 2), (54, .int .i64 x14.T), (55, .bool (decide (x14.T < 4))), (56, .bool (decide (x14.T < 4))), (61, .bool c128), (62, v4), (63, (plainV v4).val), (64, .int .i64 t17), (65, bp b16 2), (66, .int .i64 x14.T), (67, errV 43 t133), (68, .int .i64 t137), (69, .int .i64 0), (70, .bool (t137 != 0)), (71, .int .i64 0), (72, .bool (0 == 0)), (17, v184), (16, .int .i64 x16_7), (5, v8), (193, v184), (194, .int .i64 x18_8), (195, idxp v184 (x18_8.toNat * (ekI .i64).sz)), (196, .int .i64 x201), (197, v8), (198, .int .i64 x16_7), (199, idxp v8 (x16_7.toNat * (krS (ekI .i64)).sz)), (200, u208), (201, .int .i64 x18_8), (202, idxp u208 (x18_8.toNat * (ekI .i64).sz)), (203, .int .i64 x211), (204, .bool (x201 != x211))]) ⟨rfl, rfl, rfl, rfl, rfl, rfl, rfl, rfl, rfl, rfl, rfl, rfl, rfl, rfl, rfl, rfl, rfl, rfl, rfl, rfl, rfl, rfl, rfl, rfl, rfl, rfl, rfl, rfl, rfl, rfl, rfl, rfl, rfl, rfl, rfl, rfl, rfl, rfl, rfl, rfl, rfl, rfl, rfl, rfl, rfl, rfl, rfl, rfl, rfl, rfl, rfl, rfl, rfl, rfl, rfl, rfl, rfl, rfl, rfl, rfl, rfl, rfl, rfl, rfl, rfl, rfl, rfl, rfl, rfl, rfl, rfl, rfl, rfl, rfl, rfl, rfl, rfl, rfl, rfl, rfl, trivial⟩ ?_
                          rcases bool_or (x201 != x211) with b213 | b213
                          · replace h := cond_t b213 h
                            refine S.condT rfl b213 ?_
                            refine S.seq ?_
                            refine S.region ?_
                            refine SO.v rfl (opv_assign rfl) ?_
                            refine SO.nil ?_
                            cases h
                            replace h := hK8.1 _ rfl
                            cases h
                            replace h := hK7.1 _ rfl
                            cases h
                            replace h := hK1.1 _ rfl
                            cases h
                            refine S.closeR ?_
                            refine S.drop ?_
                            refine S.drop ?_
                            refine S.drop ?_
                            refine S.drop ?_
                            exact S.ret1 Try.func3 rfl rfl (fun w hs hk => hR w _ _ ⟨rfl, rfl⟩ hs hk)
                          · replace h := cond_f b213 h
                            refine S.condF rfl b213 ?_
                            refine S.skip ?_
                            refine S.inBlock ?_
                            refine S.region ?_
                            refine SO.v rfl (opv_move rfl) ?_
                            refine SO.v rfl (opv_add rfl rfl) ?_
                            refine SO.v rfl (opv_assign rfl) ?_
                            refine SO.nil ?_
                            refine S.b4 ?_
                            refine S.b4 ?_
                            refine S.b4 ?_
                            refine S.b4 ?_
                            refine S.b4 ?_
                            refine S.to ?_ (ih8 (w64 (x18_8 + 1), ()) h)
                            exact ⟨rfl, rfl, rfl, rfl, rfl, rfl, rfl, rfl, rfl, rfl, rfl, rfl, rfl, rfl, rfl, rfl, rfl, rfl, rfl, rfl, rfl, rfl, rfl, rfl, rfl, rfl, rfl, rfl, rfl, rfl, rfl, rfl, rfl, rfl, rfl, rfl, rfl, rfl, rfl, rfl, rfl, rfl, rfl, rfl, rfl, rfl, rfl, rfl, rfl, rfl, rfl, rfl, rfl, rfl, rfl, rfl, rfl, rfl, rfl, rfl, rfl, rfl, rfl, rfl, trivial⟩
                        · replace h := cond_f b200 h
                          refine S.condF rfl b200 ?_
                          refine S.exit rfl ?_
                          cases h
                          refine S.b4 ?_
                          refine S.b4 ?_
                          refine S.b4 ?_
                          refine S.b4 ?_
                          refine S.b4 ?_
                          refine S.to ?_ (hK8.2 (x18_8, x18_8, decide (x18_8 < (t181.length : Int))) () rfl)
                          exact ⟨rfl, rfl, rfl, rfl, rfl, rfl, rfl, rfl, rfl, rfl, rfl, rfl, rfl, rfl, rfl, rfl, rfl, rfl, rfl, rfl, rfl, rfl, rfl, rfl, rfl, rfl, rfl, rfl, rfl, rfl, rfl, rfl, rfl, rfl, rfl, rfl, rfl, rfl, rfl, rfl, rfl, rfl, rfl, rfl, rfl, rfl, rfl, rfl, rfl, rfl, rfl, rfl, rfl, rfl, rfl, rfl, rfl, rfl, rfl, rfl, rfl, rfl, rfl, rfl, rfl, rfl, rfl, rfl, trivial⟩
                      refine ⟨fun r' e' => ?_, ?_⟩
                      · subst e'
                        have h9 := Brk.of_ret h
                        exact h9
                      rintro ⟨j18_e8, j187_e8, j190_e8⟩ _ e'
                      subst e'
                      replace h := Brk.of_nx h
                      refine S.inBlock ?_
                      refine S.region ?_
                      refine SO.v rfl (opv_move rfl) ?_
                      refine SO.v rfl (opv_add rfl rfl) ?_
                      refine SO.v rfl (opv_assign rfl) ?_
                      refine SO.nil ?_
                      refine S.closeR ?_
                      refine S.b2 ?_
                      refine S.drop ?_
                      refine S.b3 ?_
                      refine S.b1 ?_
                      refine S.b3 ?_
                      refine S.b3 ?_
                      refine S.to ?_ (ih7 ((w64 (x16_7 + 1), s183), ()) h)
                      exact ⟨rfl, rfl, rfl, rfl, rfl, rfl, rfl, rfl, rfl, rfl, rfl, rfl, rfl, rfl, rfl, rfl, rfl, rfl, rfl, rfl, rfl, rfl, rfl, rfl, rfl, rfl, rfl, rfl, rfl, rfl, rfl, rfl, rfl, rfl, rfl, rfl, rfl, rfl, rfl, rfl, rfl, rfl, rfl, rfl, rfl, rfl, rfl, rfl, trivial⟩
                  · replace h := cond_f b180 h
                    refine S.condF rfl b180 ?_
                    refine S.exit rfl ?_
                    cases h
                    refine S.b3 ?_
                    refine S.b3 ?_
                    refine S.b3 ?_
                    refine S.b3 ?_
                    refine S.to ?_ (hK7.2 (x16_7, x16_7, decide (x16_7 < 4), qv4_7) () rfl)
                    exact ⟨rfl, rfl, rfl, rfl, rfl, rfl, rfl, rfl, rfl, rfl, rfl, rfl, rfl, rfl, rfl, rfl, rfl, rfl, rfl, rfl, rfl, rfl, rfl, rfl, rfl, rfl, rfl, rfl, rfl, rfl, rfl, rfl, rfl, rfl, rfl, rfl, rfl, rfl, rfl, rfl, rfl, rfl, rfl, rfl, rfl, rfl, rfl, rfl, rfl, rfl, trivial⟩
                refine ⟨fun r' e' => ?_, ?_⟩
                · subst e'
                  have h9 := Brk.of_ret h
                  exact h9
                rintro ⟨j16_e7, j171_e7, j172_e7, qv4_e7⟩ _ e'
                subst e'
                replace h := Brk.of_nx h
                refine S.rd fun hr214 => ?_
                refine S.seq ?_
                refine S.region ?_
                refine SO.v rfl (opv_assign rfl) ?_
                refine SO.nil ?_
                obtain ⟨o9, hl9, h⟩ := opt_bind h
                refine S.b3 ?_
                refine S.b3 ?_
                refine S.b3 ?_
                refine S.b3 ?_
                refine S.to (ρ' := [(19, .int .i64 4), (0, v0), (2, .bool false), (3, .bool t1), (4, v4), (5, v8), (6, .int .i64 x6_1), (7, bp b16 0), (8, .int .i64 t17), (9, .int .i64 t19), (10, .int .i64 0), (16, .int .i64 j16_e7), (27, .int .i64 x6_1), (28, v0), (29, .int .i64 (a0.length : Int)), (30, .bool (decide (x6_1 < (a0.length : Int)))), (33, v0), (34, .int .i64 x6_1), (35, idxp v0 (x6_1.toNat * ek_law14_Deed.sz)), (36, .agg #[.int .i64 x14.What, .int .i64 x14.Obj, .int .i64 x14.T]), (37, bp b16 1), (38, .int .i64 x14.Obj), (39, .int .i64 t17), (40, bp b16 0), (41, .int .i64 x14.What), (42, .int .i64 t19), (43, .int .i64 t19), (44, .bool (decide (t19 < 2))), (45, bp b16 2), (46, .int .i64 x14.T), (47, .bool (decide (x14.T < 0))), (48, .bool (decide (x14.T < 0))), (52, .bool ((decide (x14.T < 0)) || (decide (31 < x14.T)))), (53, bp b16 2), (54, .int .i64 x14.T), (55, .bool (decide (x14.T < 4))), (56, .bool (decide (x14.T < 4))), (61, .bool c128), (62, v4), (63, (plainV v4).val), (64, .int .i64 t17), (65, bp b16 2), (66, .int .i64 x14.T), (67, errV 43 t133), (68, .int .i64 t137), (69, .int .i64 0), (70, .bool (t137 != 0)), (71, .int .i64 0), (72, .bool (0 == 0)), (171, .int .i64 j171_e7), (172, .bool j172_e7)]) ⟨rfl, rfl, rfl, rfl, rfl, rfl, rfl, rfl, rfl, rfl, rfl, rfl, rfl, rfl, rfl, rfl, rfl, rfl, rfl, rfl, rfl, rfl, rfl, rfl, rfl, rfl, rfl, rfl, rfl, rfl, rfl, rfl, rfl, rfl, rfl, rfl, rfl, rfl, rfl, rfl, rfl, rfl, rfl, rfl, rfl, rfl, rfl, rfl, rfl, rfl, rfl, trivial⟩ ?_
                refine S.forloop (X := Int × Unit) (O := Brk Bool (Int × Int × Bool)) (fun m x => law14_QueuePlays.l9 qv8_6 qv4_e7 m x.1) (fun x => match x with | (x19_9, _) => [(19, .int .i64 x19_9), (0, v0), (2, .bool false), (3, .bool t1), (4, v4), (5, v8), (6, .int .i64 x6_1), (7, bp b16 0), (8, .int .i64 t17), (9, .int .i64 t19), (10, .int .i64 0), (16, .int .i64 j16_e7), (27, .int .i64 x6_1), (28, v0), (29, .int .i64 (a0.length : Int)), (30, .bool (decide (x6_1 < (a0.length : Int)))), (33, v0), (34, .int .i64 x6_1), (35, idxp v0 (x6_1.toNat * ek_law14_Deed.sz)), (36, .agg #[.int .i64 x14.What, .int .i64 x14.Obj, .int .i64 x14.T]), (37, bp b16 1), (38, .int .i64 x14.Obj), (39, .int .i64 t17), (40, bp b16 0), (41, .int .i64 x14.What), (42, .int .i64 t19), (43, .int .i64 t19), (44, .bool (decide (t19 < 2))), (45, bp b16 2), (46, .int .i64 x14.T), (47, .bool (decide (x14.T < 0))), (48, .bool (decide (x14.T < 0))), (52, .bool ((decide (x14.T < 0)) || (decide (31 < x14.T)))), (53, bp b16 2), (54, .int .i64 x14.T), (55, .bool (decide (x14.T < 4))), (56, .bool (decide (x14.T < 4))), (61, .bool c128), (62, v4), (63, (plainV v4).val), (64, .int .i64 t17), (65, bp b16 2), (66, .int .i64 x14.T), (67, errV 43 t133), (68, .int .i64 t137), (69, .int .i64 0), (70, .bool (t137 != 0)), (71, .int .i64 0), (72, .bool (0 == 0)), (171, .int .i64 j171_e7), (172, .bool j172_e7)]) (fun x => match x with | (x19_9, _) => [Own 40 (ekI .u64) v4 qv4_e7, Box b16 [.int .i64 x14.What, .int .i64 x14.Obj, .int .i64 x14.T], OwnR 35 (krS (ekI .i64)) v8 qv8_6, F]) (fun Sk o' => (∀ r', o' = Brk.ret r' → some (Brk.ret r') = some o_1) ∧ ∀ j : (Int × Int × Bool), match j with | (j19_e9, j205_e9, j206_e9) => ∀ _ : Unit, o' = Brk.nx (j19_e9, j205_e9, j206_e9) → Sk [(0, v0), (2, .bool false), (3, .bool t1), (4, v4), (5, v8), (6, .int .i64 x6_1), (7, bp b16 0), (8, .int .i64 t17), (9, .int .i64 t19), (10, .int .i64 0), (16, .int .i64 j16_e7), (19, .int .i64 j19_e9), (27, .int .i64 x6_1), (28, v0), (29, .int .i64 (a0.length : Int)), (30, .bool (decide (x6_1 < (a0.length : Int)))), (33, v0), (34, .int .i64 x6_1), (35, idxp v0 (x6_1.toNat * ek_law14_Deed.sz)), (36, .agg #[.int .i64 x14.What, .int .i64 x14.Obj, .int .i64 x14.T]), (37, bp b16 1), (38, .int .i64 x14.Obj), (39, .int .i64 t17), (40, bp b16 0), (41, .int .i64 x14.What), (42, .int .i64 t19), (43, .int .i64 t19), (44, .bool (decide (t19 < 2))), (45, bp b16 2), (46, .int .i64 x14.T), (47, .bool (decide (x14.T < 0))), (48, .bool (decide (x14.T < 0))), (52, .bool ((decide (x14.T < 0)) || (decide (31 < x14.T)))), (53, bp b16 2), (54, .int .i64 x14.T), (55, .bool (decide (x14.T < 4))), (56, .bool (decide (x14.T < 4))), (61, .bool c128), (62, v4), (63, (plainV v4).val), (64, .int .i64 t17), (65, bp b16 2), (66, .int .i64 x14.T), (67, errV 43 t133), (68, .int .i64 t137), (69, .int .i64 0), (70, .bool (t137 != 0)), (71, .int .i64 0), (72, .bool (0 == 0)), (171, .int .i64 j171_e7), (172, .bool j172_e7), (205, .int .i64 j205_e9), (206, .bool j206_e9)] [Own 40 (ekI .u64) v4 qv4_e7, Box b16 [.int .i64 x14.What, .int .i64 x14.Obj, .int .i64 x14.T], OwnR 35 (krS (ekI .i64)) v8 qv8_6, F]) (fun _ => rfl) ?_ (m := k) (x := (4, ())) hl9 ?_
                · clear h hl9
                  intro k x o_9 h hK9 ih9
                  obtain ⟨x19_9, _⟩ := x
                  replace h : law14_QueuePlays.l9 qv8_6 qv4_e7 (k + 1) x19_9 = some o_9 := h
                  first | rw [law14_QueuePlays.l9] at h | unfold law14_QueuePlays.l9 at h
                  refine S.seq ?_
                  refine S.seq ?_
                  refine S.region ?_
                  refine SO.v rfl (opv_move rfl) ?_
                  refine SO.v rfl (opv_lss rfl rfl) ?_
                  refine SO.nil ?_
                  rcases bool_or (decide (x19_9 < 32)) with b215 | b215
                  · replace h := cond_t b215 h
                    refine S.condT rfl b215 ?_
                    refine S.skip ?_
                    refine S.seq ?_
                    refine S.block ?_
                    refine S.seq ?_
                    refine S.region ?_
                    refine SO.v rfl (opv_move rfl) ?_
                    refine SO.v rfl (opv_move rfl) ?_
                    obtain ⟨t220, ht221, h⟩ := opt_bind h
                    refine SO.b2 ?_
                    refine SO.openR fun raws216 A217 hrel218 hR219 => ?_
                    refine SO.call (pre := []) rfl Try.call7 rfl rfl rfl (law14_in.ct _ v8 _ _ _ ht221) (Rd2.head (Rd2.ofO hrel218 hR219)) ?_
                    rintro _ _ ⟨rfl, rfl⟩
                    refine SO.v rfl (opv_not rfl) ?_
                    refine SO.v rfl (opv_move rfl) ?_
                    obtain ⟨c223, hc224, hgk⟩ := opt_bind h
                    refine SO.cut 9 222 (.bool c223) [OwnO 35 (krS (ekI .i64)) v8 raws216 A217 qv8_6, Own 40 (ekI .u64) v4 qv4_e7, Box b16 [.int .i64 x14.What, .int .i64 x14.Obj, .int .i64 x14.T], F] (fun l2 hk2 => ?_) ?_
                    · clear hgk
                      replace h := hc224
                      rcases bool_or (!t220) with b222 | b222
                      · replace h := cond_t b222 h
                        refine SO.takeT rfl rfl rfl b222 ?_
                        refine SO.v rfl (opv_move rfl) ?_
                        refine SO.takeT rfl rfl rfl b222 ?_
                        refine SO.v rfl (opv_move rfl) ?_
                        refine SO.takeT rfl rfl rfl b222 ?_
                        refine SO.v rfl (opv_mul rfl rfl) ?_
                        refine SO.takeT rfl rfl rfl b222 ?_
                        refine SO.v rfl (opv_add rfl rfl) ?_
                        refine SO.takeT rfl rfl rfl b222 ?_
                        refine SO.v rfl (opv_add rfl rfl) ?_
                        refine SO.takeT rfl rfl rfl b222 ?_
                        obtain ⟨x225, hx226, h⟩ := opt_bind h
                        refine SO.v rfl (opv_idx Try.underlying25 Try.sizeOf40 hr214 rfl rfl hx226) ?_
                        refine SO.takeT rfl rfl rfl b222 ?_
                        refine SO.loadI1 (j := 0) rfl Try.isAgg40 (Rd.tail (Rd.head hr214)) hx226 rfl rfl rfl rfl ?_
                        refine SO.takeT rfl rfl rfl b222 ?_
                        refine SO.v rfl (opv_neq rfl rfl) ?_
                        cases h
                        refine SO.v rfl (opv_pick_t' b222 rfl rfl) ?_
                        refine SO.b3 ?_
                        refine SO.b3 ?_
                        refine SO.b3 ?_
                        refine SO.b3 ?_
                        exact hk2.fitc (m := 9) rfl (rfl) rfl
                      · replace h := cond_f b222 h
                        refine SO.passF rfl rfl rfl b222 rfl rfl ?_
                        refine SO.passF rfl rfl rfl b222 rfl rfl ?_
                        refine SO.passF rfl rfl rfl b222 rfl rfl ?_
                        refine SO.passF rfl rfl rfl b222 rfl rfl ?_
                        refine SO.passF rfl rfl rfl b222 rfl rfl ?_
                        refine SO.passF rfl rfl rfl b222 rfl rfl ?_
                        refine SO.passF rfl rfl rfl b222 rfl rfl ?_
                        refine SO.passF rfl rfl rfl b222 rfl rfl ?_
                        cases h
                        refine SO.v rfl (opv_pick_f' b222 rfl rfl) ?_
                        refine SO.b3 ?_
                        refine SO.b3 ?_
                        refine SO.b3 ?_
                        refine SO.b3 ?_
                        exact hk2.fitc (m := 9) rfl (rfl) rfl
                    clear hc224
                    replace h := hgk
                    refine SO.nil ?_
                    rcases bool_or c223 with b227 | b227
                    · replace h := cond_t b227 h
                      refine S.condT rfl b227 ?_
                      refine S.seq ?_
                      refine S.region ?_
                      refine SO.v rfl (opv_assign rfl) ?_
                      refine SO.nil ?_
                      cases h
                      replace h := hK9.1 _ rfl
                      cases h
                      replace h := hK1.1 _ rfl
                      cases h
                      refine S.closeR ?_
                      refine S.drop ?_
                      refine S.drop ?_
                      refine S.drop ?_
                      exact S.ret1 Try.func3 rfl rfl (fun w hs hk => hR w _ _ ⟨rfl, rfl⟩ hs hk)
                    · replace h := cond_f b227 h
                      refine S.condF rfl b227 ?_
                      refine S.skip ?_
                      refine S.inBlock ?_
                      refine S.region ?_
                      refine SO.v rfl (opv_move rfl) ?_
                      refine SO.v rfl (opv_add rfl rfl) ?_
                      refine SO.v rfl (opv_assign rfl) ?_
                      refine SO.nil ?_
                      refine S.closeR ?_
                      refine S.b3 ?_
                      refine S.b1 ?_
                      refine S.b3 ?_
                      refine S.b3 ?_
                      refine S.to ?_ (ih9 (w64 (x19_9 + 1), ()) h)
                      exact ⟨rfl, rfl, rfl, rfl, rfl, rfl, rfl, rfl, rfl, rfl, rfl, rfl, rfl, rfl, rfl, rfl, rfl, rfl, rfl, rfl, rfl, rfl, rfl, rfl, rfl, rfl, rfl, rfl, rfl, rfl, rfl, rfl, rfl, rfl, rfl, rfl, rfl, rfl, rfl, rfl, rfl, rfl, rfl, rfl, rfl, rfl, rfl, rfl, rfl, rfl, rfl, trivial⟩
                  · replace h := cond_f b215 h
                    refine S.condF rfl b215 ?_
                    refine S.exit rfl ?_
                    cases h
                    refine S.b3 ?_
                    refine S.b3 ?_
                    refine S.b3 ?_
                    refine S.b3 ?_
                    refine S.to ?_ (hK9.2 (x19_9, x19_9, decide (x19_9 < 32)) () rfl)
                    exact ⟨rfl, rfl, rfl, rfl, rfl, rfl, rfl, rfl, rfl, rfl, rfl, rfl, rfl, rfl, rfl, rfl, rfl, rfl, rfl, rfl, rfl, rfl, rfl, rfl, rfl, rfl, rfl, rfl, rfl, rfl, rfl, rfl, rfl, rfl, rfl, rfl, rfl, rfl, rfl, rfl, rfl, rfl, rfl, rfl, rfl, rfl, rfl, rfl, rfl, rfl, rfl, rfl, rfl, trivial⟩
                refine ⟨fun r' e' => ?_, ?_⟩
                · subst e'
                  have h9 := Brk.of_ret h
                  exact h9
                rintro ⟨j19_e9, j205_e9, j206_e9⟩ _ e'
                subst e'
                replace h := Brk.of_nx h
                refine S.inBlock ?_
                refine S.region ?_
                refine SO.v rfl (opv_move rfl) ?_
                refine SO.v rfl (opv_add rfl rfl) ?_
                refine SO.v rfl (opv_assign rfl) ?_
                refine SO.nil ?_
                refine S.b1 ?_
                refine S.drop ?_
                refine S.b2 ?_
                refine S.b1 ?_
                refine S.b2 ?_
                refine S.to ?_ (ih1 ((w64 (x6_1 + 1), qv4_e7, qv8_6), ()) h)
                exact ⟨rfl, rfl, rfl, rfl, rfl, rfl, trivial⟩
        · replace h := cond_f b21 h
          refine S.condF rfl b21 ?_
          refine S.seq ?_
          refine S.region ?_
          refine SO.v rfl (opv_move rfl) ?_
          refine SO.v rfl (opv_eql rfl rfl) ?_
          refine SO.nil ?_
          obtain ⟨o10, hC10, hJ10⟩ := opt_bind h
          clear h
          refine S.cutP (G := ((List Int) × (List (List Int))) × Unit) (fun x => o10 = Brk.nx x.1) (fun x => match x with | ((qv4_10, qv8_10), _) => [(0, v0), (2, .bool false), (3, .bool t1), (4, v4), (5, v8), (6, .int .i64 x6_1), (7, bp b16 0), (8, .int .i64 t17), (9, .int .i64 t19), (27, .int .i64 x6_1), (28, v0), (29, .int .i64 (a0.length : Int)), (30, .bool (decide (x6_1 < (a0.length : Int)))), (33, v0), (34, .int .i64 x6_1), (35, idxp v0 (x6_1.toNat * ek_law14_Deed.sz)), (36, .agg #[.int .i64 x14.What, .int .i64 x14.Obj, .int .i64 x14.T]), (37, bp b16 1), (38, .int .i64 x14.Obj), (39, .int .i64 t17), (40, bp b16 0), (41, .int .i64 x14.What), (42, .int .i64 t19), (43, .int .i64 t19), (44, .bool (decide (t19 < 2))), (86, .int .i64 t19), (87, .bool (t19 == 2))]) (fun x => match x with | ((qv4_10, qv8_10), _) => [Box b16 [.int .i64 x14.What, .int .i64 x14.Obj, .int .i64 x14.T], Own 40 (ekI .u64) v4 qv4_10, OwnR 35 (krS (ekI .i64)) v8 qv8_10, F]) (fun hk10 => ?_) ?_
          · replace h := hC10
            rcases bool_or (t19 == 2) with b228 | b228
            · replace h := cond_t b228 h
              refine S.condT rfl b228 ?_
              refine S.seq ?_
              refine S.region ?_
              refine SO.v rfl (opv_move rfl) ?_
              refine SO.v rfl (opv_iface Try.underlying25 rfl rfl) ?_
              refine SO.v rfl (opv_move rfl) ?_
              obtain ⟨⟨⟨t229, t230⟩, s232⟩, ht231, h⟩ := opt_bind h
              refine SO.b1 ?_
              refine SO.call (pre := [(plainV v4).rep _]) rfl Try.call10 rfl rfl rfl (queue_Pop.ct (plainV v4) _ _ _ _ _ ht231) trivial ?_
              rintro _ _ ⟨rfl, rfl⟩
              refine headEq (plainV_rep _ _) ?_
              refine SO.rd fun hr233 => ?_
              refine SO.v rfl (opv_move rfl) ?_
              refine SO.v rfl (opv_extract rfl rfl) ?_
              refine SO.v rfl (opv_extract rfl rfl) ?_
              refine SO.v rfl (opv_assign rfl) ?_
              refine SO.v rfl (opv_assign rfl) ?_
              refine SO.nil ?_
              refine S.seq ?_
              refine S.seq ?_
              refine S.region ?_
              refine SO.v rfl (opv_move rfl) ?_
              refine SO.v rfl (opv_move rfl) ?_
              refine SO.v rfl (opv_move rfl) ?_
              refine SO.b2 ?_
              refine SO.openR fun raws239 A240 hrel241 hR242 => ?_
              obtain ⟨x234, hx235, h⟩ := opt_bind h
              obtain ⟨r236, hr237, hc238⟩ := relR.at hrel241 hx235
              refine SO.v rfl (opv_idx Try.underlying26 Try.sizeOf35 hR242 rfl rfl hr237) ?_
              obtain ⟨u243, hu244, hru245⟩ := hc238.sl 0 rfl
              refine SO.loadI1 (j := 0) rfl Try.isAgg35 (Rd.head hR242) hr237 rfl rfl rfl hu244 ?_
              refine SO.v rfl (opv_lenR rfl Try.underlying35 hru245 rfl) ?_
              refine SO.v rfl (opv_gtr rfl rfl) ?_
              refine SO.v rfl (opv_neqB Try.underlying4 rfl rfl) ?_
              refine SO.v rfl (opv_move rfl) ?_
              refine SO.cut 7 110 (.bool ((t230 != (decide (0 < (x234.length : Int)))) || ((!t230) && (t229 != 0)))) [OwnO 35 (krS (ekI .i64)) v8 raws239 A240 qv8_1, Own 40 (ekI .u64) v4 s232, Box b16 [.int .i64 x14.What, .int .i64 x14.Obj, .int .i64 x14.T], F] (fun l2 hk2 => ?_) ?_
              · rcases bool_or (t230 != (decide (0 < (x234.length : Int)))) with b246 | b246
                · refine SO.passF rfl rfl rfl b246 rfl rfl ?_
                  refine SO.passF rfl rfl rfl b246 rfl rfl ?_
                  refine SO.passF rfl rfl rfl b246 rfl rfl ?_
                  refine SO.pass_undef rfl rfl rfl rfl ?_
                  refine SO.pass_undef rfl rfl rfl rfl ?_
                  refine SO.passF rfl rfl rfl b246 rfl rfl ?_
                  refine SO.v rfl (opv_pick_t' b246 rfl rfl) ?_
                  refine SO.b3 ?_
                  refine SO.b3 ?_
                  refine SO.b3 ?_
                  refine SO.b3 ?_
                  exact hk2.fitc (m := 7) rfl (or_t b246) rfl
                · refine SO.takeT rfl rfl rfl b246 ?_
                  refine SO.v rfl (opv_move rfl) ?_
                  refine SO.takeT rfl rfl rfl b246 ?_
                  refine SO.v rfl (opv_not rfl) ?_
                  refine SO.takeT rfl rfl rfl b246 ?_
                  refine SO.v rfl (opv_move rfl) ?_
                  refine SO.cut 3 109 (.bool ((!t230) && (t229 != 0))) [OwnO 35 (krS (ekI .i64)) v8 raws239 A240 qv8_1, Own 40 (ekI .u64) v4 s232, Box b16 [.int .i64 x14.What, .int .i64 x14.Obj, .int .i64 x14.T], F] (fun l2 hk2 => ?_) ?_
                  · rcases bool_or (!t230) with b247 | b247
                    · refine SO.takeT rfl rfl rfl b247 ?_
                      refine SO.v rfl (opv_move rfl) ?_
                      refine SO.takeT rfl rfl rfl b247 ?_
                      refine SO.v rfl (opv_neq rfl rfl) ?_
                      refine SO.takeT rfl rfl rfl b246 ?_
                      refine SO.v rfl (opv_pick_t' b247 rfl rfl) ?_
                      refine SO.b3 ?_
                      refine SO.b3 ?_
                      refine SO.b3 ?_
                      refine SO.b3 ?_
                      exact hk2.fitc (m := 3) rfl (and_t b247) rfl
                    · refine SO.passF rfl rfl rfl b247 rfl rfl ?_
                      refine SO.passF rfl rfl rfl b247 rfl rfl ?_
                      refine SO.takeT rfl rfl rfl b246 ?_
                      refine SO.v rfl (opv_pick_f' b247 rfl rfl) ?_
                      refine SO.b3 ?_
                      refine SO.b3 ?_
                      refine SO.b3 ?_
                      refine SO.b3 ?_
                      exact hk2.fitc (m := 3) rfl (and_f b247) rfl
                  refine SO.v rfl (opv_pick_f' b246 rfl rfl) ?_
                  refine SO.b3 ?_
                  refine SO.b3 ?_
                  refine SO.b3 ?_
                  refine SO.b3 ?_
                  exact hk2.fitc (m := 5) rfl (or_f b246) rfl
              refine SO.nil ?_
              rcases bool_or ((t230 != (decide (0 < (x234.length : Int)))) || ((!t230) && (t229 != 0))) with b248 | b248
              · replace h := cond_t b248 h
                refine S.condT rfl b248 ?_
                refine S.seq ?_
                refine S.region ?_
                refine SO.v rfl (opv_assign rfl) ?_
                refine SO.nil ?_
                cases h
                replace h := Brk.of_ret hJ10
                cases h
                replace h := hK1.1 _ rfl
                cases h
                refine S.closeR ?_
                refine S.drop ?_
                refine S.drop ?_
                refine S.drop ?_
                exact S.ret1 Try.func3 rfl rfl (fun w hs hk => hR w _ _ ⟨rfl, rfl⟩ hs hk)
              · replace h := cond_f b248 h
                refine S.condF rfl b248 ?_
                refine S.skip ?_
                refine S.seq ?_
                refine S.region ?_
                refine SO.v rfl (opv_move rfl) ?_
                refine SO.nil ?_
                rcases bool_or t230 with b249 | b249
                · replace h := cond_t b249 h
                  refine S.condT rfl b249 ?_
                  refine S.seq ?_
                  refine S.seq ?_
                  refine S.region ?_
                  refine SO.v rfl (opv_move rfl) ?_
                  refine SO.v rfl (opv_move rfl) ?_
                  refine SO.v rfl (opv_move rfl) ?_
                  obtain ⟨x250, hx251, h⟩ := opt_bind h
                  obtain ⟨r252, hr253, hc254⟩ := relR.at hrel241 hx251
                  refine SO.v rfl (opv_idx Try.underlying26 Try.sizeOf35 hR242 rfl rfl hr253) ?_
                  obtain ⟨u255, hu256, hru257⟩ := hc254.sl 0 rfl
                  refine SO.loadI1 (j := 0) rfl Try.isAgg35 (Rd.head hR242) hr253 rfl rfl rfl hu256 ?_
                  obtain ⟨x258, hx259, h⟩ := opt_bind h
                  refine SO.v rfl (opv_idx Try.underlying35 Try.sizeOf3 hru257 rfl rfl hx259) ?_
                  refine SO.loadI1 (j := 0) rfl Try.isAgg3 (Rd.head (Rd.pool hru257)) hx259 rfl rfl rfl rfl ?_
                  refine SO.v rfl (opv_neq rfl rfl) ?_
                  refine SO.nil ?_
                  rcases bool_or (t229 != x258) with b260 | b260
                  · replace h := cond_t b260 h
                    refine S.condT rfl b260 ?_
                    refine S.seq ?_
                    refine S.region ?_
                    refine SO.v rfl (opv_assign rfl) ?_
                    refine SO.nil ?_
                    cases h
                    replace h := Brk.of_ret hJ10
                    cases h
                    replace h := hK1.1 _ rfl
                    cases h
                    refine S.closeR ?_
                    refine S.drop ?_
                    refine S.drop ?_
                    refine S.drop ?_
                    exact S.ret1 Try.func3 rfl rfl (fun w hs hk => hR w _ _ ⟨rfl, rfl⟩ hs hk)
                  · replace h := cond_f b260 h
                    refine S.condF rfl b260 ?_
                    refine S.skip ?_
                    refine S.region ?_
                    refine SO.v rfl (opv_move rfl) ?_
                    refine SO.v rfl (opv_move rfl) ?_
                    refine SO.buildSlice0 (ekI .i64) rfl Try.underlying35 Try.sizeOf3 (fun v261 hr262 => ?_)
                    refine SO.v rfl (opv_move rfl) ?_
                    refine SO.v rfl (opv_move rfl) ?_
                    obtain ⟨x263, hx264, h⟩ := opt_bind h
                    obtain ⟨r265, hr266, hc267⟩ := relR.at hrel241 hx264
                    refine SO.v rfl (opv_idx Try.underlying26 Try.sizeOf35 hR242 rfl rfl hr266) ?_
                    obtain ⟨u268, hu269, hru270⟩ := hc267.sl 0 rfl
                    refine SO.loadI1 (j := 0) rfl Try.isAgg35 (Rd.tail (Rd.head hR242)) hr266 rfl rfl rfl hu269 ?_
                    obtain ⟨zs271, hz272, h⟩ := opt_bind h
                    have hru273 := Rd.slc hru270 hz272
                    refine SO.v rfl (opv_slcLo Try.underlying35 Try.sizeOf3 hru270 hz272 rfl rfl) ?_
                    obtain ⟨zs274, hz275, h⟩ := opt_bind h
                    refine SO.append rfl Try.underlying35 inf3 rfl rfl rfl (by decide) rfl rfl rfl (Rd.head (Rd.pool hru273)) hz275 (fun v276 => ?_)
                    refine SO.rd fun hr277 => ?_
                    obtain ⟨x278, hx279, h⟩ := opt_bind h
                    obtain ⟨r280, hr281, hc282⟩ := relR.at hrel241 hx279
                    refine SO.v rfl (opv_idx Try.underlying26 Try.sizeOf35 hR242 rfl rfl hr281) ?_
                    refine SO.b1 ?_
                    refine SO.b1 ?_
                    refine SO.freeze hrel241 fun A283 hcov284 hru285 hrel286 hR287 => ?_
                    refine SO.storeO1 (j := 0) (q := .sl (ekI .i64) zs274) (z' := zs274) Try.sizeOf35 hrel286 hx279 rfl rfl (Rd.one hru285) rfl rfl rfl hru285 (fun raws288 hrel289 hR290 => ?_)
                    refine SO.nil ?_
                    cases h
                    refine S.closeR ?_
                    refine S.b3 ?_
                    refine S.b1 ?_
                    refine S.b2 ?_
                    refine S.b3 ?_
                    refine S.to ?_ (hk10 ((s232, qv8_1.set t17.toNat zs274), ()) rfl)
                    exact ⟨rfl, rfl, rfl, rfl, rfl, rfl, rfl, rfl, rfl, rfl, rfl, rfl, rfl, rfl, rfl, rfl, rfl, rfl, rfl, rfl, rfl, rfl, rfl, rfl, rfl, rfl, rfl, trivial⟩
                · replace h := cond_f b249 h
                  refine S.condF rfl b249 ?_
                  refine S.skip ?_
                  cases h
                  refine S.closeR ?_
                  refine S.b3 ?_
                  refine S.b1 ?_
                  refine S.b2 ?_
                  refine S.b3 ?_
                  refine S.to ?_ (hk10 ((s232, qv8_1), ()) rfl)
                  exact ⟨rfl, rfl, rfl, rfl, rfl, rfl, rfl, rfl, rfl, rfl, rfl, rfl, rfl, rfl, rfl, rfl, rfl, rfl, rfl, rfl, rfl, rfl, rfl, rfl, rfl, rfl, rfl, trivial⟩
            · replace h := cond_f b228 h
              refine S.condF rfl b228 ?_
              refine S.seq ?_
              refine S.region ?_
              refine SO.v rfl (opv_assign rfl) ?_
              refine SO.nil ?_
              refine S.seq ?_
              refine S.region ?_
              refine SO.v rfl (opv_assign rfl) ?_
              refine SO.nil ?_
              refine S.seq ?_
              refine S.seq ?_
              refine S.region ?_
              refine SO.v rfl (opv_assign rfl) ?_
              refine SO.nil ?_
              obtain ⟨⟨j13_e11, j14_e11, j15_e11, j130_e11, j135_e11, j136_e11⟩, hl11, h⟩ := opt_bind h
              refine S.newOwn 3 (ekI .i64) ?_
              refine S.b4 ?_
              refine S.b4 ?_
              refine S.b4 ?_
              refine S.b4 ?_
              refine S.b4 ?_
              refine S.to (ρ' := [(15, .int .i64 0), (14, .bool false), (13, .slice none 0 0), (87, .bool (t19 == 2)), (86, .int .i64 t19), (44, .bool (decide (t19 < 2))), (43, .int .i64 t19), (9, .int .i64 t19), (42, .int .i64 t19), (41, .int .i64 x14.What), (40, bp b16 0), (8, .int .i64 t17), (39, .int .i64 t17), (38, .int .i64 x14.Obj), (37, bp b16 1), (7, bp b16 0), (36, .agg #[.int .i64 x14.What, .int .i64 x14.Obj, .int .i64 x14.T]), (35, idxp v0 (x6_1.toNat * ek_law14_Deed.sz)), (34, .int .i64 x6_1), (33, v0), (30, .bool (decide (x6_1 < (a0.length : Int)))), (29, .int .i64 (a0.length : Int)), (28, v0), (27, .int .i64 x6_1), (6, .int .i64 x6_1), (5, v8), (4, v4), (3, .bool t1), (2, .bool false), (0, v0)]) ⟨rfl, rfl, rfl, rfl, rfl, rfl, rfl, rfl, rfl, rfl, rfl, rfl, rfl, rfl, rfl, rfl, rfl, rfl, rfl, rfl, rfl, rfl, rfl, rfl, rfl, rfl, rfl, rfl, rfl, rfl, trivial⟩ ?_
              refine S.forloop (X := (Int × Bool × (List Int)) × Value) (O := ((List Int) × Bool × Int × Int × Int × Bool)) (fun m x => law14_QueuePlays.l11 qv8_1 x14 t17 m x.1) (fun x => match x with | ((x15_11, x14_11, x13_11), v13_11) => [(15, .int .i64 x15_11), (14, .bool x14_11), (13, v13_11), (87, .bool (t19 == 2)), (86, .int .i64 t19), (44, .bool (decide (t19 < 2))), (43, .int .i64 t19), (9, .int .i64 t19), (42, .int .i64 t19), (41, .int .i64 x14.What), (40, bp b16 0), (8, .int .i64 t17), (39, .int .i64 t17), (38, .int .i64 x14.Obj), (37, bp b16 1), (7, bp b16 0), (36, .agg #[.int .i64 x14.What, .int .i64 x14.Obj, .int .i64 x14.T]), (35, idxp v0 (x6_1.toNat * ek_law14_Deed.sz)), (34, .int .i64 x6_1), (33, v0), (30, .bool (decide (x6_1 < (a0.length : Int)))), (29, .int .i64 (a0.length : Int)), (28, v0), (27, .int .i64 x6_1), (6, .int .i64 x6_1), (5, v8), (4, v4), (3, .bool t1), (2, .bool false), (0, v0)]) (fun x => match x with | ((x15_11, x14_11, x13_11), v13_11) => [Own 3 (ekI .i64) v13_11 x13_11, Box b16 [.int .i64 x14.What, .int .i64 x14.Obj, .int .i64 x14.T], Own 40 (ekI .u64) v4 qv4_1, OwnR 35 (krS (ekI .i64)) v8 qv8_1, F]) (fun Sk => (fun x => match x with | (j13_e11, j14_e11, j15_e11, j130_e11, j135_e11, j136_e11) => ∀ v13_e11 : Value, Sk [(0, v0), (2, .bool false), (3, .bool t1), (4, v4), (5, v8), (6, .int .i64 x6_1), (7, bp b16 0), (8, .int .i64 t17), (9, .int .i64 t19), (13, v13_e11), (14, .bool j14_e11), (15, .int .i64 j15_e11), (27, .int .i64 x6_1), (28, v0), (29, .int .i64 (a0.length : Int)), (30, .bool (decide (x6_1 < (a0.length : Int)))), (33, v0), (34, .int .i64 x6_1), (35, idxp v0 (x6_1.toNat * ek_law14_Deed.sz)), (36, .agg #[.int .i64 x14.What, .int .i64 x14.Obj, .int .i64 x14.T]), (37, bp b16 1), (38, .int .i64 x14.Obj), (39, .int .i64 t17), (40, bp b16 0), (41, .int .i64 x14.What), (42, .int .i64 t19), (43, .int .i64 t19), (44, .bool (decide (t19 < 2))), (86, .int .i64 t19), (87, .bool (t19 == 2)), (130, .int .i64 j130_e11), (131, v8), (132, .int .i64 t17), (133, idxp v8 (t17.toNat * (krS (ekI .i64)).sz)), (135, .int .i64 j135_e11), (136, .bool j136_e11)] [Own 3 (ekI .i64) v13_e11 j13_e11, Box b16 [.int .i64 x14.What, .int .i64 x14.Obj, .int .i64 x14.T], Own 40 (ekI .u64) v4 qv4_1, OwnR 35 (krS (ekI .i64)) v8 qv8_1, F])) (fun _ => rfl) ?_ (m := k) (x := ((0, false, []), .slice none 0 0)) hl11 ?_
              · clear h hl11
                intro k x o_11 h hK11 ih11
                obtain ⟨⟨x15_11, x14_11, x13_11⟩, v13_11⟩ := x
                replace h : law14_QueuePlays.l11 qv8_1 x14 t17 (k + 1) (x15_11, x14_11, x13_11) = some o_11 := h
                first | rw [law14_QueuePlays.l11] at h | unfold law14_QueuePlays.l11 at h
                refine S.rd fun hr291 => ?_
                refine S.seq ?_
                refine S.seq ?_
                refine S.region ?_
                refine SO.v rfl (opv_move rfl) ?_
                refine SO.v rfl (opv_move rfl) ?_
                refine SO.v rfl (opv_move rfl) ?_
                refine SO.b3 ?_
                refine SO.openR fun raws297 A298 hrel299 hR300 => ?_
                obtain ⟨x292, hx293, h⟩ := opt_bind h
                obtain ⟨r294, hr295, hc296⟩ := relR.at hrel299 hx293
                refine SO.v rfl (opv_idx Try.underlying26 Try.sizeOf35 hR300 rfl rfl hr295) ?_
                obtain ⟨u301, hu302, hru303⟩ := hc296.sl 0 rfl
                refine SO.loadI1 (j := 0) rfl Try.isAgg35 (Rd.head hR300) hr295 rfl rfl rfl hu302 ?_
                refine SO.v rfl (opv_lenR rfl Try.underlying35 hru303 rfl) ?_
                refine SO.v rfl (opv_lss rfl rfl) ?_
                refine SO.nil ?_
                rcases bool_or (decide (x15_11 < (x292.length : Int))) with b304 | b304
                · replace h := cond_t b304 h
                  refine S.condT rfl b304 ?_
                  refine S.skip ?_
                  refine S.seq ?_
                  refine S.block ?_
                  refine S.seq ?_
                  obtain ⟨x305, hx306, h⟩ := opt_bind h
                  obtain ⟨r307, hr308, hc309⟩ := relR.at hrel299 hx306
                  obtain ⟨u310, hu311, hru312⟩ := hc309.sl 0 rfl
                  obtain ⟨x313, hx314, h⟩ := opt_bind h
                  refine S.draw' (Z := fun Q => ∀ (_ : Unit) (_ : Unit) (_ : Unit) (_ : Unit) (_ : Unit) (_ : Unit) (_ : Unit) (_ : Unit) (_ : Unit) (_ : Unit) (_ : Unit) (_ : Unit) (_ : Unit) (_ : Unit) (_ : Unit) (_ : Unit) (_ : Unit) (_ : Unit) (_ : Unit) (_ : Unit), Q [(15, .int .i64 x15_11), (136, .bool (decide (x15_11 < (x292.length : Int)))), (135, .int .i64 (x292.length : Int)), (134, u301), (133, idxp v8 (t17.toNat * (krS (ekI .i64)).sz)), (132, .int .i64 t17), (131, v8), (130, .int .i64 x15_11), (14, .bool x14_11), (13, v13_11), (87, .bool (t19 == 2)), (86, .int .i64 t19), (44, .bool (decide (t19 < 2))), (43, .int .i64 t19), (9, .int .i64 t19), (42, .int .i64 t19), (41, .int .i64 x14.What), (40, bp b16 0), (39, .int .i64 t17), (38, .int .i64 x14.Obj), (37, bp b16 1), (36, .agg #[.int .i64 x14.What, .int .i64 x14.Obj, .int .i64 x14.T]), (35, idxp v0 (x6_1.toNat * ek_law14_Deed.sz)), (34, .int .i64 x6_1), (33, v0), (30, .bool (decide (x6_1 < (a0.length : Int)))), (29, .int .i64 (a0.length : Int)), (28, v0), (27, .int .i64 x6_1), (6, .int .i64 x6_1), (4, v4), (3, .bool t1), (2, .bool false), (0, v0), (8, .int .i64 t17), (7, bp b16 0), (5, v8), (139, v8), (140, .int .i64 t17), (141, idxp v8 (t17.toNat * (krS (ekI .i64)).sz)), (142, u310), (143, .int .i64 x15_11), (144, idxp u310 (x15_11.toNat * (ekI .i64).sz)), (145, .int .i64 x313), (146, bp b16 2), (147, .int .i64 x14.T), (148, .bool (x313 == x14.T))] [OwnO 35 (krS (ekI .i64)) v8 raws297 A298 qv8_1, Own 3 (ekI .i64) v13_11 x13_11, Box b16 [.int .i64 x14.What, .int .i64 x14.Obj, .int .i64 x14.T], Own 40 (ekI .u64) v4 qv4_1, F]) (T := [tS 5 (v8), tS 8 (.int .i64 t17), tS 15 (.int .i64 x15_11), tS 7 (bp b16 0), tE [(136, .bool (decide (x15_11 < (x292.length : Int)))), (135, .int .i64 (x292.length : Int)), (134, u301), (133, idxp v8 (t17.toNat * (krS (ekI .i64)).sz)), (132, .int .i64 t17), (131, v8), (130, .int .i64 x15_11), (14, .bool x14_11), (13, v13_11), (87, .bool (t19 == 2)), (86, .int .i64 t19), (44, .bool (decide (t19 < 2))), (43, .int .i64 t19), (9, .int .i64 t19), (42, .int .i64 t19), (41, .int .i64 x14.What), (40, bp b16 0), (39, .int .i64 t17), (38, .int .i64 x14.Obj), (37, bp b16 1), (36, .agg #[.int .i64 x14.What, .int .i64 x14.Obj, .int .i64 x14.T]), (35, idxp v0 (x6_1.toNat * ek_law14_Deed.sz)), (34, .int .i64 x6_1), (33, v0), (30, .bool (decide (x6_1 < (a0.length : Int)))), (29, .int .i64 (a0.length : Int)), (28, v0), (27, .int .i64 x6_1), (6, .int .i64 x6_1), (4, v4), (3, .bool t1), (2, .bool false), (0, v0)], tR (OwnO 35 (krS (ekI .i64)) v8 raws297 A298 qv8_1), tR (Own 3 (ekI .i64) v13_11 x13_11), tR (Box b16 [.int .i64 x14.What, .int .i64 x14.Obj, .int .i64 x14.T]), tR (Own 40 (ekI .u64) v4 qv4_1), tR (F), tS 139 (v8), tS 140 (.int .i64 t17), tS 141 (idxp v8 (t17.toNat * (krS (ekI .i64)).sz)), tS 142 (u310), tS 143 (.int .i64 x15_11), tS 144 (idxp u310 (x15_11.toNat * (ekI .i64).sz)), tS 145 (.int .i64 x313), tS 146 (bp b16 2), tS 147 (.int .i64 x14.T), tS 148 (.bool (x313 == x14.T))]) (D := [⟨[0], [], [10]⟩, ⟨[1], [], [11]⟩, ⟨[10, 11, 5], [], [12]⟩, ⟨[12, 5], [], [13]⟩, ⟨[2], [], [14]⟩, ⟨[13, 14, 5], [], [15]⟩, ⟨[15, 5], [], [16]⟩, ⟨[3], [], [17]⟩, ⟨[17, 7], [], [18]⟩, ⟨[16, 18], [], [19]⟩]) (ini := [0, 1, 2, 3, 4, 5, 6, 7, 8, 9]) (fin := [2, 4, 1, 3, 0, 10, 11, 12, 13, 14, 15, 16, 17, 18, 19, 5, 6, 7, 8, 9]) (bf := [[], [], [0, 1], [0, 1, 2], [], [0, 1, 2, 3, 4], [0, 1, 2, 3, 4, 5], [], [7], [0, 1, 2, 3, 4, 5, 6, 7, 8]]) (by kernel_rfl) (by kernel_rfl) (fun x w h1 h2 => (.cons () (.cons () (.cons () (.cons () (.cons () (.cons () (.cons () (.cons () (.cons () (.cons () (.nil ⟨EnvAll.of h1 ⟨rfl, rfl, rfl, rfl, rfl, rfl, rfl, rfl, rfl, rfl, rfl, rfl, rfl, rfl, rfl, rfl, rfl, rfl, rfl, rfl, rfl, rfl, rfl, rfl, rfl, rfl, rfl, rfl, rfl, rfl, rfl, rfl, rfl, rfl, rfl, rfl, rfl, trivial⟩, h2⟩)))))))))))) (fun Q => by kernel_rfl) ⟨?_, ?_, ?_, ?_, ?_, ?_, ?_, ?_, ?_, ?_, trivial⟩ ?_
                  · rintro Fr _
                    refine SO.v rfl (opv_move rfl) ?_
                    exact SO.nilZ fun a w h1 h2 h3 h4 h5 => PZ.of h1 h3 h5 (.cons () (.cons () (.nil ⟨EnvAll.of h2 ⟨rfl, rfl, trivial⟩, h4⟩)))
                  · rintro Fr _
                    refine SO.v rfl (opv_move rfl) ?_
                    exact SO.nilZ fun a w h1 h2 h3 h4 h5 => PZ.of h1 h3 h5 (.cons () (.cons () (.nil ⟨EnvAll.of h2 ⟨rfl, rfl, trivial⟩, h4⟩)))
                  · rintro Fr _ _ _
                    refine SO.v rfl (opv_idx Try.underlying26 Try.sizeOf35 hR300 rfl rfl hr308) ?_
                    exact SO.nilZ fun a w h1 h2 h3 h4 h5 => PZ.of h1 h3 h5 (.cons () (.cons () (.cons () (.cons () (.nil ⟨EnvAll.of h2 ⟨rfl, rfl, rfl, trivial⟩, h4⟩)))))
                  · rintro Fr _ _
                    refine SO.loadI1 (j := 0) rfl Try.isAgg35 (Rd.head hR300) hr308 rfl rfl rfl hu311 ?_
                    exact SO.nilZ fun a w h1 h2 h3 h4 h5 => PZ.of h1 h3 h5 (.cons () (.cons () (.cons () (.nil ⟨EnvAll.of h2 ⟨rfl, rfl, trivial⟩, h4⟩))))
                  · rintro Fr _
                    refine SO.v rfl (opv_move rfl) ?_
                    exact SO.nilZ fun a w h1 h2 h3 h4 h5 => PZ.of h1 h3 h5 (.cons () (.cons () (.nil ⟨EnvAll.of h2 ⟨rfl, rfl, trivial⟩, h4⟩)))
                  · rintro Fr _ _ _
                    refine SO.v rfl (opv_idx Try.underlying35 Try.sizeOf3 hru312 rfl rfl hx314) ?_
                    exact SO.nilZ fun a w h1 h2 h3 h4 h5 => PZ.of h1 h3 h5 (.cons () (.cons () (.cons () (.cons () (.nil ⟨EnvAll.of h2 ⟨rfl, rfl, rfl, trivial⟩, h4⟩)))))
                  · rintro Fr _ _
                    refine SO.loadI1 (j := 0) rfl Try.isAgg3 (Rd.head (Rd.pool hru312)) hx314 rfl rfl rfl rfl ?_
                    exact SO.nilZ fun a w h1 h2 h3 h4 h5 => PZ.of h1 h3 h5 (.cons () (.cons () (.cons () (.nil ⟨EnvAll.of h2 ⟨rfl, rfl, trivial⟩, h4⟩))))
                  · rintro Fr _
                    refine SO.v rfl (opv_fieldAddr Try.underlying28 rfl Try.sizeOf3 rfl rfl) ?_
                    exact SO.nilZ fun a w h1 h2 h3 h4 h5 => PZ.of h1 h3 h5 (.cons () (.cons () (.nil ⟨EnvAll.of h2 ⟨rfl, rfl, trivial⟩, h4⟩)))
                  · rintro Fr _ _
                    refine SO.load1 rfl Try.isAgg3 rfl rfl ?_
                    exact SO.nilZ fun a w h1 h2 h3 h4 h5 => PZ.of h1 h3 h5 (.cons () (.cons () (.cons () (.nil ⟨EnvAll.of h2 ⟨rfl, rfl, trivial⟩, h4⟩))))
                  · rintro Fr _ _
                    refine SO.v rfl (opv_eql rfl rfl) ?_
                    exact SO.nilZ fun a w h1 h2 h3 h4 h5 => PZ.of h1 h3 h5 (.cons () (.cons () (.cons () (.nil ⟨EnvAll.of h2 ⟨rfl, rfl, rfl, trivial⟩, h4⟩))))
                  rintro _ _ _ _ _ _ _ _ _ _ _ _ _ _ _ _ _ _ _ _
                  refine S.to (ρ' := [(15, .int .i64 x15_11), (136, .bool (decide (x15_11 < (x292.length : Int)))), (135, .int .i64 (x292.length : Int)), (134, u301), (133, idxp v8 (t17.toNat * (krS (ekI .i64)).sz)), (132, .int .i64 t17), (131, v8), (130, .int .i64 x15_11), (14, .bool x14_11), (13, v13_11), (87, .bool (t19 == 2)), (86, .int .i64 t19), (44, .bool (decide (t19 < 2))), (43, .int .i64 t19), (9, .int .i64 t19), (42, .int .i64 t19), (41, .int .i64 x14.What), (40, bp b16 0), (39, .int .i64 t17), (38, .int .i64 x14.Obj), (37, bp b16 1), (36, .agg #[.int .i64 x14.What, .int .i64 x14.Obj, .int .i64 x14.T]), (35, idxp v0 (x6_1.toNat * ek_law14_Deed.sz)), (34, .int .i64 x6_1), (33, v0), (30, .bool (decide (x6_1 < (a0.length : Int)))), (29, .int .i64 (a0.length : Int)), (28, v0), (27, .int .i64 x6_1), (6, .int .i64 x6_1), (4, v4), (3, .bool t1), (2, .bool false), (0, v0), (8, .int .i64 t17), (7, bp b16 0), (5, v8), (139, v8), (140, .int .i64 t17), (141, idxp v8 (t17.toNat * (krS (ekI .i64)).sz)), (142, u310), (143, .int .i64 x15_11), (144, idxp u310 (x15_11.toNat * (ekI .i64).sz)), (145, .int .i64 x313), (146, bp b16 2), (147, .int .i64 x14.T), (148, .bool (x313 == x14.T))]) ⟨rfl, rfl, rfl, rfl, rfl, rfl, rfl, rfl, rfl, rfl, rfl, rfl, rfl, rfl, rfl, rfl, rfl, rfl, rfl, rfl, rfl, rfl, rfl, rfl, rfl, rfl, rfl, rfl, rfl, rfl, rfl, rfl, rfl, rfl, rfl, rfl, rfl, rfl, rfl, rfl, rfl, rfl, rfl, rfl, rfl, rfl, rfl, trivial⟩ ?_
                  rcases bool_or (x313 == x14.T) with b315 | b315
                  · replace h := cond_t b315 h
                    refine S.condT rfl b315 ?_
                    refine S.region ?_
                    refine SO.v rfl (opv_assign rfl) ?_
                    refine SO.nil ?_
                    refine S.inBlock ?_
                    refine S.region ?_
                    refine SO.v rfl (opv_move rfl) ?_
                    refine SO.v rfl (opv_add rfl rfl) ?_
                    refine SO.v rfl (opv_assign rfl) ?_
                    refine SO.nil ?_
                    refine S.closeR ?_
                    refine S.b4 ?_
                    refine S.b1 ?_
                    refine S.b4 ?_
                    refine S.b4 ?_
                    refine S.b4 ?_
                    refine S.to ?_ (ih11 ((w64 (x15_11 + 1), true, x13_11), v13_11) h)
                    exact ⟨rfl, rfl, rfl, rfl, rfl, rfl, rfl, rfl, rfl, rfl, rfl, rfl, rfl, rfl, rfl, rfl, rfl, rfl, rfl, rfl, rfl, rfl, rfl, rfl, rfl, rfl, rfl, rfl, rfl, rfl, trivial⟩
                  · replace h := cond_f b315 h
                    refine S.condF rfl b315 ?_
                    refine S.region ?_
                    refine SO.v rfl (opv_move rfl) ?_
                    refine SO.v rfl (opv_move rfl) ?_
                    refine SO.v rfl (opv_move rfl) ?_
                    obtain ⟨x316, hx317, h⟩ := opt_bind h
                    obtain ⟨r318, hr319, hc320⟩ := relR.at hrel299 hx317
                    refine SO.v rfl (opv_idx Try.underlying26 Try.sizeOf35 hR300 rfl rfl hr319) ?_
                    obtain ⟨u321, hu322, hru323⟩ := hc320.sl 0 rfl
                    refine SO.loadI1 (j := 0) rfl Try.isAgg35 (Rd.head hR300) hr319 rfl rfl rfl hu322 ?_
                    refine SO.v rfl (opv_move rfl) ?_
                    obtain ⟨x324, hx325, h⟩ := opt_bind h
                    refine SO.v rfl (opv_idx Try.underlying35 Try.sizeOf3 hru323 rfl rfl hx325) ?_
                    refine SO.loadI1 (j := 0) rfl Try.isAgg3 (Rd.head (Rd.pool hru323)) hx325 rfl rfl rfl rfl ?_
                    refine SO.buildSlice (K := ekI .i64) (xs := [x324]) (cs := [.int .i64 x324]) rfl Try.underlying35 Try.sizeOf3 Try.zeroValue3 rfl rfl rfl (by kernel_rfl) rfl rfl rfl (fun v326 hr327 => ?_)
                    obtain ⟨zs328, hz329, h⟩ := opt_bind h
                    refine SO.b2 ?_
                    refine SO.append rfl Try.underlying35 inf3 rfl rfl rfl (by decide) rfl rfl rfl (Rd.head hr327) hz329 (fun v330 => ?_)
                    refine SO.rd fun hr331 => ?_
                    refine SO.v rfl (opv_assign rfl) ?_
                    refine SO.nil ?_
                    refine S.inBlock ?_
                    refine S.region ?_
                    refine SO.v rfl (opv_move rfl) ?_
                    refine SO.v rfl (opv_add rfl rfl) ?_
                    refine SO.v rfl (opv_assign rfl) ?_
                    refine SO.nil ?_
                    refine S.b2 ?_
                    refine S.closeR ?_
                    refine S.b2 ?_
                    refine S.drop ?_
                    refine S.b4 ?_
                    refine S.b1 ?_
                    refine S.b4 ?_
                    refine S.b4 ?_
                    refine S.b4 ?_
                    refine S.to ?_ (ih11 ((w64 (x15_11 + 1), x14_11, zs328), v330) h)
                    exact ⟨rfl, rfl, rfl, rfl, rfl, rfl, rfl, rfl, rfl, rfl, rfl, rfl, rfl, rfl, rfl, rfl, rfl, rfl, rfl, rfl, rfl, rfl, rfl, rfl, rfl, rfl, rfl, rfl, rfl, rfl, trivial⟩
                · replace h := cond_f b304 h
                  refine S.condF rfl b304 ?_
                  refine S.exit rfl ?_
                  cases h
                  refine S.closeR ?_
                  refine S.b4 ?_
                  refine S.b1 ?_
                  refine S.b4 ?_
                  refine S.b4 ?_
                  refine S.b4 ?_
                  refine S.to ?_ (hK11 v13_11)
                  exact ⟨rfl, rfl, rfl, rfl, rfl, rfl, rfl, rfl, rfl, rfl, rfl, rfl, rfl, rfl, rfl, rfl, rfl, rfl, rfl, rfl, rfl, rfl, rfl, rfl, rfl, rfl, rfl, rfl, rfl, rfl, rfl, rfl, rfl, rfl, rfl, rfl, trivial⟩
              rintro v13_e11
              refine S.rd fun hr332 => ?_
              refine S.seq ?_
              refine S.seq ?_
              refine S.region ?_
              refine SO.v rfl (opv_move rfl) ?_
              refine SO.v rfl (opv_iface Try.underlying25 rfl rfl) ?_
              refine SO.v rfl (opv_move rfl) ?_
              refine SO.v rfl (opv_fieldAddr Try.underlying28 rfl Try.sizeOf3 rfl rfl) ?_
              refine SO.b1 ?_
              refine SO.load1 rfl Try.isAgg3 rfl rfl ?_
              obtain ⟨⟨t333, s335⟩, ht334, h⟩ := opt_bind h
              refine SO.b2 ?_
              refine SO.call (pre := [(plainV v4).rep _]) rfl Try.call11 rfl rfl rfl (queue_Remove.ct (plainV v4) _ _ _ _ _ _ ht334) trivial ?_
              rintro _ _ ⟨rfl, rfl⟩
              refine headEq (plainV_rep _ _) ?_
              refine SO.rd fun hr336 => ?_
              refine SO.v rfl (opv_move rfl) ?_
              refine SO.v rfl (opv_neqB Try.underlying4 rfl rfl) ?_
              refine SO.nil ?_
              rcases bool_or (t333 != j14_e11) with b337 | b337
              · replace h := cond_t b337 h
                refine S.condT rfl b337 ?_
                refine S.seq ?_
                refine S.region ?_
                refine SO.v rfl (opv_assign rfl) ?_
                refine SO.nil ?_
                cases h
                replace h := Brk.of_ret hJ10
                cases h
                replace h := hK1.1 _ rfl
                cases h
                refine S.drop ?_
                refine S.drop ?_
                refine S.drop ?_
                refine S.drop ?_
                exact S.ret1 Try.func3 rfl rfl (fun w hs hk => hR w _ _ ⟨rfl, rfl⟩ hs hk)
              · replace h := cond_f b337 h
                refine S.condF rfl b337 ?_
                refine S.skip ?_
                refine S.region ?_
                refine SO.v rfl (opv_move rfl) ?_
                refine SO.v rfl (opv_move rfl) ?_
                refine SO.v rfl (opv_move rfl) ?_
                refine SO.b3 ?_
                refine SO.openR fun raws343 A344 hrel345 hR346 => ?_
                obtain ⟨x338, hx339, h⟩ := opt_bind h
                obtain ⟨r340, hr341, hc342⟩ := relR.at hrel345 hx339
                refine SO.v rfl (opv_idx Try.underlying26 Try.sizeOf35 hR346 rfl rfl hr341) ?_
                refine SO.b3 ?_
                refine SO.freeze hrel345 fun A347 hcov348 hru349 hrel350 hR351 => ?_
                refine SO.storeO1 (j := 0) (q := .sl (ekI .i64) j13_e11) (z' := j13_e11) Try.sizeOf35 hrel350 hx339 rfl rfl (Rd.one hru349) rfl rfl rfl hru349 (fun raws352 hrel353 hR354 => ?_)
                refine SO.nil ?_
                cases h
                refine S.closeR ?_
                refine S.b3 ?_
                refine S.b1 ?_
                refine S.b2 ?_
                refine S.b3 ?_
                refine S.to ?_ (hk10 ((s335, qv8_1.set t17.toNat j13_e11), ()) rfl)
                exact ⟨rfl, rfl, rfl, rfl, rfl, rfl, rfl, rfl, rfl, rfl, rfl, rfl, rfl, rfl, rfl, rfl, rfl, rfl, rfl, rfl, rfl, rfl, rfl, rfl, rfl, rfl, rfl, trivial⟩
          rintro ⟨⟨qv4_10, qv8_10⟩, _⟩ hq
          subst hq
          replace h := Brk.of_nx hJ10
          refine S.b1 ?_
          refine S.rd fun hr355 => ?_
          refine S.seq ?_
          refine S.seq ?_
          refine S.region ?_
          refine SO.v rfl (opv_assign rfl) ?_
          refine SO.nil ?_
          obtain ⟨o12, hl12, h⟩ := opt_bind h
          refine S.b3 ?_
          refine S.b3 ?_
          refine S.b3 ?_
          refine S.b3 ?_
          refine S.to (ρ' := [(16, .int .i64 0), (0, v0), (2, .bool false), (3, .bool t1), (4, v4), (5, v8), (6, .int .i64 x6_1), (7, bp b16 0), (8, .int .i64 t17), (9, .int .i64 t19), (27, .int .i64 x6_1), (28, v0), (29, .int .i64 (a0.length : Int)), (30, .bool (decide (x6_1 < (a0.length : Int)))), (33, v0), (34, .int .i64 x6_1), (35, idxp v0 (x6_1.toNat * ek_law14_Deed.sz)), (36, .agg #[.int .i64 x14.What, .int .i64 x14.Obj, .int .i64 x14.T]), (37, bp b16 1), (38, .int .i64 x14.Obj), (39, .int .i64 t17), (40, bp b16 0), (41, .int .i64 x14.What), (42, .int .i64 t19), (43, .int .i64 t19), (44, .bool (decide (t19 < 2))), (86, .int .i64 t19), (87, .bool (t19 == 2))]) ⟨rfl, rfl, rfl, rfl, rfl, rfl, rfl, rfl, rfl, rfl, rfl, rfl, rfl, rfl, rfl, rfl, rfl, rfl, rfl, rfl, rfl, rfl, rfl, rfl, rfl, rfl, rfl, rfl, trivial⟩ ?_
          refine S.forloop (X := (Int × (List Int)) × Unit) (O := Brk Bool (Int × Int × Bool × (List Int))) (fun m x => law14_QueuePlays.l12 qv8_10 m x.1) (fun x => match x with | ((x16_12, qv4_12), _) => [(16, .int .i64 x16_12), (0, v0), (2, .bool false), (3, .bool t1), (4, v4), (5, v8), (6, .int .i64 x6_1), (7, bp b16 0), (8, .int .i64 t17), (9, .int .i64 t19), (27, .int .i64 x6_1), (28, v0), (29, .int .i64 (a0.length : Int)), (30, .bool (decide (x6_1 < (a0.length : Int)))), (33, v0), (34, .int .i64 x6_1), (35, idxp v0 (x6_1.toNat * ek_law14_Deed.sz)), (36, .agg #[.int .i64 x14.What, .int .i64 x14.Obj, .int .i64 x14.T]), (37, bp b16 1), (38, .int .i64 x14.Obj), (39, .int .i64 t17), (40, bp b16 0), (41, .int .i64 x14.What), (42, .int .i64 t19), (43, .int .i64 t19), (44, .bool (decide (t19 < 2))), (86, .int .i64 t19), (87, .bool (t19 == 2))]) (fun x => match x with | ((x16_12, qv4_12), _) => [Own 40 (ekI .u64) v4 qv4_12, Box b16 [.int .i64 x14.What, .int .i64 x14.Obj, .int .i64 x14.T], OwnR 35 (krS (ekI .i64)) v8 qv8_10, F]) (fun Sk o' => (∀ r', o' = Brk.ret r' → some (Brk.ret r') = some o_1) ∧ ∀ j : (Int × Int × Bool × (List Int)), match j with | (j16_e12, j171_e12, j172_e12, qv4_e12) => ∀ _ : Unit, o' = Brk.nx (j16_e12, j171_e12, j172_e12, qv4_e12) → Sk [(0, v0), (2, .bool false), (3, .bool t1), (4, v4), (5, v8), (6, .int .i64 x6_1), (7, bp b16 0), (8, .int .i64 t17), (9, .int .i64 t19), (16, .int .i64 j16_e12), (27, .int .i64 x6_1), (28, v0), (29, .int .i64 (a0.length : Int)), (30, .bool (decide (x6_1 < (a0.length : Int)))), (33, v0), (34, .int .i64 x6_1), (35, idxp v0 (x6_1.toNat * ek_law14_Deed.sz)), (36, .agg #[.int .i64 x14.What, .int .i64 x14.Obj, .int .i64 x14.T]), (37, bp b16 1), (38, .int .i64 x14.Obj), (39, .int .i64 t17), (40, bp b16 0), (41, .int .i64 x14.What), (42, .int .i64 t19), (43, .int .i64 t19), (44, .bool (decide (t19 < 2))), (86, .int .i64 t19), (87, .bool (t19 == 2)), (171, .int .i64 j171_e12), (172, .bool j172_e12)] [Own 40 (ekI .u64) v4 qv4_e12, Box b16 [.int .i64 x14.What, .int .i64 x14.Obj, .int .i64 x14.T], OwnR 35 (krS (ekI .i64)) v8 qv8_10, F]) (fun _ => rfl) ?_ (m := k) (x := ((0, qv4_10), ())) hl12 ?_
          · clear h hl12
            intro k x o_12 h hK12 ih12
            obtain ⟨⟨x16_12, qv4_12⟩, _⟩ := x
            replace h : law14_QueuePlays.l12 qv8_10 (k + 1) (x16_12, qv4_12) = some o_12 := h
            first | rw [law14_QueuePlays.l12] at h | unfold law14_QueuePlays.l12 at h
            refine S.rd fun hr356 => ?_
            refine S.seq ?_
            refine S.seq ?_
            refine S.region ?_
            refine SO.v rfl (opv_move rfl) ?_
            refine SO.v rfl (opv_lss rfl rfl) ?_
            refine SO.nil ?_
            rcases bool_or (decide (x16_12 < 4)) with b357 | b357
            · replace h := cond_t b357 h
              refine S.condT rfl b357 ?_
              refine S.skip ?_
              refine S.seq ?_
              refine S.block ?_
              refine S.seq ?_
              refine S.region ?_
              refine SO.v rfl (opv_move rfl) ?_
              refine SO.v rfl (opv_iface Try.underlying25 rfl rfl) ?_
              refine SO.v rfl (opv_move rfl) ?_
              obtain ⟨⟨t358, s360⟩, ht359, h⟩ := opt_bind h
              refine SO.call (pre := [(plainV v4).rep _]) rfl Try.call12 rfl rfl rfl (queue_List.ct (plainV v4) _ _ _ _ _ ht359) trivial ?_
              rintro v361 _ ⟨_, rfl, rfl⟩
              refine SO.rd fun hr362 => ?_
              refine SO.b1 ?_
              refine headEq (plainV_rep _ _) ?_
              refine SO.rd fun hr363 => ?_
              refine SO.v rfl (opv_assign rfl) ?_
              refine SO.nil ?_
              refine S.seq ?_
              refine S.seq ?_
              refine S.region ?_
              refine SO.v rfl (opv_move rfl) ?_
              refine SO.v rfl (opv_lenR rfl Try.underlying35 hr362 rfl) ?_
              refine SO.v rfl (opv_move rfl) ?_
              refine SO.v rfl (opv_move rfl) ?_
              refine SO.b3 ?_
              refine SO.openR fun raws369 A370 hrel371 hR372 => ?_
              obtain ⟨x364, hx365, h⟩ := opt_bind h
              obtain ⟨r366, hr367, hc368⟩ := relR.at hrel371 hx365
              refine SO.v rfl (opv_idx Try.underlying26 Try.sizeOf35 hR372 rfl rfl hr367) ?_
              obtain ⟨u373, hu374, hru375⟩ := hc368.sl 0 rfl
              refine SO.loadI1 (j := 0) rfl Try.isAgg35 (Rd.head hR372) hr367 rfl rfl rfl hu374 ?_
              refine SO.v rfl (opv_lenR rfl Try.underlying35 hru375 rfl) ?_
              refine SO.v rfl (opv_neq rfl rfl) ?_
              refine SO.nil ?_
              rcases bool_or ((t358.length : Int) != (x364.length : Int)) with b376 | b376
              · replace h := cond_t b376 h
                refine S.condT rfl b376 ?_
                refine S.seq ?_
                refine S.region ?_
                refine SO.v rfl (opv_assign rfl) ?_
                refine SO.nil ?_
                cases h
                replace h := hK12.1 _ rfl
                cases h
                replace h := hK1.1 _ rfl
                cases h
                refine S.closeR ?_
                refine S.drop ?_
                refine S.drop ?_
                refine S.drop ?_
                refine S.drop ?_
                exact S.ret1 Try.func3 rfl rfl (fun w hs hk => hR w _ _ ⟨rfl, rfl⟩ hs hk)
              · replace h := cond_f b376 h
                refine S.condF rfl b376 ?_
                refine S.skip ?_
                refine S.seq ?_
                refine S.region ?_
                refine SO.v rfl (opv_assign rfl) ?_
                refine SO.nil ?_
                obtain ⟨o13, hl13, h⟩ := opt_bind h
                refine S.b4 ?_
                refine S.b4 ?_
                refine S.b4 ?_
                refine S.b4 ?_
                refine S.b4 ?_
                refine S.to (ρ' := [(18, .int .i64 0), (186, .bool ((t358.length : Int) != (x364.length : Int))), (185, .int .i64 (x364.length : Int)), (184, u373), (183, idxp v8 (x16_12.toNat * (krS (ekI .i64)).sz)), (182, .int .i64 x16_12), (181, v8), (180, .int .i64 (t358.length : Int)), (179, v361), (17, v361), (178, v361), (177, .int .i64 x16_12), (176, (plainV v4).val), (175, v4), (172, .bool (decide (x16_12 < 4))), (171, .int .i64 x16_12), (16, .int .i64 x16_12), (0, v0), (2, .bool false), (3, .bool t1), (4, v4), (5, v8), (6, .int .i64 x6_1), (7, bp b16 0), (8, .int .i64 t17), (9, .int .i64 t19), (27, .int .i64 x6_1), (28, v0), (29, .int .i64 (a0.length : Int)), (30, .bool (decide (x6_1 < (a0.length : Int)))), (33, v0), (34, .int .i64 x6_1), (35, idxp v0 (x6_1.toNat * ek_law14_Deed.sz)), (36, .agg #[.int .i64 x14.What, .int .i64 x14.Obj, .int .i64 x14.T]), (37, bp b16 1), (38, .int .i64 x14.Obj), (39, .int .i64 t17), (40, bp b16 0), (41, .int .i64 x14.What), (42, .int .i64 t19), (43, .int .i64 t19), (44, .bool (decide (t19 < 2))), (86, .int .i64 t19), (87, .bool (t19 == 2))]) ⟨rfl, rfl, rfl, rfl, rfl, rfl, rfl, rfl, rfl, rfl, rfl, rfl, rfl, rfl, rfl, rfl, rfl, rfl, rfl, rfl, rfl, rfl, rfl, rfl, rfl, rfl, rfl, rfl, rfl, rfl, rfl, rfl, rfl, rfl, rfl, rfl, rfl, rfl, rfl, rfl, rfl, rfl, rfl, rfl, trivial⟩ ?_
                refine S.forloop (X := Int × Unit) (O := Brk Bool (Int × Int × Bool)) (fun m x => law14_QueuePlays.l13 qv8_10 x16_12 t358 m x.1) (fun x => match x with | (x18_13, _) => [(18, .int .i64 x18_13), (186, .bool ((t358.length : Int) != (x364.length : Int))), (185, .int .i64 (x364.length : Int)), (184, u373), (183, idxp v8 (x16_12.toNat * (krS (ekI .i64)).sz)), (182, .int .i64 x16_12), (181, v8), (180, .int .i64 (t358.length : Int)), (179, v361), (17, v361), (178, v361), (177, .int .i64 x16_12), (176, (plainV v4).val), (175, v4), (172, .bool (decide (x16_12 < 4))), (171, .int .i64 x16_12), (16, .int .i64 x16_12), (0, v0), (2, .bool false), (3, .bool t1), (4, v4), (5, v8), (6, .int .i64 x6_1), (7, bp b16 0), (8, .int .i64 t17), (9, .int .i64 t19), (27, .int .i64 x6_1), (28, v0), (29, .int .i64 (a0.length : Int)), (30, .bool (decide (x6_1 < (a0.length : Int)))), (33, v0), (34, .int .i64 x6_1), (35, idxp v0 (x6_1.toNat * ek_law14_Deed.sz)), (36, .agg #[.int .i64 x14.What, .int .i64 x14.Obj, .int .i64 x14.T]), (37, bp b16 1), (38, .int .i64 x14.Obj), (39, .int .i64 t17), (40, bp b16 0), (41, .int .i64 x14.What), (42, .int .i64 t19), (43, .int .i64 t19), (44, .bool (decide (t19 < 2))), (86, .int .i64 t19), (87, .bool (t19 == 2))]) (fun x => match x with | (x18_13, _) => [OwnO 35 (krS (ekI .i64)) v8 raws369 A370 qv8_10, Own 40 (ekI .u64) v4 s360, Own 3 (ekI .i64) v361 t358, Box b16 [.int .i64 x14.What, .int .i64 x14.Obj, .int .i64 x14.T], F]) (fun Sk o' => (∀ r', o' = Brk.ret r' → some (Brk.ret r') = some o_12) ∧ ∀ j : (Int × Int × Bool), match j with | (j18_e13, j187_e13, j190_e13) => ∀ _ : Unit, o' = Brk.nx (j18_e13, j187_e13, j190_e13) → Sk [(0, v0), (2, .bool false), (3, .bool t1), (4, v4), (5, v8), (6, .int .i64 x6_1), (7, bp b16 0), (8, .int .i64 t17), (9, .int .i64 t19), (16, .int .i64 x16_12), (17, v361), (18, .int .i64 j18_e13), (27, .int .i64 x6_1), (28, v0), (29, .int .i64 (a0.length : Int)), (30, .bool (decide (x6_1 < (a0.length : Int)))), (33, v0), (34, .int .i64 x6_1), (35, idxp v0 (x6_1.toNat * ek_law14_Deed.sz)), (36, .agg #[.int .i64 x14.What, .int .i64 x14.Obj, .int .i64 x14.T]), (37, bp b16 1), (38, .int .i64 x14.Obj), (39, .int .i64 t17), (40, bp b16 0), (41, .int .i64 x14.What), (42, .int .i64 t19), (43, .int .i64 t19), (44, .bool (decide (t19 < 2))), (86, .int .i64 t19), (87, .bool (t19 == 2)), (171, .int .i64 x16_12), (172, .bool (decide (x16_12 < 4))), (175, v4), (176, (plainV v4).val), (177, .int .i64 x16_12), (178, v361), (179, v361), (180, .int .i64 (t358.length : Int)), (181, v8), (182, .int .i64 x16_12), (183, idxp v8 (x16_12.toNat * (krS (ekI .i64)).sz)), (184, u373), (185, .int .i64 (x364.length : Int)), (186, .bool ((t358.length : Int) != (x364.length : Int))), (187, .int .i64 j187_e13), (188, v361), (189, .int .i64 (t358.length : Int)), (190, .bool j190_e13)] [OwnO 35 (krS (ekI .i64)) v8 raws369 A370 qv8_10, Own 40 (ekI .u64) v4 s360, Own 3 (ekI .i64) v361 t358, Box b16 [.int .i64 x14.What, .int .i64 x14.Obj, .int .i64 x14.T], F]) (fun _ => rfl) ?_ (m := k) (x := (0, ())) hl13 ?_
                · clear h hl13
                  intro k x o_13 h hK13 ih13
                  obtain ⟨x18_13, _⟩ := x
                  replace h : law14_QueuePlays.l13 qv8_10 x16_12 t358 (k + 1) x18_13 = some o_13 := h
                  first | rw [law14_QueuePlays.l13] at h | unfold law14_QueuePlays.l13 at h
                  refine S.seq ?_
                  refine S.seq ?_
                  refine S.region ?_
                  refine SO.v rfl (opv_move rfl) ?_
                  refine SO.v rfl (opv_move rfl) ?_
                  refine SO.v rfl (opv_lenR rfl Try.underlying35 hr362 rfl) ?_
                  refine SO.v rfl (opv_lss rfl rfl) ?_
                  refine SO.nil ?_
                  rcases bool_or (decide (x18_13 < (t358.length : Int))) with b377 | b377
                  · replace h := cond_t b377 h
                    refine S.condT rfl b377 ?_
                    refine S.skip ?_
                    refine S.seq ?_
                    refine S.block ?_
                    refine S.seq ?_
                    obtain ⟨x378, hx379, h⟩ := opt_bind h
                    obtain ⟨x380, hx381, h⟩ := opt_bind h
                    obtain ⟨r382, hr383, hc384⟩ := relR.at hrel371 hx381
                    obtain ⟨u385, hu386, hru387⟩ := hc384.sl 0 rfl
                    obtain ⟨x388, hx389, h⟩ := opt_bind h
                    refine S.draw' (Z := fun Q => ∀ (_ : Unit) (_ : Unit) (_ : Unit) (_ : Unit) (_ : Unit) (_ : Unit) (_ : Unit) (_ : Unit) (_ : Unit) (_ : Unit) (_ : Unit) (_ : Unit) (_ : Unit) (_ : Unit) (_ : Unit) (_ : Unit) (_ : Unit) (_ : Unit) (_ : Unit) (_ : Unit) (_ : Unit) (_ : Unit), Q [(18, .int .i64 x18_13), (190, .bool (decide (x18_13 < (t358.length : Int)))), (189, .int .i64 (t358.length : Int)), (188, v361), (187, .int .i64 x18_13), (186, .bool ((t358.length : Int) != (x364.length : Int))), (185, .int .i64 (x364.length : Int)), (184, u373), (183, idxp v8 (x16_12.toNat * (krS (ekI .i64)).sz)), (182, .int .i64 x16_12), (181, v8), (180, .int .i64 (t358.length : Int)), (179, v361), (178, v361), (177, .int .i64 x16_12), (176, (plainV v4).val), (175, v4), (172, .bool (decide (x16_12 < 4))), (171, .int .i64 x16_12), (0, v0), (2, .bool false), (3, .bool t1), (4, v4), (6, .int .i64 x6_1), (7, bp b16 0), (8, .int .i64 t17), (9, .int .i64 t19), (27, .int .i64 x6_1), (28, v0), (29, .int .i64 (a0.length : Int)), (30, .bool (decide (x6_1 < (a0.length : Int)))), (33, v0), (34, .int .i64 x6_1), (35, idxp v0 (x6_1.toNat * ek_law14_Deed.sz)), (36, .agg #[.int .i64 x14.What, .int .i64 x14.Obj, .int .i64 x14.T]), (37, bp b16 1), (38, .int .i64 x14.Obj), (39, .int .i64 t17), (40, bp b16 0), (41, .int .i64 x14.What), (42, .int .i64 t19), (43, .int .i64 t19), (44, .bool (decide (t19 < 2))), (86, .int .i64 t19), (87, .bool (t19 == 2)), (17, v361), (16, .int .i64 x16_12), (5, v8), (193, v361), (194, .int .i64 x18_13), (195, idxp v361 (x18_13.toNat * (ekI .i64).sz)), (196, .int .i64 x378), (197, v8), (198, .int .i64 x16_12), (199, idxp v8 (x16_12.toNat * (krS (ekI .i64)).sz)), (200, u385), (201, .int .i64 x18_13), (202, idxp u385 (x18_13.toNat * (ekI .i64).sz)), (203, .int .i64 x388), (204, .bool (x378 != x388))] [OwnO 35 (krS (ekI .i64)) v8 raws369 A370 qv8_10, Own 40 (ekI .u64) v4 s360, Own 3 (ekI .i64) v361 t358, Box b16 [.int .i64 x14.What, .int .i64 x14.Obj, .int .i64 x14.T], F]) (T := [tS 17 (v361), tS 18 (.int .i64 x18_13), tS 5 (v8), tS 16 (.int .i64 x16_12), tE [(190, .bool (decide (x18_13 < (t358.length : Int)))), (189, .int .i64 (t358.length : Int)), (188, v361), (187, .int .i64 x18_13), (186, .bool ((t358.length : Int) != (x364.length : Int))), (185, .int .i64 (x364.length : Int)), (184, u373), (183, idxp v8 (x16_12.toNat * (krS (ekI .i64)).sz)), (182, .int .i64 x16_12), (181, v8), (180, .int .i64 (t358.length : Int)), (179, v361), (178, v361), (177, .int .i64 x16_12), (176, (plainV v4).val), (175, v4), (172, .bool (decide (x16_12 < 4))), (171, .int .i64 x16_12), (0, v0), (2, .bool false), (3, .bool t1), (4, v4), (6, .int .i64 x6_1), (7, bp b16 0), (8, .int .i64 t17), (9, .int .i64 t19), (27, .int .i64 x6_1), (28, v0), (29, .int .i64 (a0.length : Int)), (30, .bool (decide (x6_1 < (a0.length : Int)))), (33, v0), (34, .int .i64 x6_1), (35, idxp v0 (x6_1.toNat * ek_law14_Deed.sz)), (36, .agg #[.int .i64 x14.What, .int .i64 x14.Obj, .int .i64 x14.T]), (37, bp b16 1), (38, .int .i64 x14.Obj), (39, .int .i64 t17), (40, bp b16 0), (41, .int .i64 x14.What), (42, .int .i64 t19), (43, .int .i64 t19), (44, .bool (decide (t19 < 2))), (86, .int .i64 t19), (87, .bool (t19 == 2))], tR (OwnO 35 (krS (ekI .i64)) v8 raws369 A370 qv8_10), tR (Own 40 (ekI .u64) v4 s360), tR (Own 3 (ekI .i64) v361 t358), tR (Box b16 [.int .i64 x14.What, .int .i64 x14.Obj, .int .i64 x14.T]), tR (F), tS 193 (v361), tS 194 (.int .i64 x18_13), tS 195 (idxp v361 (x18_13.toNat * (ekI .i64).sz)), tS 196 (.int .i64 x378), tS 197 (v8), tS 198 (.int .i64 x16_12), tS 199 (idxp v8 (x16_12.toNat * (krS (ekI .i64)).sz)), tS 200 (u385), tS 201 (.int .i64 x18_13), tS 202 (idxp u385 (x18_13.toNat * (ekI .i64).sz)), tS 203 (.int .i64 x388), tS 204 (.bool (x378 != x388))]) (D := [⟨[0], [], [10]⟩, ⟨[1], [], [11]⟩, ⟨[10, 11, 7], [], [12]⟩, ⟨[12, 7], [], [13]⟩, ⟨[2], [], [14]⟩, ⟨[3], [], [15]⟩, ⟨[14, 15, 5], [], [16]⟩, ⟨[16, 5], [], [17]⟩, ⟨[1], [], [18]⟩, ⟨[17, 18, 5], [], [19]⟩, ⟨[19, 5], [], [20]⟩, ⟨[13, 20], [], [21]⟩]) (ini := [0, 1, 2, 3, 4, 5, 6, 7, 8, 9]) (fin := [1, 4, 0, 3, 2, 10, 11, 12, 13, 14, 15, 16, 17, 18, 19, 20, 21, 5, 6, 7, 8, 9]) (bf := [[], [], [0, 1], [0, 1, 2], [], [], [4, 5], [4, 5, 6], [], [4, 5, 6, 7, 8], [4, 5, 6, 7, 8, 9], [0, 1, 2, 3, 4, 5, 6, 7, 8, 9, 10]]) (by kernel_rfl) (by kernel_rfl) (fun x w h1 h2 => (.cons () (.cons () (.cons () (.cons () (.cons () (.cons () (.cons () (.cons () (.cons () (.cons () (.nil ⟨EnvAll.of h1 ⟨rfl, rfl, rfl, rfl, rfl, rfl, rfl, rfl, rfl, rfl, rfl, rfl, rfl, rfl, rfl, rfl, rfl, rfl, rfl, rfl, rfl, rfl, rfl, rfl, rfl, rfl, rfl, rfl, rfl, rfl, rfl, rfl, rfl, rfl, rfl, rfl, rfl, rfl, rfl, rfl, rfl, rfl, rfl, rfl, rfl, rfl, rfl, rfl, trivial⟩, h2⟩)))))))))))) (fun Q => by kernel_rfl) ⟨?_, ?_, ?_, ?_, ?_, ?_, ?_, ?_, ?_, ?_, ?_, ?_, trivial⟩ ?_
                    · rintro Fr _
                      refine SO.v rfl (opv_move rfl) ?_
                      exact SO.nilZ fun a w h1 h2 h3 h4 h5 => PZ.of h1 h3 h5 (.cons () (.cons () (.nil ⟨EnvAll.of h2 ⟨rfl, rfl, trivial⟩, h4⟩)))
                    · rintro Fr _
                      refine SO.v rfl (opv_move rfl) ?_
                      exact SO.nilZ fun a w h1 h2 h3 h4 h5 => PZ.of h1 h3 h5 (.cons () (.cons () (.nil ⟨EnvAll.of h2 ⟨rfl, rfl, trivial⟩, h4⟩)))
                    · rintro Fr _ _ _
                      refine SO.v rfl (opv_idx Try.underlying35 Try.sizeOf3 hr362 rfl rfl hx379) ?_
                      exact SO.nilZ fun a w h1 h2 h3 h4 h5 => PZ.of h1 h3 h5 (.cons () (.cons () (.cons () (.cons () (.nil ⟨EnvAll.of h2 ⟨rfl, rfl, rfl, trivial⟩, h4⟩)))))
                    · rintro Fr _ _
                      refine SO.loadI1 (j := 0) rfl Try.isAgg3 (Rd.head hr362) hx379 rfl rfl rfl rfl ?_
                      exact SO.nilZ fun a w h1 h2 h3 h4 h5 => PZ.of h1 h3 h5 (.cons () (.cons () (.cons () (.nil ⟨EnvAll.of h2 ⟨rfl, rfl, trivial⟩, h4⟩))))
                    · rintro Fr _
                      refine SO.v rfl (opv_move rfl) ?_
                      exact SO.nilZ fun a w h1 h2 h3 h4 h5 => PZ.of h1 h3 h5 (.cons () (.cons () (.nil ⟨EnvAll.of h2 ⟨rfl, rfl, trivial⟩, h4⟩)))
                    · rintro Fr _
                      refine SO.v rfl (opv_move rfl) ?_
                      exact SO.nilZ fun a w h1 h2 h3 h4 h5 => PZ.of h1 h3 h5 (.cons () (.cons () (.nil ⟨EnvAll.of h2 ⟨rfl, rfl, trivial⟩, h4⟩)))
                    · rintro Fr _ _ _
                      refine SO.v rfl (opv_idx Try.underlying26 Try.sizeOf35 hR372 rfl rfl hr383) ?_
                      exact SO.nilZ fun a w h1 h2 h3 h4 h5 => PZ.of h1 h3 h5 (.cons () (.cons () (.cons () (.cons () (.nil ⟨EnvAll.of h2 ⟨rfl, rfl, rfl, trivial⟩, h4⟩)))))
                    · rintro Fr _ _
                      refine SO.loadI1 (j := 0) rfl Try.isAgg35 (Rd.head hR372) hr383 rfl rfl rfl hu386 ?_
                      exact SO.nilZ fun a w h1 h2 h3 h4 h5 => PZ.of h1 h3 h5 (.cons () (.cons () (.cons () (.nil ⟨EnvAll.of h2 ⟨rfl, rfl, trivial⟩, h4⟩))))
                    · rintro Fr _
                      refine SO.v rfl (opv_move rfl) ?_
                      exact SO.nilZ fun a w h1 h2 h3 h4 h5 => PZ.of h1 h3 h5 (.cons () (.cons () (.nil ⟨EnvAll.of h2 ⟨rfl, rfl, trivial⟩, h4⟩)))
                    · rintro Fr _ _ _
                      refine SO.v rfl (opv_idx Try.underlying35 Try.sizeOf3 hru387 rfl rfl hx389) ?_
                      exact SO.nilZ fun a w h1 h2 h3 h4 h5 => PZ.of h1 h3 h5 (.cons () (.cons () (.cons () (.cons () (.nil ⟨EnvAll.of h2 ⟨rfl, rfl, rfl, trivial⟩, h4⟩)))))
                    · rintro Fr _ _
                      refine SO.loadI1 (j := 0) rfl Try.isAgg3 (Rd.head (Rd.pool hru387)) hx389 rfl rfl rfl rfl ?_
                      exact SO.nilZ fun a w h1 h2 h3 h4 h5 => PZ.of h1 h3 h5 (.cons () (.cons () (.cons () (.nil ⟨EnvAll.of h2 ⟨rfl, rfl, trivial⟩, h4⟩))))
                    · rintro Fr _ _
                      refine SO.v rfl (opv_neq rfl rfl) ?_
                      exact SO.nilZ fun a w h1 h2 h3 h4 h5 => PZ.of h1 h3 h5 (.cons () (.cons () (.cons () (.nil ⟨EnvAll.of h2 ⟨rfl, rfl, rfl, trivial⟩, h4⟩))))
                    rintro _ _ _ _ _ _ _ _ _ _ _ _ _ _ _ _ _ _ _ _ _ _
                    refine S.to (ρ' := [(18, .int .i64 x18_13), (190, .bool (decide (x18_13 < (t358.length : Int)))), (189, .int .i64 (t358.length : Int)), (188, v361), (187, .int .i64 x18_13), (186, .bool ((t358.length : Int) != (x364.length : Int))), (185, .int .i64 (x364.length : Int)), (184, u373), (183, idxp v8 (x16_12.toNat * (krS (ekI .i64)).sz)), (182, .int .i64 x16_12), (181, v8), (180, .int .i64 (t358.length : Int)), (179, v361), (178, v361), (177, .int .i64 x16_12), (176, (plainV v4).val), (175, v4), (172, .bool (decide (x16_12 < 4))), (171, .int .i64 x16_12), (0, v0), (2, .bool false), (3, .bool t1), (4, v4), (6, .int .i64 x6_1), (7, bp b16 0), (8, .int .i64 t17), (9, .int .i64 t19), (27, .int .i64 x6_1), (28, v0), (29, .int .i64 (a0.length : Int)), (30, .bool (decide (x6_1 < (a0.length : Int)))), (33, v0), (34, .int .i64 x6_1), (35, idxp v0 (x6_1.toNat * ek_law14_Deed.sz)), (36, .agg #[.int .i64 x14.What, .int .i64 x14.Obj, .int .i64 x14.T]), (37, bp b16 1), (38, .int .i64 x14.Obj), (39, .int .i64 t17), (40, bp b16 0), (41, .int .i64 x14.What), (42, .int .i64 t19), (43, .int .i64 t19), (44, .bool (decide (t19 < 2))), (86, .int .i64 t19), (87, .bool (t19 == 2)), (17, v361), (16, .int .i64 x16_12), (5, v8), (193, v361), (194, .int .i64 x18_13), (195, idxp v361 (x18_13.toNat * (ekI .i64).sz)), (196, .int .i64 x378), (197, v8), (198, .int .i64 x16_12), (199, idxp v8 (x16_12.toNat * (krS (ekI .i64)).sz)), (200, u385), (201, .int .i64 x18_13), (202, idxp u385 (x18_13.toNat * (ekI .i64).sz)), (203, .int .i64 x388), (204, .bool (x378 != x388))]) ⟨rfl, rfl, rfl, rfl, rfl, rfl, rfl, rfl, rfl, rfl, rfl, rfl, rfl, rfl, rfl, rfl, rfl, rfl, rfl, rfl, rfl, rfl, rfl, rfl, rfl, rfl, rfl, rfl, rfl, rfl, rfl, rfl, rfl, rfl, rfl, rfl, rfl, rfl, rfl, rfl, rfl, rfl, rfl, rfl, rfl, rfl, rfl, rfl, rfl, rfl, rfl, rfl, rfl, rfl, rfl, rfl, rfl, rfl, rfl, rfl, trivial⟩ ?_
                    rcases bool_or (x378 != x388) with b390 | b390
                    · replace h := cond_t b390 h
                      refine S.condT rfl b390 ?_
                      refine S.seq ?_
                      refine S.region ?_
                      refine SO.v rfl (opv_assign rfl) ?_
                      refine SO.nil ?_
                      cases h
                      replace h := hK13.1 _ rfl
                      cases h
                      replace h := hK12.1 _ rfl
                      cases h
                      replace h := hK1.1 _ rfl
                      cases h
                      refine S.closeR ?_
                      refine S.drop ?_
                      refine S.drop ?_
                      refine S.drop ?_
                      refine S.drop ?_
                      exact S.ret1 Try.func3 rfl rfl (fun w hs hk => hR w _ _ ⟨rfl, rfl⟩ hs hk)
                    · replace h := cond_f b390 h
                      refine S.condF rfl b390 ?_
                      refine S.skip ?_
                      refine S.inBlock ?_
                      refine S.region ?_
                      refine SO.v rfl (opv_move rfl) ?_
                      refine SO.v rfl (opv_add rfl rfl) ?_
                      refine SO.v rfl (opv_assign rfl) ?_
                      refine SO.nil ?_
                      refine S.b4 ?_
                      refine S.b4 ?_
                      refine S.b4 ?_
                      refine S.b4 ?_
                      refine S.b4 ?_
                      refine S.to ?_ (ih13 (w64 (x18_13 + 1), ()) h)
                      exact ⟨rfl, rfl, rfl, rfl, rfl, rfl, rfl, rfl, rfl, rfl, rfl, rfl, rfl, rfl, rfl, rfl, rfl, rfl, rfl, rfl, rfl, rfl, rfl, rfl, rfl, rfl, rfl, rfl, rfl, rfl, rfl, rfl, rfl, rfl, rfl, rfl, rfl, rfl, rfl, rfl, rfl, rfl, rfl, rfl, trivial⟩
                  · replace h := cond_f b377 h
                    refine S.condF rfl b377 ?_
                    refine S.exit rfl ?_
                    cases h
                    refine S.b4 ?_
                    refine S.b4 ?_
                    refine S.b4 ?_
                    refine S.b4 ?_
                    refine S.b4 ?_
                    refine S.to ?_ (hK13.2 (x18_13, x18_13, decide (x18_13 < (t358.length : Int))) () rfl)
                    exact ⟨rfl, rfl, rfl, rfl, rfl, rfl, rfl, rfl, rfl, rfl, rfl, rfl, rfl, rfl, rfl, rfl, rfl, rfl, rfl, rfl, rfl, rfl, rfl, rfl, rfl, rfl, rfl, rfl, rfl, rfl, rfl, rfl, rfl, rfl, rfl, rfl, rfl, rfl, rfl, rfl, rfl, rfl, rfl, rfl, rfl, rfl, rfl, rfl, trivial⟩
                refine ⟨fun r' e' => ?_, ?_⟩
                · subst e'
                  have h9 := Brk.of_ret h
                  exact h9
                rintro ⟨j18_e13, j187_e13, j190_e13⟩ _ e'
                subst e'
                replace h := Brk.of_nx h
                refine S.inBlock ?_
                refine S.region ?_
                refine SO.v rfl (opv_move rfl) ?_
                refine SO.v rfl (opv_add rfl rfl) ?_
                refine SO.v rfl (opv_assign rfl) ?_
                refine SO.nil ?_
                refine S.closeR ?_
                refine S.b2 ?_
                refine S.drop ?_
                refine S.b3 ?_
                refine S.b1 ?_
                refine S.b3 ?_
                refine S.b3 ?_
                refine S.to ?_ (ih12 ((w64 (x16_12 + 1), s360), ()) h)
                exact ⟨rfl, rfl, rfl, rfl, rfl, rfl, rfl, rfl, rfl, rfl, rfl, rfl, rfl, rfl, rfl, rfl, rfl, rfl, rfl, rfl, rfl, rfl, rfl, rfl, rfl, rfl, rfl, rfl, trivial⟩
            · replace h := cond_f b357 h
              refine S.condF rfl b357 ?_
              refine S.exit rfl ?_
              cases h
              refine S.b3 ?_
              refine S.b3 ?_
              refine S.b3 ?_
              refine S.b3 ?_
              refine S.to ?_ (hK12.2 (x16_12, x16_12, decide (x16_12 < 4), qv4_12) () rfl)
              exact ⟨rfl, rfl, rfl, rfl, rfl, rfl, rfl, rfl, rfl, rfl, rfl, rfl, rfl, rfl, rfl, rfl, rfl, rfl, rfl, rfl, rfl, rfl, rfl, rfl, rfl, rfl, rfl, rfl, rfl, rfl, trivial⟩
          refine ⟨fun r' e' => ?_, ?_⟩
          · subst e'
            have h9 := Brk.of_ret h
            exact h9
          rintro ⟨j16_e12, j171_e12, j172_e12, qv4_e12⟩ _ e'
          subst e'
          replace h := Brk.of_nx h
          refine S.rd fun hr391 => ?_
          refine S.seq ?_
          refine S.region ?_
          refine SO.v rfl (opv_assign rfl) ?_
          refine SO.nil ?_
          obtain ⟨o14, hl14, h⟩ := opt_bind h
          refine S.b3 ?_
          refine S.b3 ?_
          refine S.b3 ?_
          refine S.b3 ?_
          refine S.to (ρ' := [(19, .int .i64 4), (0, v0), (2, .bool false), (3, .bool t1), (4, v4), (5, v8), (6, .int .i64 x6_1), (7, bp b16 0), (8, .int .i64 t17), (9, .int .i64 t19), (16, .int .i64 j16_e12), (27, .int .i64 x6_1), (28, v0), (29, .int .i64 (a0.length : Int)), (30, .bool (decide (x6_1 < (a0.length : Int)))), (33, v0), (34, .int .i64 x6_1), (35, idxp v0 (x6_1.toNat * ek_law14_Deed.sz)), (36, .agg #[.int .i64 x14.What, .int .i64 x14.Obj, .int .i64 x14.T]), (37, bp b16 1), (38, .int .i64 x14.Obj), (39, .int .i64 t17), (40, bp b16 0), (41, .int .i64 x14.What), (42, .int .i64 t19), (43, .int .i64 t19), (44, .bool (decide (t19 < 2))), (86, .int .i64 t19), (87, .bool (t19 == 2)), (171, .int .i64 j171_e12), (172, .bool j172_e12)]) ⟨rfl, rfl, rfl, rfl, rfl, rfl, rfl, rfl, rfl, rfl, rfl, rfl, rfl, rfl, rfl, rfl, rfl, rfl, rfl, rfl, rfl, rfl, rfl, rfl, rfl, rfl, rfl, rfl, rfl, rfl, rfl, trivial⟩ ?_
          refine S.forloop (X := Int × Unit) (O := Brk Bool (Int × Int × Bool)) (fun m x => law14_QueuePlays.l14 qv8_10 qv4_e12 m x.1) (fun x => match x with | (x19_14, _) => [(19, .int .i64 x19_14), (0, v0), (2, .bool false), (3, .bool t1), (4, v4), (5, v8), (6, .int .i64 x6_1), (7, bp b16 0), (8, .int .i64 t17), (9, .int .i64 t19), (16, .int .i64 j16_e12), (27, .int .i64 x6_1), (28, v0), (29, .int .i64 (a0.length : Int)), (30, .bool (decide (x6_1 < (a0.length : Int)))), (33, v0), (34, .int .i64 x6_1), (35, idxp v0 (x6_1.toNat * ek_law14_Deed.sz)), (36, .agg #[.int .i64 x14.What, .int .i64 x14.Obj, .int .i64 x14.T]), (37, bp b16 1), (38, .int .i64 x14.Obj), (39, .int .i64 t17), (40, bp b16 0), (41, .int .i64 x14.What), (42, .int .i64 t19), (43, .int .i64 t19), (44, .bool (decide (t19 < 2))), (86, .int .i64 t19), (87, .bool (t19 == 2)), (171, .int .i64 j171_e12), (172, .bool j172_e12)]) (fun x => match x with | (x19_14, _) => [Own 40 (ekI .u64) v4 qv4_e12, Box b16 [.int .i64 x14.What, .int .i64 x14.Obj, .int .i64 x14.T], OwnR 35 (krS (ekI .i64)) v8 qv8_10, F]) (fun Sk o' => (∀ r', o' = Brk.ret r' → some (Brk.ret r') = some o_1) ∧ ∀ j : (Int × Int × Bool), match j with | (j19_e14, j205_e14, j206_e14) => ∀ _ : Unit, o' = Brk.nx (j19_e14, j205_e14, j206_e14) → Sk [(0, v0), (2, .bool false), (3, .bool t1), (4, v4), (5, v8), (6, .int .i64 x6_1), (7, bp b16 0), (8, .int .i64 t17), (9, .int .i64 t19), (16, .int .i64 j16_e12), (19, .int .i64 j19_e14), (27, .int .i64 x6_1), (28, v0), (29, .int .i64 (a0.length : Int)), (30, .bool (decide (x6_1 < (a0.length : Int)))), (33, v0), (34, .int .i64 x6_1), (35, idxp v0 (x6_1.toNat * ek_law14_Deed.sz)), (36, .agg #[.int .i64 x14.What, .int .i64 x14.Obj, .int .i64 x14.T]), (37, bp b16 1), (38, .int .i64 x14.Obj), (39, .int .i64 t17), (40, bp b16 0), (41, .int .i64 x14.What), (42, .int .i64 t19), (43, .int .i64 t19), (44, .bool (decide (t19 < 2))), (86, .int .i64 t19), (87, .bool (t19 == 2)), (171, .int .i64 j171_e12), (172, .bool j172_e12), (205, .int .i64 j205_e14), (206, .bool j206_e14)] [Own 40 (ekI .u64) v4 qv4_e12, Box b16 [.int .i64 x14.What, .int .i64 x14.Obj, .int .i64 x14.T], OwnR 35 (krS (ekI .i64)) v8 qv8_10, F]) (fun _ => rfl) ?_ (m := k) (x := (4, ())) hl14 ?_
          · clear h hl14
            intro k x o_14 h hK14 ih14
            obtain ⟨x19_14, _⟩ := x
            replace h : law14_QueuePlays.l14 qv8_10 qv4_e12 (k + 1) x19_14 = some o_14 := h
            first | rw [law14_QueuePlays.l14] at h | unfold law14_QueuePlays.l14 at h
            refine S.seq ?_
            refine S.seq ?_
            refine S.region ?_
            refine SO.v rfl (opv_move rfl) ?_
            refine SO.v rfl (opv_lss rfl rfl) ?_
            refine SO.nil ?_
            rcases bool_or (decide (x19_14 < 32)) with b392 | b392
            · replace h := cond_t b392 h
              refine S.condT rfl b392 ?_
              refine S.skip ?_
              refine S.seq ?_
              refine S.block ?_
              refine S.seq ?_
              refine S.region ?_
              refine SO.v rfl (opv_move rfl) ?_
              refine SO.v rfl (opv_move rfl) ?_
              obtain ⟨t397, ht398, h⟩ := opt_bind h
              refine SO.b2 ?_
              refine SO.openR fun raws393 A394 hrel395 hR396 => ?_
              refine SO.call (pre := []) rfl Try.call7 rfl rfl rfl (law14_in.ct _ v8 _ _ _ ht398) (Rd2.head (Rd2.ofO hrel395 hR396)) ?_
              rintro _ _ ⟨rfl, rfl⟩
              refine SO.v rfl (opv_not rfl) ?_
              refine SO.v rfl (opv_move rfl) ?_
              obtain ⟨c400, hc401, hgk⟩ := opt_bind h
              refine SO.cut 9 222 (.bool c400) [OwnO 35 (krS (ekI .i64)) v8 raws393 A394 qv8_10, Own 40 (ekI .u64) v4 qv4_e12, Box b16 [.int .i64 x14.What, .int .i64 x14.Obj, .int .i64 x14.T], F] (fun l2 hk2 => ?_) ?_
              · clear hgk
                replace h := hc401
                rcases bool_or (!t397) with b399 | b399
                · replace h := cond_t b399 h
                  refine SO.takeT rfl rfl rfl b399 ?_
                  refine SO.v rfl (opv_move rfl) ?_
                  refine SO.takeT rfl rfl rfl b399 ?_
                  refine SO.v rfl (opv_move rfl) ?_
                  refine SO.takeT rfl rfl rfl b399 ?_
                  refine SO.v rfl (opv_mul rfl rfl) ?_
                  refine SO.takeT rfl rfl rfl b399 ?_
                  refine SO.v rfl (opv_add rfl rfl) ?_
                  refine SO.takeT rfl rfl rfl b399 ?_
                  refine SO.v rfl (opv_add rfl rfl) ?_
                  refine SO.takeT rfl rfl rfl b399 ?_
                  obtain ⟨x402, hx403, h⟩ := opt_bind h
                  refine SO.v rfl (opv_idx Try.underlying25 Try.sizeOf40 hr391 rfl rfl hx403) ?_
                  refine SO.takeT rfl rfl rfl b399 ?_
                  refine SO.loadI1 (j := 0) rfl Try.isAgg40 (Rd.tail (Rd.head hr391)) hx403 rfl rfl rfl rfl ?_
                  refine SO.takeT rfl rfl rfl b399 ?_
                  refine SO.v rfl (opv_neq rfl rfl) ?_
                  cases h
                  refine SO.v rfl (opv_pick_t' b399 rfl rfl) ?_
                  refine SO.b3 ?_
                  refine SO.b3 ?_
                  refine SO.b3 ?_
                  refine SO.b3 ?_
                  exact hk2.fitc (m := 9) rfl (rfl) rfl
                · replace h := cond_f b399 h
                  refine SO.passF rfl rfl rfl b399 rfl rfl ?_
                  refine SO.passF rfl rfl rfl b399 rfl rfl ?_
                  refine SO.passF rfl rfl rfl b399 rfl rfl ?_
                  refine SO.passF rfl rfl rfl b399 rfl rfl ?_
                  refine SO.passF rfl rfl rfl b399 rfl rfl ?_
                  refine SO.passF rfl rfl rfl b399 rfl rfl ?_
                  refine SO.passF rfl rfl rfl b399 rfl rfl ?_
                  refine SO.passF rfl rfl rfl b399 rfl rfl ?_
                  cases h
                  refine SO.v rfl (opv_pick_f' b399 rfl rfl) ?_
                  refine SO.b3 ?_
                  refine SO.b3 ?_
                  refine SO.b3 ?_
                  refine SO.b3 ?_
                  exact hk2.fitc (m := 9) rfl (rfl) rfl
              clear hc401
              replace h := hgk
              refine SO.nil ?_
              rcases bool_or c400 with b404 | b404
              · replace h := cond_t b404 h
                refine S.condT rfl b404 ?_
                refine S.seq ?_
                refine S.region ?_
                refine SO.v rfl (opv_assign rfl) ?_
                refine SO.nil ?_
                cases h
                replace h := hK14.1 _ rfl
                cases h
                replace h := hK1.1 _ rfl
                cases h
                refine S.closeR ?_
                refine S.drop ?_
                refine S.drop ?_
                refine S.drop ?_
                exact S.ret1 Try.func3 rfl rfl (fun w hs hk => hR w _ _ ⟨rfl, rfl⟩ hs hk)
              · replace h := cond_f b404 h
                refine S.condF rfl b404 ?_
                refine S.skip ?_
                refine S.inBlock ?_
                refine S.region ?_
                refine SO.v rfl (opv_move rfl) ?_
                refine SO.v rfl (opv_add rfl rfl) ?_
                refine SO.v rfl (opv_assign rfl) ?_
                refine SO.nil ?_
                refine S.closeR ?_
                refine S.b3 ?_
                refine S.b1 ?_
                refine S.b3 ?_
                refine S.b3 ?_
                refine S.to ?_ (ih14 (w64 (x19_14 + 1), ()) h)
                exact ⟨rfl, rfl, rfl, rfl, rfl, rfl, rfl, rfl, rfl, rfl, rfl, rfl, rfl, rfl, rfl, rfl, rfl, rfl, rfl, rfl, rfl, rfl, rfl, rfl, rfl, rfl, rfl, rfl, rfl, rfl, rfl, trivial⟩
            · replace h := cond_f b392 h
              refine S.condF rfl b392 ?_
              refine S.exit rfl ?_
              cases h
              refine S.b3 ?_
              refine S.b3 ?_
              refine S.b3 ?_
              refine S.b3 ?_
              refine S.to ?_ (hK14.2 (x19_14, x19_14, decide (x19_14 < 32)) () rfl)
              exact ⟨rfl, rfl, rfl, rfl, rfl, rfl, rfl, rfl, rfl, rfl, rfl, rfl, rfl, rfl, rfl, rfl, rfl, rfl, rfl, rfl, rfl, rfl, rfl, rfl, rfl, rfl, rfl, rfl, rfl, rfl, rfl, rfl, rfl, trivial⟩
          refine ⟨fun r' e' => ?_, ?_⟩
          · subst e'
            have h9 := Brk.of_ret h
            exact h9
          rintro ⟨j19_e14, j205_e14, j206_e14⟩ _ e'
          subst e'
          replace h := Brk.of_nx h
          refine S.inBlock ?_
          refine S.region ?_
          refine SO.v rfl (opv_move rfl) ?_
          refine SO.v rfl (opv_add rfl rfl) ?_
          refine SO.v rfl (opv_assign rfl) ?_
          refine SO.nil ?_
          refine S.b1 ?_
          refine S.drop ?_
          refine S.b2 ?_
          refine S.b1 ?_
          refine S.b2 ?_
          refine S.to ?_ (ih1 ((w64 (x6_1 + 1), qv4_e12, qv8_10), ()) h)
          exact ⟨rfl, rfl, rfl, rfl, rfl, rfl, trivial⟩
      · replace h := cond_f b13 h
        refine S.condF rfl b13 ?_
        refine S.exit rfl ?_
        cases h
        refine S.b2 ?_
        refine S.b1 ?_
        refine S.b2 ?_
        refine S.to ?_ (hK1.2 (qv8_1, qv4_1) () rfl)
        exact ⟨rfl, rfl, trivial⟩
    refine ⟨fun r' e' => ?_, ?_⟩
    · subst e'
      have h9 := Brk.of_ret h
      exact h9
    rintro ⟨qv8_e1, qv4_e1⟩ _ e'
    subst e'
    replace h := Brk.of_nx h
    refine S.b1 ?_
    refine S.rd fun hr405 => ?_
    refine S.seq ?_
    refine S.region ?_
    refine SO.v rfl (opv_move rfl) ?_
    refine SO.v rfl (opv_assign rfl) ?_
    refine SO.nil ?_
    cases h
    refine S.drop ?_
    refine S.drop ?_
    exact S.ret1 Try.func3 rfl rfl (fun w hs hk => hR w _ _ ⟨rfl, rfl⟩ hs hk)
end Go.Proofs
