/- What the functions that TcbLeaves reaches come to, and that they do. On no condition. -/
import Derived.Test.YtoccfjmgbcbbkaaFnTcbLeaves0
import Derived.Test.YtoccfjmgbcbbkaaFnTcbLeaves2
set_option linter.all false
namespace Go.Proofs
open Go.Sl Go.RowKit
/-! 53 (*padstone/padstoneref10.State).Cancel -/
def ref10_State_Cancel.f (k : Nat) (a0 : ref10_State) (a1 : Int) : Option (ref10_State) :=
  (at_ a0.Objs a1).bind fun x1 => (bif x1.State == 4 then (bif decide (0 ≤ x1.Owing) then ((at_ a0.Objs x1.Owing).bind fun x16 => (at_ (a0.Objs.set x1.Owing.toNat ({ x16 with Owes := -1 } : ref10_Obj)) a1).bind fun x24 => some (a0.Slots, (a0.Objs.set x1.Owing.toNat ({ x16 with Owes := -1 } : ref10_Obj)).set a1.toNat ({ x24 with Owing := -1 } : ref10_Obj), a0.NS, a0.NO)) else ((at_ a0.Objs a1).bind fun x36 => some (a0.Slots, a0.Objs.set a1.toNat ({ x36 with Owing := -1 } : ref10_Obj), a0.NS, a0.NO))) else (bif decide (0 ≤ x1.On) then ((at_ a0.Objs x1.On).bind fun x49 => (ref10_without.f k x49.Queue a1).bind fun t57 => (at_ a0.Objs x1.On).bind fun x61 => (at_ (a0.Objs.set x1.On.toNat ({ x61 with Queue := t57 } : ref10_Obj)) x1.On).bind fun x79 => bif x79.Kind == 3 then ((ref10_State_rest.f ({ a0 with Objs := a0.Objs.set x1.On.toNat ({ x61 with Queue := t57 } : ref10_Obj) } : ref10_State) x1.On).bind fun p85 => some (p85.Slots, p85.Objs, p85.NS, p85.NO)) else (some (a0.Slots, a0.Objs.set x1.On.toNat ({ x61 with Queue := t57 } : ref10_Obj), a0.NS, a0.NO))) else (some (a0.Slots, a0.Objs, a0.NS, a0.NO)))).bind fun (yp0_0_1, yp0_1_1, yp0_2_1, yp0_3_1) => (at_ yp0_1_1 a1).bind fun x89 => (at_ (yp0_1_1.set a1.toNat ({ x89 with State := 0 } : ref10_Obj)) a1).bind fun x101 => some (⟨yp0_0_1, (yp0_1_1.set a1.toNat ({ x89 with State := 0 } : ref10_Obj)).set a1.toNat ({ x101 with On := -1 } : ref10_Obj), yp0_2_1, yp0_3_1⟩ : ref10_State)
set_option maxHeartbeats 8000000 in
set_option maxRecDepth 100000 in
theorem ref10_State_Cancel.ct (k : Nat) (bp0 : Nat) (v0_Slots : Value) (v0_Objs : Value) (a0 : ref10_State) (a1 : Int) (rp0 : ref10_State) (h : ref10_State_Cancel.f k a0 a1 = some rp0) :
    Ct Try.prog 53 [bp bp0 0, .int .i64 a1] (fun _ => True) [Box bp0 [v0_Slots, v0_Objs, .int .i64 a0.NS, .int .i64 a0.NO], OwnR 81 kr_ref10_Slot v0_Slots a0.Slots, OwnR 72 kr_ref10_Obj v0_Objs a0.Objs] (fun u H' => ∃ rw0_Slots rw0_Objs, u = .tuple #[] ∧ H' = [Box bp0 [rw0_Slots, rw0_Objs, .int .i64 rp0.NS, .int .i64 rp0.NO], OwnR 81 kr_ref10_Slot rw0_Slots rp0.Slots, OwnR 72 kr_ref10_Obj rw0_Objs rp0.Objs]) := by
  unfold ref10_State_Cancel.f at h
  refine Ct.intro (n := 83) Try.func53 rfl rfl rfl ?_
  intro R w0 F hF hR
  refine S.seq ?_
  refine S.region ?_
  refine SO.v rfl (opv_move rfl) ?_
  refine SO.v rfl (opv_nilCheck rfl) ?_
  refine SO.v rfl (opv_fieldAddr Try.underlying76 rfl Try.sizeOf74 rfl rfl) ?_
  refine SO.load1 rfl Try.isAgg74 rfl rfl ?_
  refine SO.v rfl (opv_move rfl) ?_
  refine SO.b2 ?_
  refine SO.openR fun raws6 A7 hrel8 hR9 => ?_
  obtain ⟨x1, hx2, h⟩ := opt_bind h
  obtain ⟨r3, hr4, hc5⟩ := relR.at hrel8 hx2
  refine SO.v rfl (opv_idx Try.underlying74 Try.sizeOf72 hR9 rfl rfl hr4) ?_
  refine hc5.rip fun u10 hru11 e12 => ?_
  refine SO.loadIN rfl Try.isAgg72 Try.sizeOf72 (Rd.head hR9) hr4 rfl rfl e12 ?_
  refine SO.alloc rfl Try.zeroValue72 rfl (fun b13 => ?_)
  refine SO.storeN Try.sizeOf72 rfl rfl (all1 rfl (all1 rfl (all1 rfl (all1 rfl (all1 rfl (all1 rfl (all1 (Rd.one hru11) (all1 rfl (all1 rfl (all1 rfl (all1 rfl (all1 rfl (all1 rfl (all1 rfl (all1 rfl (all1 rfl (all1 rfl (all1 rfl (all1 rfl (all1 rfl (all1 rfl (all1 rfl (all1 rfl (all1 rfl (all1 rfl (all1 rfl (all1 rfl (all1 rfl (all1 rfl (all1 rfl (all1 rfl (all1 rfl rfl)))))))))))))))))))))))))))))))) rfl rfl rfl ?_
  refine SO.nil ?_
  refine S.to (ρ' := [(0, bp bp0 0), (1, .int .i64 a1), (4, bp b13 0)]) ⟨rfl, rfl, rfl, trivial⟩ ?_
  refine S.seq ?_
  refine S.seq ?_
  refine S.region ?_
  refine SO.v rfl (opv_fieldAddr Try.underlying72 rfl Try.sizeOf3 rfl rfl) ?_
  refine SO.load1 rfl Try.isAgg3 rfl rfl ?_
  refine SO.v rfl (opv_eql rfl rfl) ?_
  refine SO.nil ?_
  obtain ⟨⟨yp0_0_1, yp0_1_1, yp0_2_1, yp0_3_1⟩, hC1, hJ1⟩ := opt_bind h
  clear h
  refine S.cutP (G := (Value × Value)) (fun _ => True) (fun x => match x with | (vyp0_0_1, vyp0_1_1) => [(0, bp bp0 0), (1, .int .i64 a1)]) (fun x => match x with | (vyp0_0_1, vyp0_1_1) => [OwnR 72 kr_ref10_Obj vyp0_1_1 yp0_1_1, OwnR 81 kr_ref10_Slot vyp0_0_1 yp0_0_1, Box b13 [.int .i64 x1.Kind, .int .i64 x1.Size, .int .i64 x1.Used, .int .i64 x1.First, .int .i64 x1.Radix, .int .i64 x1.Wait, u10, .int .i64 x1.Word, .int .i64 x1.State, .int .i64 x1.Owing, .int .i64 x1.Badge, .int .i64 x1.Prio, .int .i64 x1.On, .int .i64 x1.Owes, .int .i64 x1.Root.Kind, .int .i64 x1.Root.Rights, .int .i64 x1.Root.Obj, .int .i64 x1.Root.Badge, .int .i64 x1.Root.Guard, .int .i64 x1.Root.Bits, .int .i64 x1.Pages.a0, .int .i64 x1.Pages.a1, .int .i64 x1.Pages.a2, .int .i64 x1.Pages.a3, .int .i64 x1.Right.a0, .int .i64 x1.Right.a1, .int .i64 x1.Right.a2, .int .i64 x1.Right.a3, .int .i64 x1.In, .int .i64 x1.Page, .int .i64 x1.Bound, .int .i64 x1.Mask], Box bp0 [vyp0_0_1, vyp0_1_1, .int .i64 yp0_2_1, .int .i64 yp0_3_1], F]) (fun hk1 => ?_) ?_
  · replace h := hC1
    rcases bool_or (x1.State == 4) with b14 | b14
    · replace h := cond_t b14 h
      refine S.condT rfl b14 ?_
      refine S.seq ?_
      refine S.seq ?_
      refine S.region ?_
      refine SO.v rfl (opv_fieldAddr Try.underlying72 rfl Try.sizeOf3 rfl rfl) ?_
      refine SO.load1 rfl Try.isAgg3 rfl rfl ?_
      refine SO.v rfl (opv_geq rfl rfl) ?_
      refine SO.nil ?_
      rcases bool_or (decide (0 ≤ x1.Owing)) with b15 | b15
      · replace h := cond_t b15 h
        refine S.condT rfl b15 ?_
        obtain ⟨x16, hx17, h⟩ := opt_bind h
        obtain ⟨r18, hr19, hc20⟩ := relR.at hrel8 hx17
        refine S.draw' (Z := fun Q => ∀ (_ : Unit) (_ : Unit) (_ : Unit) (_ : Unit) (_ : Unit) (_ : Unit) (_ : Unit), Q [(0, bp bp0 0), (1, .int .i64 a1)] [Box b13 [.int .i64 x1.Kind, .int .i64 x1.Size, .int .i64 x1.Used, .int .i64 x1.First, .int .i64 x1.Radix, .int .i64 x1.Wait, u10, .int .i64 x1.Word, .int .i64 x1.State, .int .i64 x1.Owing, .int .i64 x1.Badge, .int .i64 x1.Prio, .int .i64 x1.On, .int .i64 x1.Owes, .int .i64 x1.Root.Kind, .int .i64 x1.Root.Rights, .int .i64 x1.Root.Obj, .int .i64 x1.Root.Badge, .int .i64 x1.Root.Guard, .int .i64 x1.Root.Bits, .int .i64 x1.Pages.a0, .int .i64 x1.Pages.a1, .int .i64 x1.Pages.a2, .int .i64 x1.Pages.a3, .int .i64 x1.Right.a0, .int .i64 x1.Right.a1, .int .i64 x1.Right.a2, .int .i64 x1.Right.a3, .int .i64 x1.In, .int .i64 x1.Page, .int .i64 x1.Bound, .int .i64 x1.Mask], OwnR 72 kr_ref10_Obj v0_Objs (a0.Objs.set x1.Owing.toNat ({ x16 with Owes := -1 } : ref10_Obj)), Box bp0 [v0_Slots, v0_Objs, .int .i64 a0.NS, .int .i64 a0.NO], OwnR 81 kr_ref10_Slot v0_Slots a0.Slots, F]) (T := [tS 0 (bp bp0 0), tS 4 (bp b13 0), tS 1 (.int .i64 a1), tR (Box b13 [.int .i64 x1.Kind, .int .i64 x1.Size, .int .i64 x1.Used, .int .i64 x1.First, .int .i64 x1.Radix, .int .i64 x1.Wait, u10, .int .i64 x1.Word, .int .i64 x1.State, .int .i64 x1.Owing, .int .i64 x1.Badge, .int .i64 x1.Prio, .int .i64 x1.On, .int .i64 x1.Owes, .int .i64 x1.Root.Kind, .int .i64 x1.Root.Rights, .int .i64 x1.Root.Obj, .int .i64 x1.Root.Badge, .int .i64 x1.Root.Guard, .int .i64 x1.Root.Bits, .int .i64 x1.Pages.a0, .int .i64 x1.Pages.a1, .int .i64 x1.Pages.a2, .int .i64 x1.Pages.a3, .int .i64 x1.Right.a0, .int .i64 x1.Right.a1, .int .i64 x1.Right.a2, .int .i64 x1.Right.a3, .int .i64 x1.In, .int .i64 x1.Page, .int .i64 x1.Bound, .int .i64 x1.Mask]), tR (OwnO 72 kr_ref10_Obj v0_Objs raws6 A7 a0.Objs), tR (Box bp0 [v0_Slots, v0_Objs, .int .i64 a0.NS, .int .i64 a0.NO]), tR (OwnR 81 kr_ref10_Slot v0_Slots a0.Slots), tR (F), tS 18 (bp bp0 0), tS 19 (bp bp0 0), tS 20 (bp bp0 1), tS 21 (v0_Objs), tS 22 (bp b13 9), tS 23 (.int .i64 x1.Owing), tS 24 (idxp v0_Objs (x1.Owing.toNat * kr_ref10_Obj.sz)), tS 25 (idxp v0_Objs (x1.Owing.toNat * kr_ref10_Obj.sz + 13)), tR (OwnR 72 kr_ref10_Obj v0_Objs (a0.Objs.set x1.Owing.toNat ({ x16 with Owes := -1 } : ref10_Obj)))]) (D := [⟨[0], [], [8]⟩, ⟨[8], [], [9]⟩, ⟨[9], [], [10]⟩, ⟨[10, 5], [], [11]⟩, ⟨[1], [], [12]⟩, ⟨[12, 3], [], [13]⟩, ⟨[11, 13, 4], [], [14]⟩, ⟨[14, 4], [], [15]⟩, ⟨[15], [4], [16]⟩]) (ini := [0, 1, 2, 3, 4, 5, 6, 7]) (fin := [0, 2, 3, 16, 5, 6, 7]) (bf := [[], [0], [0, 1], [0, 1, 2], [], [4], [0, 1, 2, 3, 4, 5], [0, 1, 2, 3, 4, 5, 6], [0, 1, 2, 3, 4, 5, 6, 7]]) (by kernel_rfl) (by kernel_rfl) (fun x w h1 h2 => (.cons () (.cons () (.cons () (.cons () (.cons () (.cons () (.cons () (.cons () (.nil ⟨EnvAll.of h1 ⟨rfl, rfl, rfl, trivial⟩, h2⟩)))))))))) (fun Q => by kernel_rfl) ⟨?_, ?_, ?_, ?_, ?_, ?_, ?_, ?_, ?_, trivial⟩ ?_
        · rintro Fr _
          refine SO.v rfl (opv_move rfl) ?_
          exact SO.nilZ fun a w h1 h2 h3 h4 h5 => PZ.of h1 h3 h5 (.cons () (.cons () (.nil ⟨EnvAll.of h2 ⟨rfl, rfl, trivial⟩, h4⟩)))
        · rintro Fr _
          refine SO.v rfl (opv_nilCheck rfl) ?_
          exact SO.nilZ fun a w h1 h2 h3 h4 h5 => PZ.of h1 h3 h5 (.cons () (.cons () (.nil ⟨EnvAll.of h2 ⟨rfl, rfl, trivial⟩, h4⟩)))
        · rintro Fr _
          refine SO.v rfl (opv_fieldAddr Try.underlying76 rfl Try.sizeOf74 rfl rfl) ?_
          exact SO.nilZ fun a w h1 h2 h3 h4 h5 => PZ.of h1 h3 h5 (.cons () (.cons () (.nil ⟨EnvAll.of h2 ⟨rfl, rfl, trivial⟩, h4⟩)))
        · rintro Fr _ _
          refine SO.load1 rfl Try.isAgg74 rfl rfl ?_
          exact SO.nilZ fun a w h1 h2 h3 h4 h5 => PZ.of h1 h3 h5 (.cons () (.cons () (.cons () (.nil ⟨EnvAll.of h2 ⟨rfl, rfl, trivial⟩, h4⟩))))
        · rintro Fr _
          refine SO.v rfl (opv_fieldAddr Try.underlying72 rfl Try.sizeOf3 rfl rfl) ?_
          exact SO.nilZ fun a w h1 h2 h3 h4 h5 => PZ.of h1 h3 h5 (.cons () (.cons () (.nil ⟨EnvAll.of h2 ⟨rfl, rfl, trivial⟩, h4⟩)))
        · rintro Fr _ _
          refine SO.load1 rfl Try.isAgg3 rfl rfl ?_
          exact SO.nilZ fun a w h1 h2 h3 h4 h5 => PZ.of h1 h3 h5 (.cons () (.cons () (.cons () (.nil ⟨EnvAll.of h2 ⟨rfl, rfl, trivial⟩, h4⟩))))
        · rintro Fr _ _ _
          refine SO.v rfl (opv_idx Try.underlying74 Try.sizeOf72 hR9 rfl rfl hr19) ?_
          exact SO.nilZ fun a w h1 h2 h3 h4 h5 => PZ.of h1 h3 h5 (.cons () (.cons () (.cons () (.cons () (.nil ⟨EnvAll.of h2 ⟨rfl, rfl, rfl, trivial⟩, h4⟩)))))
        · rintro Fr _ _
          refine SO.v rfl (opv_fieldIdx Try.underlying72 rfl Try.sizeOf3 hR9 hr19 rfl rfl) ?_
          exact SO.nilZ fun a w h1 h2 h3 h4 h5 => PZ.of h1 h3 h5 (.cons () (.cons () (.cons () (.nil ⟨EnvAll.of h2 ⟨rfl, rfl, trivial⟩, h4⟩))))
        · rintro Fr _ _
          refine SO.storeO1 (j := 13) (q := .val (.int .i64 (-1))) (z' := ({ x16 with Owes := -1 } : ref10_Obj)) Try.sizeOf3 hrel8 hx17 rfl rfl rfl rfl rfl rfl rfl (fun raws21 hrel22 hR23 => ?_)
          refine SO.closeR ?_
          exact SO.nilZ fun a w h1 h2 h3 h4 h5 => PZ.of h1 h3 h5 (.cons () (.cons () (.nil ⟨EnvAll.of h2 ⟨rfl, trivial⟩, h4⟩)))
        rintro _ _ _ _ _ _ _
        refine S.to (ρ' := [(0, bp bp0 0), (1, .int .i64 a1)]) ⟨rfl, rfl, trivial⟩ ?_
        refine S.region ?_
        refine SO.v rfl (opv_move rfl) ?_
        refine SO.v rfl (opv_nilCheck rfl) ?_
        refine SO.v rfl (opv_fieldAddr Try.underlying76 rfl Try.sizeOf74 rfl rfl) ?_
        refine SO.b2 ?_
        refine SO.load1 rfl Try.isAgg74 rfl rfl ?_
        refine SO.v rfl (opv_move rfl) ?_
        refine SO.b2 ?_
        refine SO.openR fun raws29 A30 hrel31 hR32 => ?_
        obtain ⟨x24, hx25, h⟩ := opt_bind h
        obtain ⟨r26, hr27, hc28⟩ := relR.at hrel31 hx25
        refine SO.v rfl (opv_idx Try.underlying74 Try.sizeOf72 hR32 rfl rfl hr27) ?_
        refine SO.v rfl (opv_fieldIdx Try.underlying72 rfl Try.sizeOf3 hR32 hr27 rfl rfl) ?_
        refine SO.storeO1 (j := 9) (q := .val (.int .i64 (-1))) (z' := ({ x24 with Owing := -1 } : ref10_Obj)) Try.sizeOf3 hrel31 hx25 rfl rfl rfl rfl rfl rfl rfl (fun raws33 hrel34 hR35 => ?_)
        refine SO.nil ?_
        refine S.to (ρ' := [(0, bp bp0 0), (1, .int .i64 a1)]) ⟨rfl, rfl, trivial⟩ ?_
        cases h
        refine S.closeR ?_
        refine S.b4 ?_
        refine S.b2 ?_
        refine S.b3 ?_
        refine S.b4 ?_
        refine S.b4 ?_
        refine S.to ?_ (hk1 (v0_Slots, v0_Objs) trivial)
        exact ⟨rfl, rfl, trivial⟩
      · replace h := cond_f b15 h
        refine S.condF rfl b15 ?_
        refine S.skip ?_
        refine S.region ?_
        refine SO.v rfl (opv_move rfl) ?_
        refine SO.v rfl (opv_nilCheck rfl) ?_
        refine SO.v rfl (opv_fieldAddr Try.underlying76 rfl Try.sizeOf74 rfl rfl) ?_
        refine SO.b2 ?_
        refine SO.load1 rfl Try.isAgg74 rfl rfl ?_
        refine SO.v rfl (opv_move rfl) ?_
        obtain ⟨x36, hx37, h⟩ := opt_bind h
        obtain ⟨r38, hr39, hc40⟩ := relR.at hrel8 hx37
        refine SO.v rfl (opv_idx Try.underlying74 Try.sizeOf72 hR9 rfl rfl hr39) ?_
        refine SO.v rfl (opv_fieldIdx Try.underlying72 rfl Try.sizeOf3 hR9 hr39 rfl rfl) ?_
        refine SO.b2 ?_
        refine SO.storeO1 (j := 9) (q := .val (.int .i64 (-1))) (z' := ({ x36 with Owing := -1 } : ref10_Obj)) Try.sizeOf3 hrel8 hx37 rfl rfl rfl rfl rfl rfl rfl (fun raws41 hrel42 hR43 => ?_)
        refine SO.nil ?_
        refine S.to (ρ' := [(0, bp bp0 0), (1, .int .i64 a1)]) ⟨rfl, rfl, trivial⟩ ?_
        cases h
        refine S.closeR ?_
        refine S.b4 ?_
        refine S.b2 ?_
        refine S.b3 ?_
        refine S.b4 ?_
        refine S.b4 ?_
        refine S.to ?_ (hk1 (v0_Slots, v0_Objs) trivial)
        exact ⟨rfl, rfl, trivial⟩
    · replace h := cond_f b14 h
      refine S.condF rfl b14 ?_
      refine S.seq ?_
      refine S.region ?_
      refine SO.v rfl (opv_fieldAddr Try.underlying72 rfl Try.sizeOf3 rfl rfl) ?_
      refine SO.load1 rfl Try.isAgg3 rfl rfl ?_
      refine SO.v rfl (opv_geq rfl rfl) ?_
      refine SO.nil ?_
      rcases bool_or (decide (0 ≤ x1.On)) with b44 | b44
      · replace h := cond_t b44 h
        refine S.condT rfl b44 ?_
        refine S.seq ?_
        refine S.b3 ?_
        refine S.openR fun raws45 A46 hrel47 hR48 => ?_
        obtain ⟨x49, hx50, h⟩ := opt_bind h
        obtain ⟨r51, hr52, hc53⟩ := relR.at hrel8 hx50
        obtain ⟨u54, hu55, hru56⟩ := hc53.sl 6 rfl
        obtain ⟨t57, ht58, h⟩ := opt_bind h
        obtain ⟨x61, hx62, h⟩ := opt_bind h
        obtain ⟨r63, hr64, hc65⟩ := relR.at hrel8 hx62
        refine S.draw' (Z := fun Q => ∀ (_ : Unit) (_ : Unit) (_ : Unit) (_ : Unit) (_ : Unit) (_ : Unit) (_ : Unit) (_ : Unit), Q [(0, bp bp0 0), (1, .int .i64 a1), (4, bp b13 0)] [OwnO 81 kr_ref10_Slot v0_Slots raws45 A46 a0.Slots, Box b13 [.int .i64 x1.Kind, .int .i64 x1.Size, .int .i64 x1.Used, .int .i64 x1.First, .int .i64 x1.Radix, .int .i64 x1.Wait, u10, .int .i64 x1.Word, .int .i64 x1.State, .int .i64 x1.Owing, .int .i64 x1.Badge, .int .i64 x1.Prio, .int .i64 x1.On, .int .i64 x1.Owes, .int .i64 x1.Root.Kind, .int .i64 x1.Root.Rights, .int .i64 x1.Root.Obj, .int .i64 x1.Root.Badge, .int .i64 x1.Root.Guard, .int .i64 x1.Root.Bits, .int .i64 x1.Pages.a0, .int .i64 x1.Pages.a1, .int .i64 x1.Pages.a2, .int .i64 x1.Pages.a3, .int .i64 x1.Right.a0, .int .i64 x1.Right.a1, .int .i64 x1.Right.a2, .int .i64 x1.Right.a3, .int .i64 x1.In, .int .i64 x1.Page, .int .i64 x1.Bound, .int .i64 x1.Mask], OwnR 72 kr_ref10_Obj v0_Objs (a0.Objs.set x1.On.toNat ({ x61 with Queue := t57 } : ref10_Obj)), Box bp0 [v0_Slots, v0_Objs, .int .i64 a0.NS, .int .i64 a0.NO], F]) (T := [tS 0 (bp bp0 0), tS 4 (bp b13 0), tS 1 (.int .i64 a1), tR (OwnO 81 kr_ref10_Slot v0_Slots raws45 A46 a0.Slots), tR (Box b13 [.int .i64 x1.Kind, .int .i64 x1.Size, .int .i64 x1.Used, .int .i64 x1.First, .int .i64 x1.Radix, .int .i64 x1.Wait, u10, .int .i64 x1.Word, .int .i64 x1.State, .int .i64 x1.Owing, .int .i64 x1.Badge, .int .i64 x1.Prio, .int .i64 x1.On, .int .i64 x1.Owes, .int .i64 x1.Root.Kind, .int .i64 x1.Root.Rights, .int .i64 x1.Root.Obj, .int .i64 x1.Root.Badge, .int .i64 x1.Root.Guard, .int .i64 x1.Root.Bits, .int .i64 x1.Pages.a0, .int .i64 x1.Pages.a1, .int .i64 x1.Pages.a2, .int .i64 x1.Pages.a3, .int .i64 x1.Right.a0, .int .i64 x1.Right.a1, .int .i64 x1.Right.a2, .int .i64 x1.Right.a3, .int .i64 x1.In, .int .i64 x1.Page, .int .i64 x1.Bound, .int .i64 x1.Mask]), tR (OwnO 72 kr_ref10_Obj v0_Objs raws6 A7 a0.Objs), tR (Box bp0 [v0_Slots, v0_Objs, .int .i64 a0.NS, .int .i64 a0.NO]), tR (F), tS 36 (bp bp0 0), tS 37 (bp bp0 0), tS 38 (bp bp0 1), tS 39 (v0_Objs), tS 40 (bp b13 12), tS 41 (.int .i64 x1.On), tS 42 (bp bp0 0), tS 43 (bp bp0 0), tS 44 (bp bp0 1), tS 45 (v0_Objs), tS 46 (bp b13 12), tS 47 (.int .i64 x1.On), tS 48 (idxp v0_Objs (x1.On.toNat * kr_ref10_Obj.sz)), tS 49 (idxp v0_Objs (x1.On.toNat * kr_ref10_Obj.sz + 6)), tS 50 (u54), tS 51 (.int .i64 a1), ⟨Value, [52], (fun v59 => [(52, v59)]), (fun v59 => [Own 3 (ekI .i64) v59 t57]), fun _ => rfl⟩, tS 53 (idxp v0_Objs (x1.On.toNat * kr_ref10_Obj.sz)), tS 54 (idxp v0_Objs (x1.On.toNat * kr_ref10_Obj.sz + 6)), tR (OwnR 72 kr_ref10_Obj v0_Objs (a0.Objs.set x1.On.toNat ({ x61 with Queue := t57 } : ref10_Obj)))]) (D := [⟨[0], [], [8]⟩, ⟨[8], [], [9]⟩, ⟨[9], [], [10]⟩, ⟨[10, 6], [], [11]⟩, ⟨[1], [], [12]⟩, ⟨[12, 4], [], [13]⟩, ⟨[0], [], [14]⟩, ⟨[14], [], [15]⟩, ⟨[15], [], [16]⟩, ⟨[16, 6], [], [17]⟩, ⟨[1], [], [18]⟩, ⟨[18, 4], [], [19]⟩, ⟨[17, 19, 5], [], [20]⟩, ⟨[20, 5], [], [21]⟩, ⟨[21, 5], [], [22]⟩, ⟨[2], [], [23]⟩, ⟨[22, 23, 5], [], [24]⟩, ⟨[11, 13, 5], [], [25]⟩, ⟨[25, 5], [], [26]⟩, ⟨[26], [24, 5], [27]⟩]) (ini := [0, 1, 2, 3, 4, 5, 6, 7]) (fin := [0, 2, 1, 3, 4, 27, 6, 7]) (bf := [[], [0], [0, 1], [0, 1, 2], [], [4], [], [6], [6, 7], [6, 7, 8], [], [10], [6, 7, 8, 9, 10, 11], [6, 7, 8, 9, 10, 11, 12], [6, 7, 8, 9, 10, 11, 12, 13], [], [6, 7, 8, 9, 10, 11, 12, 13, 14, 15], [0, 1, 2, 3, 4, 5, 6, 7, 8, 9, 10, 11, 12, 13, 14, 15, 16], [0, 1, 2, 3, 4, 5, 6, 7, 8, 9, 10, 11, 12, 13, 14, 15, 16, 17], [0, 1, 2, 3, 4, 5, 6, 7, 8, 9, 10, 11, 12, 13, 14, 15, 16, 17, 18]]) (by kernel_rfl) (by kernel_rfl) (fun x w h1 h2 => (.cons () (.cons () (.cons () (.cons () (.cons () (.cons () (.cons () (.cons () (.nil ⟨EnvAll.of h1 ⟨rfl, rfl, rfl, trivial⟩, h2⟩)))))))))) (fun Q => by kernel_rfl) ⟨?_, ?_, ?_, ?_, ?_, ?_, ?_, ?_, ?_, ?_, ?_, ?_, ?_, ?_, ?_, ?_, ?_, ?_, ?_, ?_, trivial⟩ ?_
        · rintro Fr _
          refine SO.v rfl (opv_move rfl) ?_
          exact SO.nilZ fun a w h1 h2 h3 h4 h5 => PZ.of h1 h3 h5 (.cons () (.cons () (.nil ⟨EnvAll.of h2 ⟨rfl, rfl, trivial⟩, h4⟩)))
        · rintro Fr _
          refine SO.v rfl (opv_nilCheck rfl) ?_
          exact SO.nilZ fun a w h1 h2 h3 h4 h5 => PZ.of h1 h3 h5 (.cons () (.cons () (.nil ⟨EnvAll.of h2 ⟨rfl, rfl, trivial⟩, h4⟩)))
        · rintro Fr _
          refine SO.v rfl (opv_fieldAddr Try.underlying76 rfl Try.sizeOf74 rfl rfl) ?_
          exact SO.nilZ fun a w h1 h2 h3 h4 h5 => PZ.of h1 h3 h5 (.cons () (.cons () (.nil ⟨EnvAll.of h2 ⟨rfl, rfl, trivial⟩, h4⟩)))
        · rintro Fr _ _
          refine SO.load1 rfl Try.isAgg74 rfl rfl ?_
          exact SO.nilZ fun a w h1 h2 h3 h4 h5 => PZ.of h1 h3 h5 (.cons () (.cons () (.cons () (.nil ⟨EnvAll.of h2 ⟨rfl, rfl, trivial⟩, h4⟩))))
        · rintro Fr _
          refine SO.v rfl (opv_fieldAddr Try.underlying72 rfl Try.sizeOf3 rfl rfl) ?_
          exact SO.nilZ fun a w h1 h2 h3 h4 h5 => PZ.of h1 h3 h5 (.cons () (.cons () (.nil ⟨EnvAll.of h2 ⟨rfl, rfl, trivial⟩, h4⟩)))
        · rintro Fr _ _
          refine SO.load1 rfl Try.isAgg3 rfl rfl ?_
          exact SO.nilZ fun a w h1 h2 h3 h4 h5 => PZ.of h1 h3 h5 (.cons () (.cons () (.cons () (.nil ⟨EnvAll.of h2 ⟨rfl, rfl, trivial⟩, h4⟩))))
        · rintro Fr _
          refine SO.v rfl (opv_move rfl) ?_
          exact SO.nilZ fun a w h1 h2 h3 h4 h5 => PZ.of h1 h3 h5 (.cons () (.cons () (.nil ⟨EnvAll.of h2 ⟨rfl, rfl, trivial⟩, h4⟩)))
        · rintro Fr _
          refine SO.v rfl (opv_nilCheck rfl) ?_
          exact SO.nilZ fun a w h1 h2 h3 h4 h5 => PZ.of h1 h3 h5 (.cons () (.cons () (.nil ⟨EnvAll.of h2 ⟨rfl, rfl, trivial⟩, h4⟩)))
        · rintro Fr _
          refine SO.v rfl (opv_fieldAddr Try.underlying76 rfl Try.sizeOf74 rfl rfl) ?_
          exact SO.nilZ fun a w h1 h2 h3 h4 h5 => PZ.of h1 h3 h5 (.cons () (.cons () (.nil ⟨EnvAll.of h2 ⟨rfl, rfl, trivial⟩, h4⟩)))
        · rintro Fr _ _
          refine SO.load1 rfl Try.isAgg74 rfl rfl ?_
          exact SO.nilZ fun a w h1 h2 h3 h4 h5 => PZ.of h1 h3 h5 (.cons () (.cons () (.cons () (.nil ⟨EnvAll.of h2 ⟨rfl, rfl, trivial⟩, h4⟩))))
        · rintro Fr _
          refine SO.v rfl (opv_fieldAddr Try.underlying72 rfl Try.sizeOf3 rfl rfl) ?_
          exact SO.nilZ fun a w h1 h2 h3 h4 h5 => PZ.of h1 h3 h5 (.cons () (.cons () (.nil ⟨EnvAll.of h2 ⟨rfl, rfl, trivial⟩, h4⟩)))
        · rintro Fr _ _
          refine SO.load1 rfl Try.isAgg3 rfl rfl ?_
          exact SO.nilZ fun a w h1 h2 h3 h4 h5 => PZ.of h1 h3 h5 (.cons () (.cons () (.cons () (.nil ⟨EnvAll.of h2 ⟨rfl, rfl, trivial⟩, h4⟩))))
        · rintro Fr _ _ _
          refine SO.v rfl (opv_idx Try.underlying74 Try.sizeOf72 hR9 rfl rfl hr52) ?_
          exact SO.nilZ fun a w h1 h2 h3 h4 h5 => PZ.of h1 h3 h5 (.cons () (.cons () (.cons () (.cons () (.nil ⟨EnvAll.of h2 ⟨rfl, rfl, rfl, trivial⟩, h4⟩)))))
        · rintro Fr _ _
          refine SO.v rfl (opv_fieldIdx Try.underlying72 rfl Try.sizeOf29 hR9 hr52 rfl rfl) ?_
          exact SO.nilZ fun a w h1 h2 h3 h4 h5 => PZ.of h1 h3 h5 (.cons () (.cons () (.cons () (.nil ⟨EnvAll.of h2 ⟨rfl, rfl, trivial⟩, h4⟩))))
        · rintro Fr _ _
          refine SO.loadI1 (j := 6) rfl Try.isAgg29 (Rd.head hR9) hr52 rfl rfl rfl hu55 ?_
          exact SO.nilZ fun a w h1 h2 h3 h4 h5 => PZ.of h1 h3 h5 (.cons () (.cons () (.cons () (.nil ⟨EnvAll.of h2 ⟨rfl, rfl, trivial⟩, h4⟩))))
        · rintro Fr _
          refine SO.v rfl (opv_move rfl) ?_
          exact SO.nilZ fun a w h1 h2 h3 h4 h5 => PZ.of h1 h3 h5 (.cons () (.cons () (.nil ⟨EnvAll.of h2 ⟨rfl, rfl, trivial⟩, h4⟩)))
        · rintro Fr _ _ _
          refine SO.call (pre := []) rfl Try.call69 rfl rfl rfl (ref10_without.ct _ u54 _ _ _ ht58) (Rd.head (Rd.pool hru56)) ?_
          rintro v59 _ ⟨_, rfl, rfl⟩
          refine SO.rd fun hr60 => ?_
          refine SO.b1 ?_
          exact SO.nilZ fun a w h1 h2 h3 h4 h5 => PZ.of h1 h3 h5 (.cons () (.cons () (.cons () (.cons v59 (.nil ⟨EnvAll.of h2 ⟨rfl, rfl, rfl, trivial⟩, h4⟩)))))
        · rintro Fr _ _ _
          refine SO.v rfl (opv_idx Try.underlying74 Try.sizeOf72 hR9 rfl rfl hr64) ?_
          exact SO.nilZ fun a w h1 h2 h3 h4 h5 => PZ.of h1 h3 h5 (.cons () (.cons () (.cons () (.cons () (.nil ⟨EnvAll.of h2 ⟨rfl, rfl, rfl, trivial⟩, h4⟩)))))
        · rintro Fr _ _
          refine SO.v rfl (opv_fieldIdx Try.underlying72 rfl Try.sizeOf29 hR9 hr64 rfl rfl) ?_
          exact SO.nilZ fun a w h1 h2 h3 h4 h5 => PZ.of h1 h3 h5 (.cons () (.cons () (.cons () (.nil ⟨EnvAll.of h2 ⟨rfl, rfl, trivial⟩, h4⟩))))
        · rintro Fr _ v59 _
          refine SO.rd fun hr66 => ?_
          refine SO.b1 ?_
          refine SO.b1 ?_
          refine SO.freeze hrel8 fun A67 hcov68 hru69 hrel70 hR71 => ?_
          refine SO.storeO1 (j := 6) (q := .sl (ekI .i64) t57) (z' := ({ x61 with Queue := t57 } : ref10_Obj)) Try.sizeOf29 hrel70 hx62 rfl rfl (Rd.one hru69) rfl rfl rfl hru69 (fun raws72 hrel73 hR74 => ?_)
          refine SO.closeR ?_
          exact SO.nilZ fun a w h1 h2 h3 h4 h5 => PZ.of h1 h3 h5 (.cons () (.cons () (.nil ⟨EnvAll.of h2 ⟨rfl, trivial⟩, h4⟩)))
        rintro _ _ _ _ _ _ _ _
        refine S.to (ρ' := [(0, bp bp0 0), (1, .int .i64 a1), (4, bp b13 0)]) ⟨rfl, rfl, rfl, trivial⟩ ?_
        refine S.seq ?_
        refine S.b2 ?_
        refine S.openR fun raws75 A76 hrel77 hR78 => ?_
        obtain ⟨x79, hx80, h⟩ := opt_bind h
        obtain ⟨r81, hr82, hc83⟩ := relR.at hrel77 hx80
        refine S.draw' (Z := fun Q => ∀ (_ : Unit) (_ : Unit) (_ : Unit) (_ : Unit) (_ : Unit) (_ : Unit) (_ : Unit) (_ : Unit) (_ : Unit), Q [(0, bp bp0 0), (1, .int .i64 a1), (4, bp b13 0), (64, .bool (x79.Kind == 3))] [OwnO 72 kr_ref10_Obj v0_Objs raws75 A76 (a0.Objs.set x1.On.toNat ({ x61 with Queue := t57 } : ref10_Obj)), OwnO 81 kr_ref10_Slot v0_Slots raws45 A46 a0.Slots, Box b13 [.int .i64 x1.Kind, .int .i64 x1.Size, .int .i64 x1.Used, .int .i64 x1.First, .int .i64 x1.Radix, .int .i64 x1.Wait, u10, .int .i64 x1.Word, .int .i64 x1.State, .int .i64 x1.Owing, .int .i64 x1.Badge, .int .i64 x1.Prio, .int .i64 x1.On, .int .i64 x1.Owes, .int .i64 x1.Root.Kind, .int .i64 x1.Root.Rights, .int .i64 x1.Root.Obj, .int .i64 x1.Root.Badge, .int .i64 x1.Root.Guard, .int .i64 x1.Root.Bits, .int .i64 x1.Pages.a0, .int .i64 x1.Pages.a1, .int .i64 x1.Pages.a2, .int .i64 x1.Pages.a3, .int .i64 x1.Right.a0, .int .i64 x1.Right.a1, .int .i64 x1.Right.a2, .int .i64 x1.Right.a3, .int .i64 x1.In, .int .i64 x1.Page, .int .i64 x1.Bound, .int .i64 x1.Mask], Box bp0 [v0_Slots, v0_Objs, .int .i64 a0.NS, .int .i64 a0.NO], F]) (T := [tS 0 (bp bp0 0), tS 4 (bp b13 0), tS 1 (.int .i64 a1), tR (OwnO 72 kr_ref10_Obj v0_Objs raws75 A76 (a0.Objs.set x1.On.toNat ({ x61 with Queue := t57 } : ref10_Obj))), tR (OwnO 81 kr_ref10_Slot v0_Slots raws45 A46 a0.Slots), tR (Box b13 [.int .i64 x1.Kind, .int .i64 x1.Size, .int .i64 x1.Used, .int .i64 x1.First, .int .i64 x1.Radix, .int .i64 x1.Wait, u10, .int .i64 x1.Word, .int .i64 x1.State, .int .i64 x1.Owing, .int .i64 x1.Badge, .int .i64 x1.Prio, .int .i64 x1.On, .int .i64 x1.Owes, .int .i64 x1.Root.Kind, .int .i64 x1.Root.Rights, .int .i64 x1.Root.Obj, .int .i64 x1.Root.Badge, .int .i64 x1.Root.Guard, .int .i64 x1.Root.Bits, .int .i64 x1.Pages.a0, .int .i64 x1.Pages.a1, .int .i64 x1.Pages.a2, .int .i64 x1.Pages.a3, .int .i64 x1.Right.a0, .int .i64 x1.Right.a1, .int .i64 x1.Right.a2, .int .i64 x1.Right.a3, .int .i64 x1.In, .int .i64 x1.Page, .int .i64 x1.Bound, .int .i64 x1.Mask]), tR (Box bp0 [v0_Slots, v0_Objs, .int .i64 a0.NS, .int .i64 a0.NO]), tR (F), tS 55 (bp bp0 0), tS 56 (bp bp0 0), tS 57 (bp bp0 1), tS 58 (v0_Objs), tS 59 (bp b13 12), tS 60 (.int .i64 x1.On), tS 61 (idxp v0_Objs (x1.On.toNat * kr_ref10_Obj.sz)), tS 62 (idxp v0_Objs (x1.On.toNat * kr_ref10_Obj.sz)), tS 63 (.int .i64 x79.Kind), tS 64 (.bool (x79.Kind == 3))]) (D := [⟨[0], [], [8]⟩, ⟨[8], [], [9]⟩, ⟨[9], [], [10]⟩, ⟨[10, 6], [], [11]⟩, ⟨[1], [], [12]⟩, ⟨[12, 5], [], [13]⟩, ⟨[11, 13, 3], [], [14]⟩, ⟨[14, 3], [], [15]⟩, ⟨[15, 3], [], [16]⟩, ⟨[16], [], [17]⟩]) (ini := [0, 1, 2, 3, 4, 5, 6, 7]) (fin := [0, 2, 1, 17, 3, 4, 5, 6, 7]) (bf := [[], [0], [0, 1], [0, 1, 2], [], [4], [0, 1, 2, 3, 4, 5], [0, 1, 2, 3, 4, 5, 6], [0, 1, 2, 3, 4, 5, 6, 7], [0, 1, 2, 3, 4, 5, 6, 7, 8]]) (by kernel_rfl) (by kernel_rfl) (fun x w h1 h2 => (.cons () (.cons () (.cons () (.cons () (.cons () (.cons () (.cons () (.cons () (.nil ⟨EnvAll.of h1 ⟨rfl, rfl, rfl, trivial⟩, h2⟩)))))))))) (fun Q => by kernel_rfl) ⟨?_, ?_, ?_, ?_, ?_, ?_, ?_, ?_, ?_, ?_, trivial⟩ ?_
        · rintro Fr _
          refine SO.v rfl (opv_move rfl) ?_
          exact SO.nilZ fun a w h1 h2 h3 h4 h5 => PZ.of h1 h3 h5 (.cons () (.cons () (.nil ⟨EnvAll.of h2 ⟨rfl, rfl, trivial⟩, h4⟩)))
        · rintro Fr _
          refine SO.v rfl (opv_nilCheck rfl) ?_
          exact SO.nilZ fun a w h1 h2 h3 h4 h5 => PZ.of h1 h3 h5 (.cons () (.cons () (.nil ⟨EnvAll.of h2 ⟨rfl, rfl, trivial⟩, h4⟩)))
        · rintro Fr _
          refine SO.v rfl (opv_fieldAddr Try.underlying76 rfl Try.sizeOf74 rfl rfl) ?_
          exact SO.nilZ fun a w h1 h2 h3 h4 h5 => PZ.of h1 h3 h5 (.cons () (.cons () (.nil ⟨EnvAll.of h2 ⟨rfl, rfl, trivial⟩, h4⟩)))
        · rintro Fr _ _
          refine SO.load1 rfl Try.isAgg74 rfl rfl ?_
          exact SO.nilZ fun a w h1 h2 h3 h4 h5 => PZ.of h1 h3 h5 (.cons () (.cons () (.cons () (.nil ⟨EnvAll.of h2 ⟨rfl, rfl, trivial⟩, h4⟩))))
        · rintro Fr _
          refine SO.v rfl (opv_fieldAddr Try.underlying72 rfl Try.sizeOf3 rfl rfl) ?_
          exact SO.nilZ fun a w h1 h2 h3 h4 h5 => PZ.of h1 h3 h5 (.cons () (.cons () (.nil ⟨EnvAll.of h2 ⟨rfl, rfl, trivial⟩, h4⟩)))
        · rintro Fr _ _
          refine SO.load1 rfl Try.isAgg3 rfl rfl ?_
          exact SO.nilZ fun a w h1 h2 h3 h4 h5 => PZ.of h1 h3 h5 (.cons () (.cons () (.cons () (.nil ⟨EnvAll.of h2 ⟨rfl, rfl, trivial⟩, h4⟩))))
        · rintro Fr _ _ _
          refine SO.v rfl (opv_idx Try.underlying74 Try.sizeOf72 hR78 rfl rfl hr82) ?_
          exact SO.nilZ fun a w h1 h2 h3 h4 h5 => PZ.of h1 h3 h5 (.cons () (.cons () (.cons () (.cons () (.nil ⟨EnvAll.of h2 ⟨rfl, rfl, rfl, trivial⟩, h4⟩)))))
        · rintro Fr _ _
          refine SO.v rfl (opv_fieldIdx Try.underlying72 rfl Try.sizeOf3 hR78 hr82 rfl rfl) ?_
          exact SO.nilZ fun a w h1 h2 h3 h4 h5 => PZ.of h1 h3 h5 (.cons () (.cons () (.cons () (.nil ⟨EnvAll.of h2 ⟨rfl, rfl, trivial⟩, h4⟩))))
        · rintro Fr _ _
          refine SO.loadI1 (j := 0) rfl Try.isAgg3 (Rd.head hR78) hr82 rfl rfl rfl (hc83.val rfl) ?_
          exact SO.nilZ fun a w h1 h2 h3 h4 h5 => PZ.of h1 h3 h5 (.cons () (.cons () (.cons () (.nil ⟨EnvAll.of h2 ⟨rfl, rfl, trivial⟩, h4⟩))))
        · rintro Fr _
          refine SO.v rfl (opv_eql rfl rfl) ?_
          exact SO.nilZ fun a w h1 h2 h3 h4 h5 => PZ.of h1 h3 h5 (.cons () (.cons () (.nil ⟨EnvAll.of h2 ⟨rfl, rfl, trivial⟩, h4⟩)))
        rintro _ _ _ _ _ _ _ _ _
        refine S.to (ρ' := [(0, bp bp0 0), (1, .int .i64 a1), (4, bp b13 0), (64, .bool (x79.Kind == 3))]) ⟨rfl, rfl, rfl, rfl, trivial⟩ ?_
        rcases bool_or (x79.Kind == 3) with b84 | b84
        · replace h := cond_t b84 h
          refine S.condT rfl b84 ?_
          refine S.region ?_
          refine SO.v rfl (opv_move rfl) ?_
          refine SO.v rfl (opv_fieldAddr Try.underlying72 rfl Try.sizeOf3 rfl rfl) ?_
          refine SO.b2 ?_
          refine SO.load1 rfl Try.isAgg3 rfl rfl ?_
          obtain ⟨p85, ht86, h⟩ := opt_bind h
          refine SO.b2 ?_
          refine SO.closeR ?_
          refine SO.b2 ?_
          refine SO.closeR ?_
          refine SO.b1 ?_
          refine SO.b3 ?_
          have ct88 := ref10_State_rest.ct bp0 v0_Slots v0_Objs _ _ _ ht86
          dsimp only at ct88
          refine SO.call (pre := [Box _ _, OwnR _ _ _ _, OwnR _ _ _ _]) rfl Try.call60 rfl rfl rfl ct88 trivial ?_
          rintro _ _ ⟨u87_Slots, u87_Objs, rfl, rfl⟩
          refine SO.nil ?_
          cases h
          refine S.b4 ?_
          refine S.b1 ?_
          refine S.b4 ?_
          refine S.b3 ?_
          refine S.b4 ?_
          refine S.to ?_ (hk1 (u87_Slots, u87_Objs) trivial)
          exact ⟨rfl, rfl, trivial⟩
        · replace h := cond_f b84 h
          refine S.condF rfl b84 ?_
          refine S.skip ?_
          cases h
          refine S.closeR ?_
          refine S.b1 ?_
          refine S.closeR ?_
          refine S.b4 ?_
          refine S.b4 ?_
          refine S.b4 ?_
          refine S.b3 ?_
          refine S.b4 ?_
          refine S.to ?_ (hk1 (v0_Slots, v0_Objs) trivial)
          exact ⟨rfl, rfl, trivial⟩
      · replace h := cond_f b44 h
        refine S.condF rfl b44 ?_
        refine S.skip ?_
        cases h
        refine S.b1 ?_
        refine S.closeR ?_
        refine S.b4 ?_
        refine S.b3 ?_
        refine S.b3 ?_
        refine S.b4 ?_
        refine S.b4 ?_
        refine S.to ?_ (hk1 (v0_Slots, v0_Objs) trivial)
        exact ⟨rfl, rfl, trivial⟩
  rintro ⟨vyp0_0_1, vyp0_1_1⟩ -
  replace h := hJ1
  refine S.seq ?_
  refine S.region ?_
  refine SO.v rfl (opv_move rfl) ?_
  refine SO.v rfl (opv_nilCheck rfl) ?_
  refine SO.v rfl (opv_fieldAddr Try.underlying76 rfl Try.sizeOf74 rfl rfl) ?_
  refine SO.b3 ?_
  refine SO.load1 rfl Try.isAgg74 rfl rfl ?_
  refine SO.v rfl (opv_move rfl) ?_
  refine SO.b1 ?_
  refine SO.openR fun raws94 A95 hrel96 hR97 => ?_
  obtain ⟨x89, hx90, h⟩ := opt_bind h
  obtain ⟨r91, hr92, hc93⟩ := relR.at hrel96 hx90
  refine SO.v rfl (opv_idx Try.underlying74 Try.sizeOf72 hR97 rfl rfl hr92) ?_
  refine SO.v rfl (opv_fieldIdx Try.underlying72 rfl Try.sizeOf3 hR97 hr92 rfl rfl) ?_
  refine SO.storeO1 (j := 8) (q := .val (.int .i64 0)) (z' := ({ x89 with State := 0 } : ref10_Obj)) Try.sizeOf3 hrel96 hx90 rfl rfl rfl rfl rfl rfl rfl (fun raws98 hrel99 hR100 => ?_)
  refine SO.nil ?_
  refine S.to (ρ' := [(0, bp bp0 0), (1, .int .i64 a1)]) ⟨rfl, rfl, trivial⟩ ?_
  refine S.region ?_
  refine SO.v rfl (opv_move rfl) ?_
  refine SO.v rfl (opv_nilCheck rfl) ?_
  refine SO.v rfl (opv_fieldAddr Try.underlying76 rfl Try.sizeOf74 rfl rfl) ?_
  refine SO.b1 ?_
  refine SO.load1 rfl Try.isAgg74 rfl rfl ?_
  refine SO.v rfl (opv_move rfl) ?_
  obtain ⟨x101, hx102, h⟩ := opt_bind h
  obtain ⟨r103, hr104, hc105⟩ := relR.at hrel99 hx102
  refine SO.v rfl (opv_idx Try.underlying74 Try.sizeOf72 hR100 rfl rfl hr104) ?_
  refine SO.v rfl (opv_fieldIdx Try.underlying72 rfl Try.sizeOf3 hR100 hr104 rfl rfl) ?_
  refine SO.b1 ?_
  refine SO.storeO1 (j := 12) (q := .val (.int .i64 (-1))) (z' := ({ x101 with On := -1 } : ref10_Obj)) Try.sizeOf3 hrel99 hx102 rfl rfl rfl rfl rfl rfl rfl (fun raws106 hrel107 hR108 => ?_)
  refine SO.nil ?_
  refine S.to (ρ' := []) trivial ?_
  cases h
  refine S.closeR ?_
  refine S.b3 ?_
  refine S.drop ?_
  refine S.b3 ?_
  refine S.b1 ?_
  refine S.b3 ?_
  refine S.b3 ?_
  exact S.fin0 Try.func53 rfl (fun w hs hk => hR w _ _ ⟨vyp0_0_1, vyp0_1_1, rfl, rfl⟩ hs hk)
end Go.Proofs
namespace Go.Proofs
open Go.Sl Go.RowKit
/-! 63 (*padstone/padstoneref10.State).Poll -/
def ref10_State_Poll.f (a0 : ref10_State) (a1 : Int) : Option ((Int × ref10_State)) :=
  (at_ a0.Objs a1).bind fun x1 => (at_ a0.Objs a1).bind fun x10 => some (x1.Word, ({ a0 with Objs := a0.Objs.set a1.toNat ({ x10 with Word := 0 } : ref10_Obj) } : ref10_State))
set_option maxHeartbeats 8000000 in
set_option maxRecDepth 100000 in
theorem ref10_State_Poll.ct (bp0 : Nat) (v0_Slots : Value) (v0_Objs : Value) (a0 : ref10_State) (a1 : Int) (r0 : Int) (rp0 : ref10_State) (h : ref10_State_Poll.f a0 a1 = some (r0, rp0)) :
    Ct Try.prog 63 [bp bp0 0, .int .i64 a1] (fun _ => True) [Box bp0 [v0_Slots, v0_Objs, .int .i64 a0.NS, .int .i64 a0.NO], OwnR 81 kr_ref10_Slot v0_Slots a0.Slots, OwnR 72 kr_ref10_Obj v0_Objs a0.Objs] (fun u H' => ∃ rw0_Slots rw0_Objs, u = .int .i64 r0 ∧ H' = [Box bp0 [rw0_Slots, rw0_Objs, .int .i64 rp0.NS, .int .i64 rp0.NO], OwnR 81 kr_ref10_Slot rw0_Slots rp0.Slots, OwnR 72 kr_ref10_Obj rw0_Objs rp0.Objs]) := by
  unfold ref10_State_Poll.f at h
  refine Ct.intro (n := 22) Try.func63 rfl rfl rfl ?_
  intro R w0 F hF hR
  refine S.seq ?_
  refine S.region ?_
  refine SO.v rfl (opv_assign rfl) ?_
  refine SO.nil ?_
  refine S.seq ?_
  refine S.region ?_
  refine SO.v rfl (opv_move rfl) ?_
  refine SO.v rfl (opv_nilCheck rfl) ?_
  refine SO.v rfl (opv_fieldAddr Try.underlying76 rfl Try.sizeOf74 rfl rfl) ?_
  refine SO.load1 rfl Try.isAgg74 rfl rfl ?_
  refine SO.v rfl (opv_move rfl) ?_
  refine SO.b2 ?_
  refine SO.openR fun raws6 A7 hrel8 hR9 => ?_
  obtain ⟨x1, hx2, h⟩ := opt_bind h
  obtain ⟨r3, hr4, hc5⟩ := relR.at hrel8 hx2
  refine SO.v rfl (opv_idx Try.underlying74 Try.sizeOf72 hR9 rfl rfl hr4) ?_
  refine SO.v rfl (opv_fieldIdx Try.underlying72 rfl Try.sizeOf3 hR9 hr4 rfl rfl) ?_
  refine SO.loadI1 (j := 7) rfl Try.isAgg3 (Rd.head hR9) hr4 rfl rfl rfl (hc5.val rfl) ?_
  refine SO.v rfl (opv_assign rfl) ?_
  refine SO.nil ?_
  refine S.to (ρ' := [(0, bp bp0 0), (1, .int .i64 a1), (4, .int .i64 0), (5, .int .i64 x1.Word)]) ⟨rfl, rfl, rfl, rfl, trivial⟩ ?_
  refine S.seq ?_
  refine S.region ?_
  refine SO.v rfl (opv_move rfl) ?_
  refine SO.v rfl (opv_nilCheck rfl) ?_
  refine SO.v rfl (opv_fieldAddr Try.underlying76 rfl Try.sizeOf74 rfl rfl) ?_
  refine SO.b1 ?_
  refine SO.load1 rfl Try.isAgg74 rfl rfl ?_
  refine SO.v rfl (opv_move rfl) ?_
  obtain ⟨x10, hx11, h⟩ := opt_bind h
  obtain ⟨r12, hr13, hc14⟩ := relR.at hrel8 hx11
  refine SO.v rfl (opv_idx Try.underlying74 Try.sizeOf72 hR9 rfl rfl hr13) ?_
  refine SO.v rfl (opv_fieldIdx Try.underlying72 rfl Try.sizeOf3 hR9 hr13 rfl rfl) ?_
  refine SO.b1 ?_
  refine SO.storeO1 (j := 7) (q := .val (.int .i64 0)) (z' := ({ x10 with Word := 0 } : ref10_Obj)) Try.sizeOf3 hrel8 hx11 rfl rfl rfl rfl rfl rfl rfl (fun raws15 hrel16 hR17 => ?_)
  refine SO.nil ?_
  refine S.to (ρ' := [(4, .int .i64 0), (5, .int .i64 x1.Word)]) ⟨rfl, rfl, trivial⟩ ?_
  refine S.seq ?_
  refine S.region ?_
  refine SO.v rfl (opv_move rfl) ?_
  refine SO.v rfl (opv_assign rfl) ?_
  refine SO.nil ?_
  cases h
  refine S.closeR ?_
  refine S.b3 ?_
  refine S.b1 ?_
  refine S.b3 ?_
  refine S.b3 ?_
  exact S.ret1 Try.func63 rfl rfl (fun w hs hk => hR w _ _ ⟨v0_Slots, v0_Objs, rfl, rfl⟩ hs hk)
end Go.Proofs
namespace Go.Proofs
open Go.Sl Go.RowKit
/-! 29 (*padstone/padstoneref10.State).Wait -/
def ref10_State_Wait.f (a0 : ref10_State) (a1 : Int) (a2 : Int) : Option ((Int × Bool × ref10_State)) :=
  (at_ a0.Objs a1).bind fun x1 => bif x1.Word == 0 then ((ref10_State_Block.f a0 a1 a2 5).bind fun p11 => some (0, false, p11)) else ((ref10_State_Poll.f a0 a1).bind fun (t14, p15) => some (t14, true, p15))
set_option maxHeartbeats 8000000 in
set_option maxRecDepth 100000 in
theorem ref10_State_Wait.ct (bp0 : Nat) (v0_Slots : Value) (v0_Objs : Value) (a0 : ref10_State) (a1 : Int) (a2 : Int) (r0 : Int) (r1 : Bool) (rp0 : ref10_State) (h : ref10_State_Wait.f a0 a1 a2 = some (r0, r1, rp0)) :
    Ct Try.prog 29 [bp bp0 0, .int .i64 a1, .int .i64 a2] (fun _ => True) [Box bp0 [v0_Slots, v0_Objs, .int .i64 a0.NS, .int .i64 a0.NO], OwnR 81 kr_ref10_Slot v0_Slots a0.Slots, OwnR 72 kr_ref10_Obj v0_Objs a0.Objs] (fun u H' => ∃ rw0_Slots rw0_Objs, u = .tuple #[.int .i64 r0, .bool r1] ∧ H' = [Box bp0 [rw0_Slots, rw0_Objs, .int .i64 rp0.NS, .int .i64 rp0.NO], OwnR 81 kr_ref10_Slot rw0_Slots rp0.Slots, OwnR 72 kr_ref10_Obj rw0_Objs rp0.Objs]) := by
  unfold ref10_State_Wait.f at h
  refine Ct.intro (n := 24) Try.func29 rfl rfl rfl ?_
  intro R w0 F hF hR
  refine S.seq ?_
  refine S.region ?_
  refine SO.v rfl (opv_assign rfl) ?_
  refine SO.v rfl (opv_assign rfl) ?_
  refine SO.nil ?_
  refine S.seq ?_
  refine S.seq ?_
  refine S.region ?_
  refine SO.v rfl (opv_move rfl) ?_
  refine SO.v rfl (opv_nilCheck rfl) ?_
  refine SO.v rfl (opv_fieldAddr Try.underlying76 rfl Try.sizeOf74 rfl rfl) ?_
  refine SO.load1 rfl Try.isAgg74 rfl rfl ?_
  refine SO.v rfl (opv_move rfl) ?_
  refine SO.b2 ?_
  refine SO.openR fun raws6 A7 hrel8 hR9 => ?_
  obtain ⟨x1, hx2, h⟩ := opt_bind h
  obtain ⟨r3, hr4, hc5⟩ := relR.at hrel8 hx2
  refine SO.v rfl (opv_idx Try.underlying74 Try.sizeOf72 hR9 rfl rfl hr4) ?_
  refine SO.v rfl (opv_fieldIdx Try.underlying72 rfl Try.sizeOf3 hR9 hr4 rfl rfl) ?_
  refine SO.loadI1 (j := 7) rfl Try.isAgg3 (Rd.head hR9) hr4 rfl rfl rfl (hc5.val rfl) ?_
  refine SO.v rfl (opv_eql rfl rfl) ?_
  refine SO.nil ?_
  refine S.to (ρ' := [(0, bp bp0 0), (1, .int .i64 a1), (2, .int .i64 a2), (6, .int .i64 0), (7, .bool false), (16, .bool (x1.Word == 0))]) ⟨rfl, rfl, rfl, rfl, rfl, rfl, trivial⟩ ?_
  rcases bool_or (x1.Word == 0) with b10 | b10
  · replace h := cond_t b10 h
    refine S.condT rfl b10 ?_
    refine S.seq ?_
    refine S.region ?_
    refine SO.v rfl (opv_move rfl) ?_
    refine SO.v rfl (opv_move rfl) ?_
    refine SO.v rfl (opv_move rfl) ?_
    obtain ⟨p11, ht12, h⟩ := opt_bind h
    refine SO.closeR ?_
    refine SO.b2 ?_
    refine SO.b2 ?_
    refine SO.call (pre := [Box _ _, OwnR _ _ _ _, OwnR _ _ _ _]) rfl Try.call62 rfl rfl rfl (ref10_State_Block.ct bp0 v0_Slots v0_Objs _ _ _ _ _ ht12) trivial ?_
    rintro _ _ ⟨u13_Slots, u13_Objs, rfl, rfl⟩
    refine SO.nil ?_
    refine S.to (ρ' := [(6, .int .i64 0), (7, .bool false)]) ⟨rfl, rfl, trivial⟩ ?_
    refine S.seq ?_
    refine S.region ?_
    refine SO.v rfl (opv_assign rfl) ?_
    refine SO.v rfl (opv_assign rfl) ?_
    refine SO.nil ?_
    cases h
    refine S.b3 ?_
    refine S.b3 ?_
    refine S.b3 ?_
    refine S.b3 ?_
    exact S.ret2 Try.func29 rfl rfl rfl (fun w hs hk => hR w _ _ ⟨u13_Slots, u13_Objs, rfl, rfl⟩ hs hk)
  · replace h := cond_f b10 h
    refine S.condF rfl b10 ?_
    refine S.skip ?_
    refine S.seq ?_
    refine S.region ?_
    refine SO.v rfl (opv_move rfl) ?_
    refine SO.v rfl (opv_move rfl) ?_
    obtain ⟨⟨t14, p15⟩, ht16, h⟩ := opt_bind h
    refine SO.closeR ?_
    refine SO.b2 ?_
    refine SO.b2 ?_
    refine SO.call (pre := [Box _ _, OwnR _ _ _ _, OwnR _ _ _ _]) rfl Try.call63 rfl rfl rfl (ref10_State_Poll.ct bp0 v0_Slots v0_Objs _ _ _ _ ht16) trivial ?_
    rintro _ _ ⟨u17_Slots, u17_Objs, rfl, rfl⟩
    refine SO.v rfl (opv_assign rfl) ?_
    refine SO.v rfl (opv_assign rfl) ?_
    refine SO.nil ?_
    refine S.to (ρ' := [(6, .int .i64 t14), (7, .bool true)]) ⟨rfl, rfl, trivial⟩ ?_
    cases h
    refine S.b3 ?_
    refine S.b3 ?_
    refine S.b3 ?_
    refine S.b3 ?_
    exact S.ret2 Try.func29 rfl rfl rfl (fun w hs hk => hR w _ _ ⟨u17_Slots, u17_Objs, rfl, rfl⟩ hs hk)
end Go.Proofs
