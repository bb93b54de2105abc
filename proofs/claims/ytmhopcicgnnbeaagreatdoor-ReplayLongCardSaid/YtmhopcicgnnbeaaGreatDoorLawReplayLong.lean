/- The given statement 'ReplayLongCardSaid' of the given program: whatever the input, the law answers true and the input reads as it did; the listed variable is tied to the program's text. On no condition. -/
import Derived.Test.YtmhopcicgnnbeaaGreatDoorFnReplayLong2
import Derived.Test.YtmhopcicgnnbeaaGreatDoorFr2
import Derived.Test.YtmhopcicgnnbeaaGreatDoorPlReplayLong0
import Derived.Test.YtmhopcicgnnbeaaGreatDoorRows
import Derived.Test.YtmhopcicgnnbeaaGreatDoorTie
import Derived.Test.YtmhopcicgnnbeaaGreatDoorCards
import Derived.SevenTiedAt
import Derived.ChangeSame
import Derived.LaidLaws
import Derived.LaidHandle
import Derived.Stop.Joined
set_option linter.all false
namespace Go.Proofs.YtmhopcicgnnbeaaGreatDoor.replayLong
open Go.ChangeShapes Go.WideShapes Go.ChangeAt Go.RowKit Go.Sl
section
variable {H : Type} {enc : TypeId × Value → H} {P : Program} {W : World} {b0 : Nat} {sp : Nat → Bool} {hd : Bool} {r : Reach}
theorem reach_is : reachBytes ≤ 140737488355328 := Nat.le_of_ble_eq_true rfl
/-- Each slice within it is within reach. -/
def Wt (P : Program) (t : TypeId) (d : DataW H) : Prop := ∀ n ∈ d.weights P t, n ≤ reachBytes
theorem wt_all {e : TypeId} : ∀ {es : List (DataW H)}, (∀ n ∈ DataW.weightsAll P e es, n ≤ reachBytes) → ∀ d ∈ es, Wt P e d
  | [], _, _, h => by cases h
  | x :: l, h, d, hm => by
    have h' : ∀ n ∈ x.weights P e ++ DataW.weightsAll P e l, n ≤ reachBytes := by simpa only [DataW.weightsAll] using h
    rcases List.mem_cons.1 hm with rfl | hm
    · exact fun n hn => h' n (List.mem_append_left _ hn)
    · exact wt_all (fun n hn => h' n (List.mem_append_right _ hn)) d hm
theorem wt_slice {t e : TypeId} {es ss : List (DataW H)} (ht : P.underlying t = some (.slice e)) (h : Wt P t (.slice es ss)) : es.length * P.bytesOf e ≤ reachBytes ∧ ∀ d ∈ es, Wt P e d := by
  have h' : ∀ n ∈ ((es.length + ss.length) * P.bytesOf e :: (DataW.weightsAll P e es ++ DataW.weightsAll P e ss)), n ≤ reachBytes := by
    have q := h
    unfold Wt at q
    simp only [DataW.weights, ht] at q
    exact q
  refine ⟨Nat.le_trans (Nat.mul_le_mul_right _ (Nat.le_add_right _ _)) (h' _ (List.mem_cons.2 (.inl rfl))), wt_all fun n hn => h' n (List.mem_cons.2 (.inr (List.mem_append_left _ hn)))⟩
/-- A slice, opened, with what its reach tells. -/
theorem open_slG {α : Type} {K : EK α} {wf : α → Prop} {n : Nat} {t e : TypeId} {v : Value} {x : DataW H × List MemPlace} (hp : ∀ n cs x, Wt P e x.1 → DataW.trod enc P W 0 sp hd n e cs = some x → ∃ a, cs = K.enc a ∧ wf a) (ht : P.underlying t = some (.slice e)) (hc : P.cellsOf e = K.sz) (hw : Wt P t x.1) (h : DataW.trod enc P W 0 sp hd n t [v] = some x) :
    ∃ xs : List α, Rd K v xs (Whole W) ∧ (∀ x ∈ xs, wf x) ∧ xs.length * P.bytesOf e ≤ reachBytes := by
  rcases DataW.trod_slice ht h with ⟨h0, -⟩ | ⟨a, len, cap, elems, rest, m, -, h0, hx, -, hl, hm, hlen, hel, -, -⟩
  · injection h0 with h0; subst h0
    exact ⟨[], ⟨none, 0, ⟨rfl, Nat.le_refl _⟩, fun i x hx => by simp at hx⟩, fun x hx => by simp at hx, by simp⟩
  · injection h0 with h0; subst h0
    subst hx
    obtain ⟨hw1, hw2⟩ := wt_slice ht hw
    have each : ∀ i, i < len → ∃ z, W.cells? 0 (a.add (i * P.cellsOf e)) (P.cellsOf e) = some (K.enc z) ∧ wf z := by
      intro i hi
      have h1 := hel i hi
      rw [List.getElem?_eq_getElem (by omega : i < elems.length)] at h1
      simp only [Option.bind_eq_some_iff] at h1
      obtain ⟨cs, h1, h2⟩ := h1
      obtain ⟨z, rfl, hz⟩ := hp _ _ _ (hw2 _ (List.mem_map.2 ⟨_, List.getElem_mem (by omega : i < elems.length), rfl⟩)) h2
      exact ⟨z, h1, hz⟩
    let F : Fin len → α := fun i => Classical.choose (each i i.2)
    have hF : ∀ (i : Nat) (hi : i < len), W.cells? 0 (a.add (i * P.cellsOf e)) (P.cellsOf e) = some (K.enc (F ⟨i, hi⟩)) ∧ wf (F ⟨i, hi⟩) := fun i hi => Classical.choose_spec (each i hi)
    refine ⟨List.ofFn F, ⟨some a, cap, ⟨by simp, by simp; omega⟩, fun i x hx => ?_⟩, fun x hx => ?_, by rw [List.length_ofFn, ← hlen]; simpa using hw1⟩
    · rw [List.getElem?_eq_some_iff] at hx
      obtain ⟨hi, hx⟩ := hx
      simp only [List.length_ofFn] at hi
      simp only [List.getElem_ofFn] at hx
      obtain ⟨hcs, -⟩ := hF i hi
      rw [hx] at hcs
      obtain ⟨-, hlen', hcell⟩ := World.cells?_some hcs
      have key : ∀ j, j < K.sz → ∃ u, (K.enc x)[j]? = some u ∧ W.cell? ((a.add (i * P.cellsOf e)).add j) = some u := fun j hj => by
        have := hcell j (by omega)
        have hj2 : j < (K.enc x).length := by rw [K.len]; exact hj
        rw [List.getElem?_eq_getElem hj2] at this
        exact ⟨_, List.getElem?_eq_getElem hj2, this⟩
      have hspot : a.spot = none := by
        obtain ⟨hcs0, -⟩ := hF 0 (by omega)
        obtain ⟨-, -, hcell0⟩ := World.cells?_some hcs0
        have h0 := hcell0 0 (by rw [hc]; exact K.pos)
        have hj2 : 0 < (K.enc (F ⟨0, by omega⟩)).length := by rw [K.len]; exact K.pos
        rw [List.getElem?_eq_getElem hj2] at h0
        have := (cell_whole h0).1
        simpa [Addr.add] using this
      obtain ⟨blk, off, spot⟩ := a
      simp only at hspot
      subst hspot
      obtain ⟨u0, -, hu0⟩ := key 0 K.pos
      rw [add_plain, add_plain] at hu0
      obtain ⟨-, all, E, fr, hall, -⟩ := cell_whole hu0
      refine ⟨blk, off, rfl, fun mm hmm => ⟨all, E, fr, hmm _ _ hall, fun j hj => ?_⟩⟩
      obtain ⟨u, hu1, hu2⟩ := key j hj
      rw [add_plain, add_plain] at hu2
      obtain ⟨-, all2, E2, fr2, hall2, hu3⟩ := cell_whole hu2
      have : all2 = all := by
        have e1 : W.heap[blk]? = some (.cells all2 E2 fr2) := hall2
        have e2 : W.heap[blk]? = some (.cells all E fr) := hall
        rw [e1] at e2; injection e2 with e2; injection e2
      subst this
      rw [hu1, ← hu3, hc]
      simp [Nat.add_assoc]
    · obtain ⟨i, rfl⟩ := List.mem_ofFn.1 hx
      exact (hF i.1 i.2).2
theorem sv_cell {t1 e : TypeId} (ht1 : P.underlying t1 = some (.slice e)) {n : Nat} {cs : List Value} {x : DataW H × List MemPlace} (hx : DataW.trod enc P W 0 sp hd n t1 cs = some x) : ∃ u : Value, u.oneCell' = true ∧ cs = [u] := by
  rcases DataW.trod_slice ht1 hx with ⟨h0, -⟩ | ⟨a, len, cap, elems, rest, m, -, h0, -⟩
  · exact ⟨_, rfl, h0⟩
  · exact ⟨_, rfl, h0⟩
/-- Calls of threads. -/
theorem open_calls {t t1 t2 e : TypeId} {v : Value} {n : Nat} {x : DataW H × List MemPlace} {α : Type} {K : EK α} {wf : α → Prop}
    (hp : Parse P e K.enc wf) (ht : P.underlying t = some (.slice t1)) (ht1 : P.underlying t1 = some (.slice t2)) (ht2 : P.underlying t2 = some (.slice e)) (hc1 : P.cellsOf t1 = 1) (hc2 : P.cellsOf t2 = 1) (hc : P.cellsOf e = K.sz) (hb : P.bytesOf e = 8) (hw : Wt P t x.1) (h : DataW.trod enc P W 0 sp hd n t [v] = some x) :
    ∃ l : List (List (List α)), Rd3 K v l (Whole W) ∧ ∀ os ∈ l, ∀ c ∈ os, c.length ≤ 17592186044416 := by
  obtain ⟨vs, h1, h2, -⟩ := open_slG (K := ekS) (wf := fun x => ∃ xss : List (List α), Rd2 K x.1 xss (Whole W) ∧ ∀ c ∈ xss, c.length ≤ 17592186044416) (fun n cs x hw1 hx => by
    obtain ⟨u, hu, rfl⟩ := sv_cell ht1 hx
    obtain ⟨ws, k1, k2, -⟩ := open_slG (K := ekS) (wf := fun x => ∃ xs, Rd K x.1 xs (Whole W) ∧ xs.length ≤ 17592186044416) (fun n cs x hw2 hx => by
      obtain ⟨u2, hu2, rfl⟩ := sv_cell ht2 hx
      obtain ⟨xs, q1, -, q2⟩ := open_slG (fun _ _ _ _ h => hp _ _ _ _ _ _ _ _ h) ht2 hc hw2 hx
      exact ⟨⟨u2, hu2⟩, rfl, xs, q1, by rw [hb] at q2; have := Nat.le_trans q2 reach_is; omega⟩) ht1 hc2 hw1 hx
    classical
    let f : SV → List α := fun x => if hh : ∃ xs, Rd K x.1 xs (Whole W) ∧ xs.length ≤ 17592186044416 then Classical.choose hh else []
    have hf : ∀ x : SV, (∃ xs, Rd K x.1 xs (Whole W) ∧ xs.length ≤ 17592186044416) → Rd K x.1 (f x) (Whole W) ∧ (f x).length ≤ 17592186044416 := fun x hh => by
      show Rd K x.1 (if hh : ∃ xs, Rd K x.1 xs (Whole W) ∧ xs.length ≤ 17592186044416 then Classical.choose hh else []) _ ∧ (if hh : ∃ xs, Rd K x.1 xs (Whole W) ∧ xs.length ≤ 17592186044416 then Classical.choose hh else []).length ≤ _
      rw [dif_pos hh]; exact Classical.choose_spec hh
    refine ⟨⟨u, hu⟩, rfl, ws.map f, ⟨ws, k1, by simp, fun i x l e1 e2 => ?_⟩, fun ops ho => ?_⟩
    · rw [List.getElem?_map, e1] at e2
      injection e2 with e2
      subst e2
      exact (hf x (k2 x (List.mem_of_getElem? e1))).1
    · obtain ⟨y, hy, rfl⟩ := List.mem_map.1 ho
      exact (hf y (k2 y hy)).2) ht hc1 hw h
  classical
  let f : SV → List (List α) := fun x => if hh : ∃ xss : List (List α), Rd2 K x.1 xss (Whole W) ∧ ∀ c ∈ xss, c.length ≤ 17592186044416 then Classical.choose hh else []
  have hf : ∀ x : SV, (∃ xss : List (List α), Rd2 K x.1 xss (Whole W) ∧ ∀ c ∈ xss, c.length ≤ 17592186044416) → Rd2 K x.1 (f x) (Whole W) ∧ ∀ c ∈ f x, c.length ≤ 17592186044416 := fun x hh => by
    show Rd2 K x.1 (if hh : ∃ xss : List (List α), Rd2 K x.1 xss (Whole W) ∧ ∀ c ∈ xss, c.length ≤ 17592186044416 then Classical.choose hh else []) _ ∧ ∀ c ∈ (if hh : ∃ xss : List (List α), Rd2 K x.1 xss (Whole W) ∧ ∀ c ∈ xss, c.length ≤ 17592186044416 then Classical.choose hh else []), c.length ≤ 17592186044416
    rw [dif_pos hh]; exact Classical.choose_spec hh
  refine ⟨vs.map f, ⟨vs, h1, by simp, fun i x l e1 e2 => ?_⟩, fun os ho => ?_⟩
  · rw [List.getElem?_map, e1] at e2
    injection e2 with e2
    subst e2
    exact (hf x (h2 x (List.mem_of_getElem? e1))).1
  · obtain ⟨y, hy, rfl⟩ := List.mem_map.1 ho
    exact (hf y (h2 y hy)).2
end
set_option maxRecDepth 100000 in
/-- What a kernel begins with. -/
theorem open_boot {H : Type} {enc : TypeId × Value → H} {W : World} {b0 : Nat} {sp : Nat → Bool} {hd : Bool} {r : Reach} {v : Value} {d : DataW H} {ps : List MemPlace} (hval : Value.okWide Tryz.prog W r b0 26 v) (h : DataW.Trod enc Tryz.prog W 0 sp hd 26 v d ps) (hw : Wt Tryz.prog 26 d) :
    ∃ (v0 v2 : Value) (lim : Int) (ws : List Int) (cs : List (List (List Int))), v = .agg #[v0, .int .u32 lim, v2] ∧ Rd (ekI .u64) v0 ws (Whole W) ∧ Rd3 (ekI .u64) v2 cs (Whole W) ∧ ∀ r ∈ cs, ∀ c ∈ r, c.length ≤ 17592186044416 := by
  obtain ⟨ca, rfl, -⟩ := okWide_struct Tryz.underlying26 hval
  obtain ⟨n, h⟩ := h
  obtain ⟨xs, m, -, hx, hl, hxl, hf⟩ := DataW.trod_struct Tryz.underlying26 h
  rw [show Tryz.prog.cellsOf 26 = 3 by kernel_rfl] at hl
  injection hx with hx _
  subst hx
  match xs, hxl with
  | [x0, x1, x2], _ =>
  obtain ⟨cl, rfl⟩ : ∃ cl : List Value, ca = cl.toArray := ⟨ca.toList, by simp⟩
  have hl : cl.length = 3 := by simpa [Value.cells] using hl
  match cl, hl with
  | [c0, c1, c2], _ =>
  have f0 : DataW.trod enc Tryz.prog W 0 sp hd m 22 [c0] = some x0 := by
    have q : DataW.trod enc Tryz.prog W 0 sp hd m 22 (List.take (Tryz.prog.cellsOf 22) [c0, c1, c2]) = some x0 := hf 0 _ rfl
    rw [show Tryz.prog.cellsOf 22 = 1 by kernel_rfl] at q
    exact q
  have f1 : DataW.trod enc Tryz.prog W 0 sp hd m 23 [c1] = some x1 := by
    have q : DataW.trod enc Tryz.prog W 0 sp hd m 23 (List.take (Tryz.prog.cellsOf 23) [c1, c2]) = some x1 := hf 1 _ rfl
    rw [show Tryz.prog.cellsOf 23 = 1 by kernel_rfl] at q
    exact q
  have f2 : DataW.trod enc Tryz.prog W 0 sp hd m 24 [c2] = some x2 := by
    have q : DataW.trod enc Tryz.prog W 0 sp hd m 24 (List.take (Tryz.prog.cellsOf 24) [c2]) = some x2 := hf 2 _ rfl
    rw [show Tryz.prog.cellsOf 24 = 1 by kernel_rfl] at q
    exact q
  have hw2 : Wt Tryz.prog 24 x2.1 := fun n hn => hw n (by
    simp only [DataW.weights, Tryz.underlying26]
    exact List.mem_append_right _ (List.mem_append_right _ (List.mem_append_left _ hn)))
  obtain ⟨ws, r0, -, -⟩ := open_slW (K := ekI .u64) (fun _ _ _ h => parse_int Tryz.underlying58 _ _ _ _ _ _ _ _ h) Tryz.underlying22 (by kernel_rfl) f0
  obtain ⟨lim, e1, -⟩ := DataW.trod_int Tryz.underlying23 f1
  injection e1 with e1
  subst e1
  obtain ⟨cs, r2, hcs⟩ := open_calls (K := ekI .u64) (parse_int Tryz.underlying58) Tryz.underlying24 Tryz.underlying52 Tryz.underlying22 (by kernel_rfl) (by kernel_rfl) (by kernel_rfl) (by kernel_rfl) hw2 f2
  exact ⟨c0, c2, lim, ws, cs, rfl, r0, r2, hcs⟩
theorem own : ownKnob Tryz.prog.godebug = none := by kernel_rfl
theorem laidOut : laidOutB Tryz.prog = true := by kernel_rfl
noncomputable def laidWorld (os : Os) : World :=
  let w0 := World.holding Tryz.prog os ⟨#[], #[], []⟩
  { w0 with heap := w0.heap.modify 0 fun
      | .cells _ t frozen => .cells #[.iface 258 (.agg #[.pointer (some ⟨1, 31, none⟩)])] t frozen
      | o => o }
theorem laidWorld_met (os : Os) (args : Array Value) : laidMetH Tryz.prog [("errors.errorType", Rows.laid_errors_errorType)] ((laidWorld os).forCall (fun _ _ => 0) ⟨#[], args, []⟩).memory :=
  laidMetH_of_parts (laidMet_nil _ _) (by kernel_rfl)
set_option maxRecDepth 100000 in
theorem lifted (os : Os) (started : os.Started) (H : Type) (enc : TypeId × Value → H) :
    ReturnsInHanded {} Tryz.checked os 3 .any (fun w args => (Rows.replayLongSpec.pre enc Tryz.prog Tryz.f3 [] false w args ∧ laidMetH Tryz.prog [("errors.errorType", Rows.laid_errors_errorType)] w) ∧ sizedMet enc Tryz.prog Tryz.f3 (OpenSpec.ofChange Rows.replayLongSpec) false w args)
      (Rows.replayLongSpec.post enc Tryz.prog Tryz.f3 false true false false) := by
  refine returnsInHanded_of_change_and (C := Tryz.checked) (X := fun w _ => laidMetH Tryz.prog [("errors.errorType", Rows.laid_errors_errorType)] w) (fun _ _ _ hh h => h.of_heap hh) own started (by kernel_rfl) Tryz.func3
    (ChangeSpec.witness_at (enc := enc) (C := Tryz.checked) (os := os) (X := fun w _ => laidMetH Tryz.prog [("errors.errorType", Rows.laid_errors_errorType)] w) false (laidWorld os) #[.int .i64 0, .agg #[.slice none 0 0, .int .u32 0, .slice none 0 0]] 8 rfl (by kernel_rfl) (by kernel_rfl) (by kernel_rfl) (by kernel_rfl) (by kernel_rfl) (laidWorld_met os _)) ?_
  intro W base args ds gs before hval0 hW _ hwt _ _
  have hval : ∀ (j : Nat) t v, Tryz.f3.params[j]? = some t → args[j]? = some v → Value.okWide Tryz.prog W .any base t v := hval0
  have hW' := hW
  obtain ⟨p, q, hA0, hV, rfl, hfz, hnd⟩ := hW
  have hA : DataW.TrodAll enc Tryz.prog W 0 (fun _ => true) true Tryz.f3.params.toList args.toList ds p := hA0
  rw [Tryz.params3] at hA hval
  obtain ⟨v0, vs0, d0, ds0, p0, q0, hargs, rfl, rfl, h0, r0⟩ := trodAll_cons hA
  obtain ⟨v1, vs1, d1, ds1, p1, q1, rfl, rfl, rfl, h1, r1⟩ := trodAll_cons r0
  obtain ⟨rfl, rfl, rfl⟩ := trodAll_nil r1
  obtain rfl : args = #[v0, v1] := by cases args; simp_all
  obtain ⟨rfl, rfl⟩ := trodVars_none hV
  obtain ⟨a0, rfl, rfl, rfl, w0⟩ := open_int Tryz.underlying3 (hval 0 3 v0 rfl rfl) h0
  have hw1 : Wt Tryz.prog 26 d1 := fun n hn => by
    have q := List.all_eq_true.1 hwt n (by
      rw [Tryz.params3]
      exact List.mem_append_right _ (List.mem_append_left _ hn))
    exact of_decide_eq_true q
  obtain ⟨u0, u2, lim, ws, cs, rfl, r0', r2', hcs⟩ := open_boot (hval 1 26 v1 rfl rfl) h1 hw1
  have hk := replayLong_ok a0 ws lim cs hcs
  refine (Ct.law (law23_ReplayLong.ct 3000 a0 u0 u2 ws lim cs true hk) (W := W) ⟨r0', r2'⟩).mono fun e W' ⟨he, hg⟩ => ?_
  subst he
  exact ⟨_, rfl, law_post hW' laidOut (by kernel_rfl) hg (by kernel_rfl) Tryz.underlying4 rfl rfl⟩
theorem over : Rows.replayLongRow.holds Tryz.pinned (OpenSpec.ofChange Rows.replayLongSpec) :=
  OpenClaim.holds_of_wide 3 Tryz.f3 rfl rfl rfl rfl rfl rfl rfl ⟨rfl, rfl, rfl, rfl, rfl⟩ rfl rfl rfl rfl rfl (by kernel_rfl) Tryz.func3 (by kernel_rfl)
    (of_decide_eq_true (by kernel_rfl)) (by unfold Func.isWrapper; first | (rw [if_pos (by decide +kernel)]; kernel_rfl) | (rw [if_neg (by decide +kernel)]; exact ⟨rfl, rfl⟩))
    (fun os started H enc _ => lifted os started H enc)
theorem proved : Rows.ReplayLongCardSaid :=
  Claim7.holds_tied_plain_at .later [] [.handle] true (true, "fd4a6204f6b003b4981d70008678c56d14d50e3e680940159610b6548c42478c") true
    over (fun _ h => by cases h) (by kernel_rfl) (fun _ h => by cases h) replayLong_row_tie rfl ⟨rfl, rfl⟩ (by kernel_rfl) rfl
    (fun f fn hf hfn => by
      obtain rfl : f = 3 := Option.some.inj ((show Tryz.prog.funcNamed "padstone/padstonelaw23.ReplayLong" = some 3 by kernel_rfl).symm.trans hf) |>.symm
      obtain rfl : fn = Tryz.f3 := (Option.some.inj (Tryz.func3.symm.trans hfn)).symm
      exact ⟨by kernel_rfl, fun j t ht => by
        rw [Tryz.params3] at ht
        have hm : t ∈ [3, 26] := by simpa using Array.mem_of_getElem? ht
        have hall : ([3, 26].all fun u => !Tryz.prog.wantsStandIn u) = true := by kernel_rfl
        exact (show Tryz.prog.wantsStandIn t = false by simpa using List.all_eq_true.1 hall t hm)⟩)
    (by kernel_rfl)
#print axioms proved
end Go.Proofs.YtmhopcicgnnbeaaGreatDoor.replayLong
