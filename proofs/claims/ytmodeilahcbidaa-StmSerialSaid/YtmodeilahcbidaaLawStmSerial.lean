/- The given statement 'StmSerial' of the given program: whatever the input, the law answers true and the input reads as it did. On no condition. -/
import Derived.Test.YtmodeilahcbidaaFnStmSerial4
import Derived.Test.YtmodeilahcbidaaFr2
import Derived.Test.YtmodeilahcbidaaPlStmSerial1
import Derived.Test.YtmodeilahcbidaaRows
set_option linter.all false
namespace Go.Proofs.Ytmodeilahcbidaa.stmSerial
open Go.ChangeShapes Go.WideShapes Go.ChangeAt Go.RowKit Go.Sl
def wf_law06_Op (x : law06_Op) : Prop := (fun _ => True) x.Look ∧ (fun _ => True) x.Jump ∧ (fits .i64) x.From ∧ (fits .i64) x.To ∧ (fits .u64) x.N
theorem pa_law06_Op : Parse Try.prog 84 (fun x : law06_Op => [.bool x.Look, .bool x.Jump, .int .i64 x.From, .int .i64 x.To, .int .u64 x.N]) wf_law06_Op := by
  intro H enc w base sp hd n cs x h
  obtain ⟨xs, m, -, -, hl, hx, hf⟩ := DataW.trod_struct Try.underlying84 h
  rw [show Try.prog.cellsOf 84 = 5 by kernel_rfl] at hl
  obtain ⟨a0, e0, w0⟩ := parse_field (i := 0) (o := 0) (sz := 1) hx hf (parse_bool Try.underlying4) rfl rfl rfl (by kernel_rfl)
  obtain ⟨a1, e1, w1⟩ := parse_field (i := 1) (o := 1) (sz := 1) hx hf (parse_bool Try.underlying4) rfl rfl rfl (by kernel_rfl)
  obtain ⟨a2, e2, w2⟩ := parse_field (i := 2) (o := 2) (sz := 1) hx hf (parse_int Try.underlying3) rfl rfl rfl (by kernel_rfl)
  obtain ⟨a3, e3, w3⟩ := parse_field (i := 3) (o := 3) (sz := 1) hx hf (parse_int Try.underlying3) rfl rfl rfl (by kernel_rfl)
  obtain ⟨a4, e4, w4⟩ := parse_field (i := 4) (o := 4) (sz := 1) hx hf (parse_int Try.underlying46) rfl rfl rfl (by kernel_rfl)
  clear hf hx h
  match cs, hl with
  | [c0, c1, c2, c3, c4], _ =>
    simp at e0 e1 e2 e3 e4
    subst e0 e1 e2 e3 e4
    exact ⟨⟨a0, a1, a2, a3, a4⟩, rfl, w0, w1, w2, w3, w4⟩

open Go.Proofs
theorem up_ok (m : Nat) : law08_up.f (m + 200000) = some true := by kernel_rfl
theorem log_ok (g : List stm_Entry) (h : g.length ≤ 100000) : stm_Machine_Log.f g = some g := by
  unfold stm_Machine_Log.f slices_Clone_stm_Entry_stm_Entry.f
  rw [app_ok _ _ (by simp; omega)]; rfl
theorem pread (p : List Int) (i : Int) : view_Plain_Read.f p i = some (pget p i) := by
  obtain ⟨r, hr⟩ := read_ok p i
  have h := pl_rd i (fun x => VM.ret x) p
  have h2 : VM.run plainI (VM.rd i (fun x => VM.ret x)) p = some ((view_Plain_Read.f p i).getD 0, p) := rfl
  rw [h2] at h
  have h3 : VM.run plainI (VM.ret (pget p i)) p = some (pget p i, p) := rfl
  rw [h3, hr] at h
  injection h with h; injection h with h _
  rw [hr]; exact congrArg some h
/-- The steps that are picked. -/
theorem l1_ok {n : Nat} {lim : Int} {l : Lists} (H : Hyp n lim l) (kj : Nat) (hkj : 50 < kj) (st : List Int) (hst : st.length ≤ 600) : ∀ (m K i c : Nat) (M : M8c) (L want : List api_Cell) (dn : List Nat), i + m = st.length → m + 2300 < K → c + m ≤ 600 → Inv n lim l c M L want dn →
    ∃ M' L' want' dn', law08_StmSerial.l1 l st (law08_jobs_1.f kj) K ((i : Int), (M, ⟨L, lim⟩)) = some (M', ⟨L', lim⟩) ∧ Inv n lim l 600 M' L' want' dn' := by
  intro m
  induction m with
  | zero =>
    intro K i c M L want dn e hK hc I
    obtain ⟨K, rfl⟩ : ∃ q, K = q + 1 := ⟨K - 1, by omega⟩
    rw [law08_StmSerial.l1, decide_eq_false (by omega)]
    exact ⟨M, L, want, dn, rfl, I.up (by omega)⟩
  | succ m ih =>
    intro K i c M L want dn e hK hc I
    obtain ⟨K, rfl⟩ : ∃ q, K = q + 1 := ⟨K - 1, by omega⟩
    have hi : i < st.length := by omega
    rw [law08_StmSerial.l1, decide_eq_true (by omega), cond_true, Go.Proofs.at_of (i := (i : Int)) (by omega) (List.getElem?_eq_getElem hi), Option.bind_some]
    dsimp only
    rcases mstep_ok I H (by omega) K kj (by omega) hkj st[i] with ⟨h1, _⟩ | ⟨M', L', want', dn', x, h1, h2, h3, h4⟩
    · rw [h1, Option.bind_some]
      dsimp only
      rw [w64i (by omega)]
      exact ih K (i + 1) c M L want dn (by omega) (by omega) (by omega) I
    · rw [h1, Option.bind_some]
      dsimp only
      rw [w64i (by omega)]
      exact ih K (i + 1) (c + 1) M' L' want' dn' (by omega) (by omega) (by omega) h3
def ints (dn : List Nat) : List Int := dn.map fun (i : Nat) => (i : Int)
theorem ints_at {dn : List Nat} {w j : Nat} (h : dn[w]? = some j) : at_ (ints dn) (w : Int) = some (j : Int) := Go.Proofs.at_of (i := (w : Int)) (by omega) (by show (ints dn)[w]? = _; unfold ints; rw [List.getElem?_map, h]; rfl)
theorem ints_set (dn : List Nat) (w j : Nat) : (ints dn).set w (j : Int) = ints (dn.set w j) := by unfold ints; rw [List.map_set]
/-- The log, replayed. -/
theorem l2_ok {n : Nat} {lim : Int} {l : Lists} {c : Nat} {M : M8c} {L want : List api_Cell} {dn : List Nat} (I : Inv n lim l c M L want dn) (H : Hyp n lim l) (hc : c ≤ 90000) (hidle : ∀ (v : Nat) x, M.l[v]? = some x → x.job = none) (s : word_Store) : ∀ (xs : List stm_Entry) (K i : Nat) (p : List Int) (d : List Nat) (p' : List Int) (d' : List Nat), M.log.drop i = xs → i + xs.length = M.log.length → xs.length + 100 < K → Rp l xs p d p' d' →
    law08_StmSerial.l2 l (M, s) M.log K ((i : Int), p, ints d) = some (Brk.nx (ints d', p')) := by
  intro xs
  induction xs with
  | nil =>
    intro K i p d p' d' hd e hK hr
    obtain ⟨K, rfl⟩ : ∃ q, K = q + 1 := ⟨K - 1, by omega⟩
    obtain ⟨rfl, rfl⟩ := hr
    simp at e
    rw [law08_StmSerial.l2, decide_eq_false (by omega)]; rfl
  | cons x xs ih =>
    intro K i p d p' d' hd e hK hr
    obtain ⟨K, rfl⟩ : ∃ q, K = q + 1 := ⟨K - 1, by omega⟩
    simp only [List.length_cons] at e hK
    have hi : i < M.log.length := by omega
    have hx : M.log[i]? = some x := by
      have : (M.log.drop i)[0]? = some x := by rw [hd]; rfl
      rw [List.getElem?_drop] at this; simpa using this
    have hmem : x ∈ M.log := List.mem_of_getElem? hx
    obtain ⟨p1, d1, ⟨w, j, os, ops, e1, e2, e3, e4, e5, e6, e7⟩, hr2⟩ := hr
    obtain ⟨w', j', y, t1, t2, t3, t4⟩ := I.td x hmem
    have : w' = w := by omega
    subst this
    have : j' = j := by omega
    subst this
    have hyd : y.d = none := (I.wk w' y t3).nd (hidle w' y t3)
    have t4 : j' < y.told.length ∧ y.told[j']? = some x.Told := by
      rcases t4 with q | ⟨_, k, _, _, q, _⟩
      · exact q
      · rw [hyd] at q; cases q
    have hwl : w' < l.length := (List.getElem?_eq_some_iff.1 e4).1
    have hjl : j' < os.length := (List.getElem?_eq_some_iff.1 e5).1
    have hosl := H.os os (List.mem_of_getElem? e4)
    have hto := I.osl H t3
    have hc2 := I.c2
    rw [law08_StmSerial.l2, decide_eq_true (by omega), cond_true, Go.Proofs.at_of (i := (i : Int)) (by omega) hx, Option.bind_some]
    dsimp only
    rw [e1, decide_eq_false (by omega), decide_eq_false (by omega), Bool.or_self, cond_false, ints_at e2, Option.bind_some, e3, bne_self_eq_false, cond_false, Go.Proofs.at_of (i := (w' : Int)) (by omega) e4, Option.bind_some, decide_eq_false (by omega), Option.bind_some, cond_false]
    have hmid : (bif !x.Spent then ((some os).bind fun x69 => (at_ x69 (j' : Int)).bind fun x74 => (VM.run plainI (law06_Do.f K x74) p).bind fun (t79, s81) => some (w64 (t79.tmod 1000000), s81)) else (some ((-1, p) : (Int × (List Int))))) = some (x.Told, p1) := by
      rcases e7 with ⟨q1, q2, q3⟩ | ⟨q1, r, q2, q3⟩
      · rw [q1, q2, q3]; rfl
      · rw [q1, Bool.not_false, cond_true, Option.bind_some, Go.Proofs.at_of (i := (j' : Int)) (by omega) e5, Option.bind_some, q2 K (by omega), Option.bind_some, q3]
    rw [hmid, Option.bind_some]
    dsimp only
    rw [told_ok I H t3, Option.bind_some, decide_eq_false (by omega), cond_false, bne_self_eq_false, cond_false, Go.Proofs.at_of (i := (j' : Int)) (by omega) t4.2, Option.bind_some, bne_self_eq_false, Option.bind_some, cond_false, Option.bind_some, w64i (by omega), w64i (by omega)]
    rw [show ((w' : Nat) : Int).toNat = w' from rfl, ints_set, ← e6]
    exact ih K (i + 1) p1 d1 p' d' (by rw [← List.drop_drop, hd]; rfl) (by omega) (by omega) hr2
theorem l5_ok (n : Nat) (hn : n ≤ 1000) (p v : List Int) (hv : v.length = n) (he : ∀ j : Nat, j < n → v[j]? = some (pget p j)) : ∀ (m K i : Nat), i + m = n → m < K → law08_StmSerial.l5 (n : Int) p v K (i : Int) = some (Brk.nx ()) := by
  intro m
  induction m with
  | zero =>
    intro K i e hK
    obtain ⟨K, rfl⟩ : ∃ q, K = q + 1 := ⟨K - 1, by omega⟩
    rw [law08_StmSerial.l5, decide_eq_false (by omega)]; rfl
  | succ m ih =>
    intro K i e hK
    obtain ⟨K, rfl⟩ : ∃ q, K = q + 1 := ⟨K - 1, by omega⟩
    rw [law08_StmSerial.l5, decide_eq_true (by omega), cond_true, Go.Proofs.at_of (i := (i : Int)) (by omega) (he i (by omega)), Option.bind_some, pread, Option.bind_some, bne_self_eq_false, cond_false, w64i (by omega)]
    exact ih K (i + 1) (by omega) (by omega)
/-- Has a worker more to do? -/
def more (l : Lists) (x : W8) : Bool := (fd8 l x.fi x.told).isSome
theorem l6_ok {n : Nat} {lim : Int} {l : Lists} {c : Nat} {M : M8c} {L want : List api_Cell} {dn : List Nat} (I : Inv n lim l c M L want dn) (H : Hyp n lim l) (hl : l.length ≤ 5) (hidle : ∀ (v : Nat) x, M.l[v]? = some x → x.job = none) (s : word_Store) : ∀ (m K i : Nat) (b : Bool), i + m = l.length → m < K →
    law08_StmSerial.l6 l (M, s) (ints dn) K ((i : Int), b) = some (Brk.nx (b || (M.l.drop i).any (more l))) := by
  intro m
  induction m with
  | zero =>
    intro K i b e hK
    obtain ⟨K, rfl⟩ : ∃ q, K = q + 1 := ⟨K - 1, by omega⟩
    rw [law08_StmSerial.l6, decide_eq_false (by omega), List.drop_of_length_le (by rw [I.ll]; omega)]
    simp
  | succ m ih =>
    intro K i b e hK
    obtain ⟨K, rfl⟩ : ∃ q, K = q + 1 := ⟨K - 1, by omega⟩
    have hi : i < M.l.length := by rw [I.ll]; omega
    have hx := List.getElem?_eq_getElem hi
    rw [List.drop_eq_getElem_cons hi]
    generalize M.l[i] = x at hx
    have hwx := I.wk i x hx
    obtain ⟨os, o1, o2, o3⟩ := hwx.os
    have hd0 : x.d = none := hwx.nd (hidle i x hx)
    have hdn := hwx.dnw
    rw [hd0] at hdn
    have hdn : dn[i]? = some x.told.length := hdn
    rw [law08_StmSerial.l6, decide_eq_true (by omega), cond_true]
    dsimp only
    rw [told_ok I H hx, Option.bind_some, ints_at hdn, Option.bind_some, bne_self_eq_false, cond_false, w64i (by omega)]
    have hmore : more l x = decide ((x.told.length : Int) < (os.length : Int)) := by
      unfold more fd8
      rw [hwx.fi, o1, Option.bind_some]
      by_cases q : x.told.length < os.length
      · rw [List.getElem?_eq_getElem q, decide_eq_true (by omega)]; rfl
      · rw [List.getElem?_eq_none (by omega), decide_eq_false (by omega)]; rfl
    rw [List.any_cons, hmore]
    cases b with
    | true =>
      rw [cond_true, Option.bind_some]
      rw [ih K (i + 1) true (by omega) (by omega), Bool.true_or, Bool.true_or]
    | false =>
      rw [cond_false, Option.bind_some, Go.Proofs.at_of (i := (i : Int)) (by omega) o1, Option.bind_some, Option.bind_some]
      rw [ih K (i + 1) _ (by omega) (by omega), Bool.false_or]
theorem vals_l1 (L : List api_Cell) (lim : Int) (hL : L.length ≤ 1000) : ∀ (m K i : Nat), i + m = L.length → m < K → word_Store_Values.l1 ⟨L, lim⟩ K ((i : Int), (L.take i).map (·.Value)) = some (L.map (·.Value)) := by
  intro m
  induction m with
  | zero =>
    intro K i e hK
    obtain ⟨K, rfl⟩ : ∃ q, K = q + 1 := ⟨K - 1, by omega⟩
    rw [word_Store_Values.l1, decide_eq_false (by dsimp only; omega), cond_false, List.take_of_length_le (by omega)]
  | succ m ih =>
    intro K i e hK
    obtain ⟨K, rfl⟩ : ∃ q, K = q + 1 := ⟨K - 1, by omega⟩
    have hi : i < L.length := by omega
    rw [word_Store_Values.l1, decide_eq_true (by dsimp only; omega), cond_true]
    dsimp only
    rw [Go.Proofs.at_of (i := (i : Int)) (by omega) (List.getElem?_eq_getElem hi), Option.bind_some, app_ok _ _ (by simp; omega), Option.bind_some, w64i (by omega)]
    have : (L.take i).map (·.Value) ++ [L[i].Value] = (L.take (i + 1)).map (·.Value) := by rw [List.take_succ_eq_append_getElem hi, List.map_append]; rfl
    rw [this]
    exact ih K (i + 1) (by omega) (by omega)
theorem vals_ok (L : List api_Cell) (lim : Int) (hL : L.length ≤ 1000) (k : Nat) (hk : 1100 < k) : word_Store_Values.f k ⟨L, lim⟩ = some (L.map (·.Value)) := by
  unfold word_Store_Values.f
  have := vals_l1 L lim hL L.length k 0 (by omega) (by omega)
  rw [List.take_zero, List.map_nil] at this
  have this : word_Store_Values.l1 ⟨L, lim⟩ k (0, []) = some (L.map (·.Value)) := this
  rw [this]; rfl
theorem marks_l1 (L : List api_Cell) (lim : Int) (hL : L.length ≤ 1000) (h0 : ∀ i c, at_ L i = some c → c.Mark = 0) : ∀ (m K i : Nat), i + m = L.length → m < K → law08_marks.l1 ⟨L, lim⟩ K ((i : Int), 0) = some 0 := by
  intro m
  induction m with
  | zero =>
    intro K i e hK
    obtain ⟨K, rfl⟩ : ∃ q, K = q + 1 := ⟨K - 1, by omega⟩
    rw [law08_marks.l1]
    simp only [word_Store_Len.f, Option.bind_some]
    rw [decide_eq_false (by omega)]; rfl
  | succ m ih =>
    intro K i e hK
    obtain ⟨K, rfl⟩ : ∃ q, K = q + 1 := ⟨K - 1, by omega⟩
    have hi : i < L.length := by omega
    have hat : at_ L (i : Int) = some L[i] := Go.Proofs.at_of (i := (i : Int)) (by omega) (List.getElem?_eq_getElem hi)
    rw [law08_marks.l1]
    simp only [word_Store_Len.f, Option.bind_some]
    rw [decide_eq_true (by omega), cond_true, read_in lim hat, Option.bind_some]
    dsimp only
    rw [h0 _ _ hat, bne_self_eq_false, cond_false, w64i (by omega)]
    exact ih K (i + 1) (by omega) (by omega)
theorem idx_ok (gf : W8 → Bool) (l : List W8) (hl : l.length ≤ 100) : ∀ (m K i : Nat), i + m = l.length → m < K → stm_IndexFunc.l1 gf l K (i : Int) = some (bif (l.drop i).any gf then Brk.ret (((i + (l.drop i).findIdx gf : Nat)) : Int) else Brk.nx ()) := by
  intro m
  induction m with
  | zero =>
    intro K i e hK
    obtain ⟨K, rfl⟩ : ∃ q, K = q + 1 := ⟨K - 1, by omega⟩
    rw [stm_IndexFunc.l1, decide_eq_false (by omega), List.drop_of_length_le (by omega)]; rfl
  | succ m ih =>
    intro K i e hK
    obtain ⟨K, rfl⟩ : ∃ q, K = q + 1 := ⟨K - 1, by omega⟩
    have hi : i < l.length := by omega
    rw [stm_IndexFunc.l1, decide_eq_true (by omega), cond_true, Go.Proofs.at_of (i := (i : Int)) (by omega) (List.getElem?_eq_getElem hi), Option.bind_some, List.drop_eq_getElem_cons hi, List.any_cons, List.findIdx_cons]
    cases q : gf l[i] with
    | true => simp
    | false =>
      rw [cond_false, w64i (by omega), ih K (i + 1) (by omega) (by omega), Bool.false_or]
      cases q2 : (l.drop (i + 1)).any gf with
      | false => rfl
      | true => simp; omega
theorem idles_ok {n : Nat} {lim : Int} {l : Lists} {c : Nat} {M : M8c} {L want : List api_Cell} {dn : List Nat} (I : Inv n lim l c M L want dn) (H : Hyp n lim l) (hl : l.length ≤ 5) (hidle : ∀ (v : Nat) x, M.l[v]? = some x → x.job = none) (k : Nat) (hk : 100 < k) : idlesM (fd8 l) k M = some (!(M.l.any (more l))) := by
  have h0 : toldsOk M = true := by
    unfold toldsOk
    rw [List.all_eq_true]
    intro x hx
    obtain ⟨v, hv⟩ := List.getElem?_of_mem hx
    have := I.osl H hv
    unfold stm_next_n.f
    rw [clone_ok (by omega)]; rfl
  unfold idlesM
  rw [h0, cond_true]
  unfold stm_Idle.f stm_ContainsFunc.f stm_IndexFunc.f
  have h1 := idx_ok (idleM (fd8 l)) M.l (by rw [I.ll]; omega) M.l.length k 0 (by omega) (by rw [I.ll]; omega)
  rw [List.drop_zero] at h1
  have h1 : stm_IndexFunc.l1 (idleM (fd8 l)) M.l k 0 = _ := h1
  have h2 : M.l.any (idleM (fd8 l)) = M.l.any (more l) := by
    have : ∀ x ∈ M.l, idleM (fd8 l) x = more l x := fun x hx => by
      obtain ⟨v, hv⟩ := List.getElem?_of_mem hx
      unfold idleM more
      rw [hidle v x hv]; rfl
    rw [Bool.eq_iff_iff, List.any_eq_true, List.any_eq_true]
    constructor
    · rintro ⟨x, hx, hq⟩; exact ⟨x, hx, by rw [← this x hx]; exact hq⟩
    · rintro ⟨x, hx, hq⟩; exact ⟨x, hx, by rw [this x hx]; exact hq⟩
  rw [h1, h2]
  cases M.l.any (more l) with
  | false => rfl
  | true =>
    simp only [cond_true, Option.bind_some, Brk.go]
    rw [decide_eq_true (by omega)]
theorem ok (a0 a1 : Int) (a2 : List (List (List law06_Op))) (a3 : List Int) (w0 : fits .i64 a0) (w1 : fits .u32 a1) (w2 : (∀ os ∈ a2, ∀ ops ∈ os, ∀ x ∈ ops, wf_law06_Op x) ∧ a2.length ≤ maxLen) (w3 : ∀ x ∈ a3, (Lit.int .i64 x).wf = true) : ∃ k, law08_StmSerial.f k a0 a1 a2 a3 = some true := by
  have hN : ∀ os ∈ a2, ∀ ops ∈ os, ∀ x ∈ ops, 0 ≤ x.N := fun os h1 ops h2 x h3 => by
    have := w2.1 os h1 ops h2 x h3
    unfold wf_law06_Op at this
    have h9 : (Lit.int .u64 x.N).wf = true := this.2.2.2.2
    simp [Lit.wf, IntKind.min, IntKind.max, IntKind.signed, IntKind.bits] at h9
    exact h9.1
  have hlim : a1 ≤ 4294967295 := by
    have h9 : (Lit.int .u32 a1).wf = true := w1
    simp [Lit.wf, IntKind.min, IntKind.max, IntKind.signed, IntKind.bits] at h9
    omega
  refine ⟨a2.length + 200000, ?_⟩
  unfold law08_StmSerial.f
  rw [up_ok, Option.bind_some]
  obtain ⟨b, hb, hb2⟩ := small_ok a2 w2.2 (a2.length + 200000) (by omega)
  by_cases hg : a0 < 1 ∨ 20 < a0 ∨ a1 < 1
  · have : ((decide (a0 < 1) || decide (20 < a0)) || decide (a1 < 1)) = true := by rcases hg with h | h | h <;> simp [h]
    rw [this]
    simp
  have h8 : ((decide (a0 < 1) || decide (20 < a0)) || decide (a1 < 1)) = false := by rw [decide_eq_false (by omega), decide_eq_false (by omega), decide_eq_false (by omega)]; rfl
  rw [h8, cond_false, hb, Option.bind_some, Option.bind_some]
  cases b with
  | false => simp
  | true =>
    obtain ⟨h5, hos⟩ := hb2 rfl
    by_cases hg2 : 600 < (a3.length : Int)
    · rw [decide_eq_true hg2]; simp
    rw [decide_eq_false hg2]
    simp only [Bool.not_true, Bool.or_self, cond_false]
    obtain ⟨n, rfl⟩ : ∃ n : Nat, a0 = n := ⟨a0.toNat, by omega⟩
    have hmk : mk_ (⟨0, 0, 0⟩ : api_Cell) n = some (List.replicate n ⟨0, 0, 0⟩) := by
      unfold mk_; rw [decide_eq_true (by omega), decide_eq_true (by omega)]; rfl
    have hmk1 : mk_ (0 : Int) n = some (List.replicate n 0) := by
      unfold mk_; rw [decide_eq_true (by omega), decide_eq_true (by omega)]; rfl
    have hmk2 : mk_ (0 : Int) (a2.length : Int) = some (List.replicate a2.length 0) := by
      unfold mk_; rw [decide_eq_true (by omega), decide_eq_true (by omega)]; rfl
    have hnew : word_New.f n a1 = some (some ⟨List.replicate n ⟨0, 0, 0⟩, a1⟩, none) := by
      unfold word_New.f
      rw [decide_eq_false (by omega), decide_eq_false (by omega), decide_eq_false (by omega), hmk]; rfl
    have H : Hyp n a1 a2 := ⟨by omega, ⟨by omega, by omega⟩, fun os h => by have := (hos os h).1; omega, fun os h ops ho => ⟨by have := (hos os h).2 ops ho; omega, hN os h ops ho⟩⟩
    rw [hnew, Option.bind_some]
    simp only [oE, Option.isSome_none, cond_false]
    rw [jobsOk_ok _ _ (by omega) h5 (fun os h => (hos os h).1)]
    simp only [chk, cond_true, Option.bind_some]
    rw [newN_ok a2.length (by omega) _ (by omega), Option.bind_some]
    have I := Inv.begin_ H
    obtain ⟨M1, L1, want1, dn1, q1, I1⟩ := l1_ok H (a2.length + 200000) (by omega) a3 (by omega) a3.length (a2.length + 200000) 0 0 _ _ _ _ (by omega) (by omega) (by omega) I
    have q1 : law08_StmSerial.l1 a2 a3 (law08_jobs_1.f (a2.length + 200000)) (a2.length + 200000) (0, (newM (List law06_Op) (List.range a2.length), ⟨List.replicate n ⟨0, 0, 0⟩, a1⟩)) = some (M1, ⟨L1, a1⟩) := q1
    rw [q1, Option.bind_some]
    have hB : Bd n a2.length ≤ 630 := by
      unfold Bd Fc
      exact Nat.le_trans (Nat.mul_le_mul h5 (show 2 * (3 * n + 3) ≤ 126 by omega)) (by decide)
    have hP := I1.Pt_le
    have hP2 : (Bd n a2.length + 1) * a2.length ≤ 631 * 5 := Nat.mul_le_mul (by omega) h5
    obtain ⟨M, L, want, dn, c, q2, I2, hc, hidle⟩ := end_l1 H (a2.length + 200000) (by omega) h5 3785 0 (a2.length + 200000) 600 M1 L1 want1 dn1 I1 (by omega) (by omega) (by omega) (by omega)
    have q2 : law08_end.f (a2.length + 200000) (law08_jobs_1.f (a2.length + 200000)) (fd8 a2) (a2.length : Int) 5000 (M1, ⟨L1, a1⟩) = some (true, (M, ⟨L, a1⟩)) := by
      unfold law08_end.f
      have q2 : law08_end.l1 (law08_jobs_1.f (a2.length + 200000)) (fd8 a2) (a2.length : Int) 5000 (a2.length + 200000) (0, (M1, ⟨L1, a1⟩)) = some (Brk.ret (true, (M, ⟨L, a1⟩))) := q2
      rw [q2]; rfl
    rw [q2, Option.bind_some]
    dsimp only
    rw [Bool.not_true, cond_false, hmk1, Option.bind_some, hmk2, Option.bind_some, log_ok _ (by have := I2.c2; omega), Option.bind_some]
    have hov : ∀ (k : Nat) d, M.dl[k]? = some d → over d := fun k d hd => Decidable.byContradiction fun ho => by
      obtain ⟨w, x, u1, u2⟩ := I2.own k d hd ho
      rw [(I2.wk w x u1).nd (hidle w x u1)] at u2; cases u2
    have hfin : ∀ i c, at_ L i = some c → at_ want i = some c ∧ c.Mark = 0 := fun i c hc => by
      have h1 := I2.g.final hov hc
      refine ⟨h1, ?_⟩
      have h2 := I2.g.virt i c hc
      rw [h1] at h2; injection h2 with h2
      exact Decidable.byContradiction fun z => by
        obtain ⟨k, d, u1, _, u2⟩ := I2.g.holder hc z
        exact u2 (hov k d u1)
    have hints : (List.replicate a2.length (0 : Int)) = ints (List.replicate a2.length 0) := by unfold ints; simp
    have q3 := l2_ok I2 H (by omega) hidle ⟨L, a1⟩ M.log (a2.length + 200000) 0 (List.replicate n 0) (List.replicate a2.length 0) _ _ (List.drop_zero) (by omega) (by have := I2.c2; omega) I2.rp
    have q3 : law08_StmSerial.l2 a2 (M, ⟨L, a1⟩) M.log (a2.length + 200000) (0, List.replicate n 0, ints (List.replicate a2.length 0)) = some (Brk.nx (ints dn, want.map (·.Value))) := q3
    rw [hints, q3, Option.bind_some]
    simp only [Brk.go]
    have hLn := I2.g.lenL
    rw [vals_ok L a1 (by omega) _ (by omega), Option.bind_some]
    have q4 := l5_ok n (by omega) (want.map (·.Value)) (L.map (·.Value)) (by rw [List.length_map]; exact hLn) (fun j hj => by
      have hjl : j < L.length := by omega
      have hat : at_ L (j : Int) = some L[j] := Go.Proofs.at_of (i := (j : Int)) (by omega) (List.getElem?_eq_getElem hjl)
      rw [List.getElem?_map, List.getElem?_eq_getElem hjl, pget_at (hfin _ _ hat).1]; rfl) n (a2.length + 200000) 0 (by omega) (by omega)
    have q4 : law08_StmSerial.l5 (n : Int) (want.map (·.Value)) (L.map (·.Value)) (a2.length + 200000) 0 = some (Brk.nx ()) := q4
    rw [q4, Option.bind_some]
    simp only [Brk.go]
    have q5 := l6_ok I2 H h5 hidle ⟨L, a1⟩ a2.length (a2.length + 200000) 0 false (by omega) (by omega)
    have q5 : law08_StmSerial.l6 a2 (M, ⟨L, a1⟩) (ints dn) (a2.length + 200000) (0, false) = some (Brk.nx (M.l.any (more a2))) := q5
    rw [q5, Option.bind_some]
    simp only [Brk.go, cond_true]
    have q6 : law08_marks.f (a2.length + 200000) ⟨L, a1⟩ = some 0 := by
      unfold law08_marks.f
      have := marks_l1 L a1 (by omega) (fun i c hc => (hfin i c hc).2) L.length (a2.length + 200000) 0 (by omega) (by omega)
      have this : law08_marks.l1 ⟨L, a1⟩ (a2.length + 200000) (0, 0) = some 0 := this
      rw [this]; rfl
    rw [q6]
    simp only [Option.bind_some, beq_self_eq_true, cond_true]
    rw [idles_ok I2 H h5 hidle _ (by omega)]
    simp

theorem own : ownKnob Try.prog.godebug = none := by kernel_rfl
theorem laidOut : laidOutB Try.prog = true := by kernel_rfl
set_option maxRecDepth 100000 in
theorem lifted (os : Os) (started : os.Started) (H : Type) (enc : TypeId × Value → H) :
    ReturnsInHanded {} Try.checked os 3 .any (Rows.stmSerialSpec.pre6 enc Try.prog Try.f3 Rows.stmSerialRow.domain false) (Rows.stmSerialSpec.post enc Try.prog Try.f3 false true false false) := by
  refine returnsInHanded_of_change (C := Try.checked) own started (by kernel_rfl) Try.func3
    (ChangeSpec.witness6 (enc := enc) (C := Try.checked) false ⟨#[], #[.int .i64 0, .int .u32 0, .slice none 0 0, .slice none 0 0], []⟩ 8 (by kernel_rfl) (by kernel_rfl) (by kernel_rfl) (by kernel_rfl)) ?_
  intro W base args ds gs before hval0 hW hcnd _
  have hval : ∀ (j : Nat) t v, Try.f3.params[j]? = some t → args[j]? = some v → Value.okWide Try.prog W .any base t v := hval0
  have hW' := hW
  obtain ⟨p, q, hA0, hV, rfl, hfz, hnd⟩ := hW
  have hA : DataW.TrodAll enc Try.prog W 0 (fun _ => true) true Try.f3.params.toList args.toList ds p := hA0
  rw [Try.params3] at hA hval
  obtain ⟨v0, vs0, d0, ds0, p0, q0, hargs, rfl, rfl, h0, r0⟩ := trodAll_cons hA
  obtain ⟨v1, vs1, d1, ds1, p1, q1, rfl, rfl, rfl, h1, r1⟩ := trodAll_cons r0
  obtain ⟨v2, vs2, d2, ds2, p2, q2, rfl, rfl, rfl, h2, r2⟩ := trodAll_cons r1
  obtain ⟨v3, vs3, d3, ds3, p3, q3, rfl, rfl, rfl, h3, r3⟩ := trodAll_cons r2
  obtain ⟨rfl, rfl, rfl⟩ := trodAll_nil r3
  obtain rfl : args = #[v0, v1, v2, v3] := by cases args; simp_all
  obtain ⟨rfl, rfl⟩ := trodVars_none hV
  obtain ⟨a0, rfl, rfl, rfl, w0⟩ := open_int Try.underlying3 (hval 0 3 v0 rfl rfl) h0
  obtain ⟨a1, rfl, rfl, rfl, w1⟩ := open_int Try.underlying22 (hval 1 22 v1 rfl rfl) h1
  obtain ⟨a2, r2', w2⟩ := open_sl3 (K := ek_law06_Op) pa_law06_Op Try.underlying23 Try.underlying45 Try.underlying48 (by kernel_rfl) (by kernel_rfl) (by kernel_rfl) (hval 2 23 v2 rfl rfl) h2
  obtain ⟨a3, r3', w3, _⟩ := open_sl (K := ekI .i64) (parse_int Try.underlying3) Try.underlying24 (by kernel_rfl) (hval 3 24 v3 rfl rfl) h3
  obtain ⟨k, hk⟩ := ok a0 a1 a2 a3 w0 w1 w2 w3
  refine (Ct.law (law08_StmSerial.ct _ _ _ a0 a1 a2 a3 _ hk) (W := W) ⟨r2', r3'⟩).mono fun e W' ⟨he, hg⟩ => ?_
  subst he
  exact ⟨_, rfl, law_post hW' laidOut (by kernel_rfl) hg (by kernel_rfl) Try.underlying4 rfl rfl⟩
theorem over : Rows.stmSerialRow.holds Try.pinned (OpenSpec.ofChange Rows.stmSerialSpec) :=
  OpenClaim.holds_of_wide 3 Try.f3 rfl rfl rfl rfl rfl rfl rfl ⟨rfl, rfl, rfl, rfl, rfl⟩ rfl rfl rfl rfl rfl (by kernel_rfl) Try.func3 (by kernel_rfl)
    (of_decide_eq_true (by kernel_rfl)) (by unfold Func.isWrapper; first | (rw [if_pos (by decide +kernel)]; kernel_rfl) | (rw [if_neg (by decide +kernel)]; exact ⟨rfl, rfl⟩))
    (fun os started H enc _ => lifted os started H enc)
theorem proved : Rows.StmSerialSaid :=
  over
#print axioms proved
end Go.Proofs.Ytmodeilahcbidaa.stmSerial
