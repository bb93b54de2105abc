/- The given statement 'DescHelps' of the given program: whatever the input, the law answers true and the input reads as it did. On no condition. -/
import Derived.Test.YtlglafdeponjmaaFnDescHelps1
import Derived.Test.YtlglafdeponjmaaFr2
import Derived.Test.YtlglafdeponjmaaPlDescHelps0
import Derived.Test.YtlglafdeponjmaaRows
set_option linter.all false
namespace Go.Proofs.Ytlglafdeponjmaa.descHelps
open Go.ChangeShapes Go.WideShapes Go.ChangeAt Go.RowKit Go.Sl
def wf_tx_Entry (x : tx_Entry) : Prop := (fits .i64) x.Cell ∧ (fits .u32) x.Version ∧ (fits .u64) x.Old ∧ (fits .u64) x.New ∧ (fun _ => True) x.Write
theorem pa_tx_Entry : Parse Try.prog 53 (fun x : tx_Entry => [.int .i64 x.Cell, .int .u32 x.Version, .int .u64 x.Old, .int .u64 x.New, .bool x.Write]) wf_tx_Entry := by
  intro H enc w base sp hd n cs x h
  obtain ⟨xs, m, -, -, hl, hx, hf⟩ := DataW.trod_struct Try.underlying53 h
  rw [show Try.prog.cellsOf 53 = 5 by kernel_rfl] at hl
  obtain ⟨a0, e0, w0⟩ := parse_field (i := 0) (o := 0) (sz := 1) hx hf (parse_int Try.underlying3) rfl rfl rfl (by kernel_rfl)
  obtain ⟨a1, e1, w1⟩ := parse_field (i := 1) (o := 1) (sz := 1) hx hf (parse_int Try.underlying22) rfl rfl rfl (by kernel_rfl)
  obtain ⟨a2, e2, w2⟩ := parse_field (i := 2) (o := 2) (sz := 1) hx hf (parse_int Try.underlying51) rfl rfl rfl (by kernel_rfl)
  obtain ⟨a3, e3, w3⟩ := parse_field (i := 3) (o := 3) (sz := 1) hx hf (parse_int Try.underlying51) rfl rfl rfl (by kernel_rfl)
  obtain ⟨a4, e4, w4⟩ := parse_field (i := 4) (o := 4) (sz := 1) hx hf (parse_bool Try.underlying4) rfl rfl rfl (by kernel_rfl)
  clear hf hx h
  match cs, hl with
  | [c0, c1, c2, c3, c4], _ =>
    simp at e0 e1 e2 e3 e4
    subst e0 e1 e2 e3 e4
    exact ⟨⟨a0, a1, a2, a3, a4⟩, rfl, w0, w1, w2, w3, w4⟩

open Go.Proofs
theorem app1 {α : Type} (l : List α) (x : α) (h : l.length < 1000000) : app l [x] = some (l ++ [x]) := by
  have e9 : l.length + [x].length ≤ 4294967296 := by simp; omega
  unfold app; rw [decide_eq_true e9]; rfl
theorem app0 {α : Type} (l : List α) (h : l.length < 1000000) : app [] l = some l := by
  have e9 : ([] : List α).length + l.length ≤ 4294967296 := by simp; omega
  unfold app; rw [decide_eq_true e9]; rfl
theorem w64n {i : Nat} (h : i < 1000000) : w64 ((i : Int) + 1) = ((i + 1 : Nat) : Int) := by rw [w64_id (by omega) (by omega)]; omega
theorem tmod_b (a : Int) {b : Int} (hb : 0 < b) : -b < a.tmod b ∧ a.tmod b < b := by
  by_cases h : 0 ≤ a
  · rw [Int.tmod_eq_emod_of_nonneg h]
    have := Int.emod_nonneg a (by omega : b ≠ 0)
    have := Int.emod_lt_of_pos a hb
    omega
  · have e : a.tmod b = -((-a).tmod b) := by rw [Int.neg_tmod, Int.neg_neg]
    rw [e, Int.tmod_eq_emod_of_nonneg (by omega : 0 ≤ -a)]
    have := Int.emod_nonneg (-a) (by omega : b ≠ 0)
    have := Int.emod_lt_of_pos (-a) hb
    omega
/-- Entries that rise, within the cells. -/
def Ri (n : Nat) (x : List tx_Entry) (m : Nat) : Prop := ∀ (j : Nat) e, j < m → x[j]? = some e → (j : Int) ≤ e.Cell ∧ e.Cell < n ∧ ∀ (i : Nat) f, i < j → x[i]? = some f → f.Cell < e.Cell
theorem rising_ok (x : List tx_Entry) (n : Nat) (hn : n ≤ 30) (k : Nat) (hk : 40 < k) : ∃ b, law07_rising.f k x n = some b ∧ (b = true → Ri n x x.length ∧ x.length ≤ n) := by
  have key : ∀ (m k i : Nat), i + m = n → m + 2 < k → i ≤ x.length → Ri n x i → ∃ o, law07_rising.l1 x n k i = some o ∧ (o = Brk.ret false ∨ o = Brk.nx () ∧ Ri n x x.length ∧ x.length ≤ n) := by
    intro m
    induction m with
    | zero =>
      intro k i e hk hi hR
      obtain ⟨k, rfl⟩ : ∃ q, k = q + 1 := ⟨k - 1, by omega⟩
      unfold law07_rising.l1
      by_cases c : i < x.length
      · rw [decide_eq_true (by omega), cond_true]
        simp only [atn c, Option.bind_some]
        by_cases c1 : x[i].Cell < 0
        · rw [decide_eq_true c1]; exact ⟨_, rfl, .inl rfl⟩
        · rw [decide_eq_false c1, cond_false]
          by_cases c2 : (n : Int) ≤ x[i].Cell
          · rw [decide_eq_true c2]; exact ⟨_, rfl, .inl rfl⟩
          · rw [decide_eq_false c2, cond_false]
            have hi0 : 0 < i := by omega
            have hp := (hR (i - 1) x[i - 1] (by omega) (List.getElem?_eq_getElem (by omega))).1
            rw [decide_eq_true (by omega), cond_true, show w64 ((i : Int) - 1) = ((i - 1 : Nat) : Int) by rw [w64_id (by omega) (by omega)]; omega, atn (by omega : i - 1 < x.length), Option.bind_some]
            rw [decide_eq_true (by omega)]; exact ⟨_, rfl, .inl rfl⟩
      · rw [decide_eq_false (by omega)]
        have : i = x.length := by omega
        subst this
        exact ⟨_, rfl, .inr ⟨rfl, hR, by omega⟩⟩
    | succ m ih =>
      intro k i e hk hi hR
      obtain ⟨k, rfl⟩ : ∃ q, k = q + 1 := ⟨k - 1, by omega⟩
      unfold law07_rising.l1
      by_cases c : i < x.length
      · rw [decide_eq_true (by omega), cond_true]
        simp only [atn c, Option.bind_some]
        have go : ((i : Int) ≤ x[i].Cell) → x[i].Cell < n → (∀ (j : Nat) f, j < i → x[j]? = some f → f.Cell < x[i].Cell) → ∃ o, law07_rising.l1 x n k (w64 ((i : Int) + 1)) = some o ∧ (o = Brk.ret false ∨ o = Brk.nx () ∧ Ri n x x.length ∧ x.length ≤ n) := by
          intro g1 g2 g3
          rw [w64n (by omega : i < 1000000)]
          refine ih k (i + 1) (by omega) (by omega) (by omega) fun j e' hj he' => ?_
          by_cases q : j = i
          · subst q
            rw [List.getElem?_eq_getElem c] at he'; injection he' with he'; subst he'
            exact ⟨g1, g2, g3⟩
          · exact hR j e' (by omega) he'
        by_cases c1 : x[i].Cell < 0
        · rw [decide_eq_true c1]; exact ⟨_, rfl, .inl rfl⟩
        · rw [decide_eq_false c1, cond_false]
          by_cases c2 : (n : Int) ≤ x[i].Cell
          · rw [decide_eq_true c2]; exact ⟨_, rfl, .inl rfl⟩
          · rw [decide_eq_false c2, cond_false]
            by_cases hi0 : 0 < i
            · have hp := hR (i - 1) x[i - 1] (by omega) (List.getElem?_eq_getElem (by omega))
              rw [decide_eq_true (by omega), cond_true, show w64 ((i : Int) - 1) = ((i - 1 : Nat) : Int) by rw [w64_id (by omega) (by omega)]; omega, atn (by omega : i - 1 < x.length), Option.bind_some]
              by_cases c3 : x[i].Cell ≤ x[i - 1].Cell
              · rw [decide_eq_true c3]; exact ⟨_, rfl, .inl rfl⟩
              · rw [decide_eq_false c3]
                simp only [Option.bind_some, cond_false]
                refine go (by omega) (by omega) fun j f hj hf => ?_
                by_cases q : j = i - 1
                · subst q
                  rw [List.getElem?_eq_getElem (by omega)] at hf; injection hf with hf; subst hf; omega
                · have := hp.2.2 j f (by omega) hf; omega
            · rw [decide_eq_false (by omega), cond_false]
              simp only [Option.bind_some, cond_false]
              exact go (by omega) (by omega) fun j f hj _ => by omega
      · rw [decide_eq_false (by omega)]
        have : i = x.length := by omega
        subst this
        exact ⟨_, rfl, .inr ⟨rfl, hR, by omega⟩⟩
  obtain ⟨o, h1, h2⟩ := key n k 0 (by omega) (by omega) (by omega) (fun j e hj => by omega)
  unfold law07_rising.f
  rw [show ((0 : Nat) : Int) = 0 from rfl] at h1
  rw [h1]
  rcases h2 with h2 | ⟨h2, h3⟩
  · rw [h2]; exact ⟨false, rfl, fun z => by cases z⟩
  · rw [h2]; exact ⟨true, rfl, fun _ => h3⟩
/-- What holds throughout. -/
structure Hs (n : Nat) (l : List (List tx_Entry)) (ds : List desc_Desc) (L W : List api_Cell) : Prop where
  g : G 1000 n ds L W
  len : ds.length = l.length
  ls : ∀ (k : Nat) d, ds[k]? = some d → l[k]? = some d.l ∧ d.l.length ≤ 30
theorem l1_ok (l : List (List tx_Entry)) (h6 : l.length ≤ 6) (n : Nat) (hn : n ≤ 30) : ∀ (m k i : Nat) (ds : List desc_Desc), i + m = l.length → m + 100 < k → ds.length = i → Phi ds ≤ i * 61 →
    (∀ (j : Nat) d, ds[j]? = some d → d.mark = j + 1 ∧ d.status = 0 ∧ d.at_ = 0 ∧ l[j]? = some d.l ∧ Ri n d.l d.l.length ∧ d.l.length ≤ n) →
    law07_DescHelps.l1 n l true k (i, ((Phi ds + 1 : Nat) : Int), ds) = some (Brk.ret true) ∨ ∃ ds', law07_DescHelps.l1 n l true k (i, ((Phi ds + 1 : Nat) : Int), ds) = some (Brk.nx (ds', ((Phi ds' + 1 : Nat) : Int))) ∧ ds'.length = l.length ∧ Phi ds' ≤ 366 ∧
      (∀ (j : Nat) d, ds'[j]? = some d → d.mark = j + 1 ∧ d.status = 0 ∧ d.at_ = 0 ∧ l[j]? = some d.l ∧ Ri n d.l d.l.length ∧ d.l.length ≤ n) := by
  intro m
  induction m with
  | zero =>
    intro k i ds e hk hl hp h
    obtain ⟨k, rfl⟩ : ∃ q, k = q + 1 := ⟨k - 1, by omega⟩
    unfold law07_DescHelps.l1
    rw [decide_eq_false (by omega)]
    exact .inr ⟨ds, rfl, by omega, by omega, h⟩
  | succ m ih =>
    intro k i ds e hk hl hp h
    obtain ⟨k, rfl⟩ : ∃ q, k = q + 1 := ⟨k - 1, by omega⟩
    unfold law07_DescHelps.l1
    have hi : i < l.length := by omega
    rw [decide_eq_true (by omega), cond_true]
    obtain ⟨b, hb, hbt⟩ := rising_ok l[i] n hn k (by omega)
    simp only [atn hi, Option.bind_some, hb, w64n (by omega : i < 1000000)]
    cases b with
    | false => exact .inl rfl
    | true =>
      obtain ⟨r1, r2⟩ := hbt rfl
      have hnew : desc_New.f ((i + 1 : Nat) : Int) l[i] = some ⟨((i + 1 : Nat) : Int), l[i], 0, 0⟩ := by
        unfold desc_New.f
        have : slices_Clone_tx_Entry_tx_Entry.f l[i] = some l[i] := app0 _ (by omega)
        rw [this]; rfl
      rw [Bool.not_true, cond_false, hnew, Option.bind_some, app1 ds _ (by omega), Option.bind_some]
      have hP : Phi (ds ++ [(⟨((i + 1 : Nat) : Int), l[i], 0, 0⟩ : desc_Desc)]) = Phi ds + (2 * l[i].length + 1) := by
        unfold Phi
        rw [List.map_append, List.sum_append]
        simp [phi]; omega
      have hw : w64 ((w64 (((Phi ds + 1 : Nat) : Int) + (w64 (2 * (l[i].length : Int))))) + 1) = ((Phi (ds ++ [(⟨((i + 1 : Nat) : Int), l[i], 0, 0⟩ : desc_Desc)]) + 1 : Nat) : Int) := by
        rw [hP, w64_id (x := 2 * (l[i].length : Int)) (by omega) (by omega), w64_id (x := ((Phi ds + 1 : Nat) : Int) + 2 * (l[i].length : Int)) (by omega) (by omega), w64_id (by omega) (by omega)]; omega
      rw [hw]
      refine ih k (i + 1) (ds ++ [⟨((i + 1 : Nat) : Int), l[i], 0, 0⟩]) (by omega) (by omega) (by simp [hl]) (by omega) (fun j d hd => ?_)
      by_cases hj : j < ds.length
      · rw [List.getElem?_append_left hj] at hd; exact h j d hd
      · have hj' : j < (ds ++ [(⟨((i + 1 : Nat) : Int), l[i], 0, 0⟩ : desc_Desc)]).length := (List.getElem?_eq_some_iff.1 hd).1
        have : j = i := by simp at hj'; omega
        subst this
        rw [List.getElem?_append_right (by omega), show j - ds.length = 0 by omega] at hd
        injection hd with hd; subst hd
        exact ⟨by show ((j + 1 : Nat) : Int) = _; omega, rfl, rfl, List.getElem?_eq_getElem hi, r1, r2⟩
theorem begin_ (l : List (List tx_Entry)) (n : Nat) (hn : n ≤ 30) (ds : List desc_Desc) (hlen : ds.length = l.length)
    (h : ∀ (j : Nat) d, ds[j]? = some d → d.mark = j + 1 ∧ d.status = 0 ∧ d.at_ = 0 ∧ l[j]? = some d.l ∧ Ri n d.l d.l.length ∧ d.l.length ≤ n) : Hs n l ds (List.replicate n ⟨0, 0, 0⟩) (List.replicate n ⟨0, 0, 0⟩) := by
  have hc : ∀ (i : Int) c, at_ (List.replicate n (⟨0, 0, 0⟩ : api_Cell)) i = some c → c = ⟨0, 0, 0⟩ := fun i c q => List.eq_of_mem_replicate (List.mem_of_getElem? (at_val q).2.2)
  refine ⟨⟨fun k d hd => (h k d hd).1, fun k d hd => ?_, fun k d hd i j e f hij he hf => ?_, fun k d hd j e he => ?_, List.length_replicate, List.length_replicate, fun i c q hm => ?_, fun i c q => ?_⟩, hlen, fun k d hd => ?_⟩
  · obtain ⟨h1, h2, h3, h4, h5, h6⟩ := h k d hd
    exact ⟨by omega, by omega, by omega, by omega, .inl h2, fun _ j e hj => by omega, fun z => by omega⟩
  · have hj : j < d.l.length := (List.getElem?_eq_some_iff.1 hf).1
    exact ((h k d hd).2.2.2.2.1 j f hj hf).2.2 i e hij he
  · have hj : j < d.l.length := (List.getElem?_eq_some_iff.1 he).1
    have := (h k d hd).2.2.2.2.1 j e hj he
    omega
  · rw [hc i c q] at hm; exact absurd rfl hm
  · rw [q]; rw [hc i c q]; rfl
  · have := h k d hd
    exact ⟨this.2.2.2.1, by omega⟩
/-- What is wanted, once one is Done. -/
theorem l6_ok (l : List (List tx_Entry)) (x : List tx_Entry) (kk : Int) (hx : at_ l kk = some x) (h30 : x.length ≤ 30) (W : List api_Cell)
    (hin : ∀ (j : Nat) e, x[j]? = some e → ∃ c, at_ W e.Cell = some c ∧ c.Version = e.Version) (hr : ∀ (i j : Nat) e f, i < j → x[i]? = some e → x[j]? = some f → e.Cell < f.Cell) :
    ∀ (m k i : Nat) (V : List api_Cell), i + m = x.length → m < k → V.length = W.length → (∀ c, at_ V c = wantOf W (x.take i) c) →
    ∃ V', law07_DescHelps.l6 l kk k (i, V) = some (Brk.nx V') ∧ V'.length = W.length ∧ ∀ c, at_ V' c = wantOf W x c := by
  intro m
  induction m with
  | zero =>
    intro k i V e hk hl h
    obtain ⟨k, rfl⟩ : ∃ q, k = q + 1 := ⟨k - 1, by omega⟩
    unfold law07_DescHelps.l6
    rw [hx, Option.bind_some, decide_eq_false (by omega)]
    rw [List.take_of_length_le (by omega)] at h
    exact ⟨V, rfl, hl, h⟩
  | succ m ih =>
    intro k i V e hk hl h
    obtain ⟨k, rfl⟩ : ∃ q, k = q + 1 := ⟨k - 1, by omega⟩
    unfold law07_DescHelps.l6
    have hi : i < x.length := by omega
    have hxi : x[i]? = some x[i] := List.getElem?_eq_getElem hi
    obtain ⟨c, hc, hcv⟩ := hin i _ hxi
    have hnf : (x.take i).find? (fun f => f.Cell == x[i].Cell) = none := by
      refine List.find?_eq_none.2 fun f hf => ?_
      obtain ⟨j, hj, hjf⟩ := List.mem_iff_getElem.1 hf
      rw [List.getElem_take] at hjf
      rw [List.length_take] at hj
      have := hr j i f _ (by omega) (by rw [← hjf]; exact List.getElem?_eq_getElem (by omega)) hxi
      simp; omega
    have hVc : at_ V x[i].Cell = some c := by rw [h]; unfold wantOf; rw [hnf]; exact hc
    rw [hx, Option.bind_some, decide_eq_true (by omega), cond_true]
    simp only [Option.bind_some, atn hi, hVc, hcv, bne_self_eq_false, cond_false, w64n (by omega : i < 1000000)]
    have tk : x.take (i + 1) = x.take i ++ [x[i]] := by rw [List.take_succ_eq_append_getElem hi]
    have fnd : ∀ q : Int, (x.take (i + 1)).find? (fun f => f.Cell == q) = if q = x[i].Cell then some x[i] else (x.take i).find? (fun f => f.Cell == q) := by
      intro q
      rw [tk, List.find?_append]
      by_cases z : q = x[i].Cell
      · subst z; rw [if_pos rfl, hnf]; simp
      · rw [if_neg z]
        have : (x[i].Cell == q) = false := beq_false_of_ne (fun y => z y.symm)
        cases (x.take i).find? (fun f => f.Cell == q) with
        | some _ => rfl
        | none => simp [this]
    cases hw : x[i].Write with
    | true =>
      rw [cond_true]
      refine ih k (i + 1) _ (by omega) (by omega) (by rw [List.length_set]; exact hl) fun q => ?_
      rw [at_set hVc]
      unfold wantOf
      rw [fnd]
      by_cases z : q = x[i].Cell
      · rw [if_pos z, if_pos z]; dsimp only; rw [if_pos hw]
      · rw [if_neg z, if_neg z, h q]; rfl
    | false =>
      rw [cond_false]
      refine ih k (i + 1) _ (by omega) (by omega) hl fun q => ?_
      rw [h q]
      unfold wantOf
      rw [fnd]
      by_cases z : q = x[i].Cell
      · rw [if_pos z]; dsimp only; rw [if_neg (by rw [hw]; decide)]
        subst z; rw [hnf]
      · rw [if_neg z]
/-- One step, of whoever's turn it is. -/
theorem l4_one {n : Nat} {l : List (List tx_Entry)} {ds : List desc_Desc} {L W : List api_Cell} (H : Hs n l ds L W) {j : Nat} {d : desc_Desc} (hd : ds[j]? = some d) (K : Nat) (hK : 50 < K) (h : Nat) (hh : h ≤ l.length) (cnt : Int) :
    ∃ W', Hs n l (ds.set j (dstep 1000 d L).2.1) (dstep 1000 d L).2.2 W' ∧
      law07_DescHelps.l4 l (K + 1) (h, cnt, j, L, 1000, ds, W) = bif (dstep 1000 d L).1 == 0 then some (Brk.nx (w64 (cnt + 1), (dstep 1000 d L).2.2, 1000, ds.set j (dstep 1000 d L).2.1, W')) else ((bif decide ((dstep 1000 d L).1 < 1) then (some true) else (some (decide ((l.length : Int) < (dstep 1000 d L).1)))).bind fun c112 => (bif c112 then (some true) else (some ((h : Int) == (l.length : Int)))).bind fun c115 => bif c115 then (some (Brk.ret false)) else (law07_DescHelps.l4 l K (w64 ((h : Int) + 1), w64 (cnt + 1), w64 ((dstep 1000 d L).1 - 1), (dstep 1000 d L).2.2, 1000, ds.set j (dstep 1000 d L).2.1, W'))) := by
  have hj : j < ds.length := (List.getElem?_eq_some_iff.1 hd).1
  have hdi := H.g.di j d hd
  have hlen := H.len
  obtain ⟨km, kl⟩ := dstep_keeps 1000 d L
  have hls : ∀ (k : Nat) d2, (ds.set j (dstep 1000 d L).2.1)[k]? = some d2 → l[k]? = some d2.l ∧ d2.l.length ≤ 30 := fun k d2 q => by
    rw [get_set hd] at q
    by_cases z : j = k
    · subst z; rw [if_pos rfl] at q; injection q with q; subst q; rw [kl]; exact H.ls j d hd
    · rw [if_neg z] at q; exact H.ls k d2 q
  have hst : at_ ds (j : Int) = some d := by rw [atn hj]; rw [List.getElem?_eq_getElem hj] at hd; exact hd
  have hlj : at_ l (j : Int) = some d.l := at_of (by omega) (by rw [Int.toNat_natCast]; exact (H.ls j d hd).1)
  by_cases c : d.status = 0 ∧ (dstep 1000 d L).2.1.status = 1
  · -- it becomes Done
    have hat : d.at_ = d.l.length := by
      rcases hdi.atE with ⟨e1, e2⟩ | ⟨e, e1, e2, e3⟩
      · exact e2
      · exfalso
        have := c.2
        unfold dstep at this
        rw [if_neg (fun z => z c.1), e1] at this
        dsimp only at this
        have c1 := c.1
        cases hc : at_ L e.Cell with
        | none => rw [hc] at this; dsimp only at this; omega
        | some c' =>
          rw [hc] at this
          dsimp only at this
          split at this
          · dsimp only at this; omega
          · split at this
            · dsimp only at this; omega
            · split at this
              · dsimp only at this; omega
              · dsimp only at this; omega
    obtain ⟨V, hV1, hV2, hV3⟩ := l6_ok l d.l j hlj (H.ls j d hd).2 W (fun i e he => by
      obtain ⟨c', q1, q2, q3, q4⟩ := H.g.all hd c.1 hat he
      exact ⟨_, q4, q3⟩) (H.g.rise j d hd) d.l.length K 0 W (Nat.zero_add _) (by have := (H.ls j d hd).2; omega) rfl (fun q => by unfold wantOf; rfl)
    have hdone := H.g.done hd c.1 hat (want' := V) (hV2.trans H.g.lenW) (fun i c' hc' => by rw [hV3]; exact H.g.wantDone hd c.1 hat i c' hc')
    refine ⟨V, ⟨?_, by rw [List.length_set]; exact hlen, hls⟩, ?_⟩
    · rw [hdone.1]; exact hdone.2
    · rw [law07_DescHelps.l4]
      rw [decide_eq_true (by omega), cond_true, hst, Option.bind_some]
      unfold desc_Desc_Status.f
      rw [Option.bind_some, step_ok hdi, Option.bind_some]
      rw [hdone.1]
      dsimp only
      rw [show ((0 : Nat) : Int) = 0 from rfl] at hV1
      simp only [c.1, beq_self_eq_true, cond_true, Option.bind_some, hV1, Brk.go, Int.toNat_natCast]
  · refine ⟨W, ⟨H.g.step hd c, by rw [List.length_set]; exact hlen, hls⟩, ?_⟩
    rw [law07_DescHelps.l4]
    rw [decide_eq_true (by omega), cond_true, hst, Option.bind_some]
    unfold desc_Desc_Status.f
    rw [Option.bind_some, step_ok hdi, Option.bind_some]
    have hb : (bif d.status == 0 then ((some (dstep 1000 d L).2.1.status).bind fun t83 => some (t83 == 1)) else (some false)) = some false := by
      by_cases q : d.status = 0
      · have : ¬ (dstep 1000 d L).2.1.status = 1 := fun z => c ⟨q, z⟩
        rw [q, Option.bind_some, beq_false_of_ne this]; rfl
      · rw [beq_false_of_ne q]; rfl
    dsimp only
    rw [hb, Option.bind_some, cond_false, Option.bind_some]
    simp only [Brk.go, List.length_set, hlen, Int.toNat_natCast]
/-- One turn: it helps whoever is in its way. -/
theorem l4_ok {n : Nat} {l : List (List tx_Entry)} (h6 : l.length ≤ 6) {ds : List desc_Desc} {L : List api_Cell} : ∀ (m K h : Nat) (W : List api_Cell) (V : List Nat) (j : Nat) (cnt : Int), h + m = l.length → m + 60 < K → Hs n l ds L W → V.length = h → V.Nodup → j < l.length →
    (∀ v ∈ V, v < l.length ∧ ∃ (w : Int) (c : api_Cell), wcell ds v = some w ∧ c.Mark = (j : Int) + 1 ∧ ∃ z, w ≤ z ∧ at_ L z = some c) →
    ∃ cnt' ds' L' W', law07_DescHelps.l4 l K (h, cnt, j, L, 1000, ds, W) = some (Brk.nx (cnt', L', 1000, ds', W')) ∧ Hs n l ds' L' W' ∧ (∀ (i : Nat) d, ds[i]? = some d → over d → ds'[i]? = some d) ∧ ((∃ d, ds[j]? = some d ∧ over d ∧ ds' = ds) ∨ (∃ d, ds[j]? = some d ∧ ¬ over d ∧ Phi ds' < Phi ds)) := by
  intro m
  induction m with
  | zero | succ m ih => 
    intro K h W V j cnt e hK H hV hnd hj hv
    obtain ⟨K, rfl⟩ : ∃ q, K = q + 1 := ⟨K - 1, by omega⟩
    have hlen := H.len
    obtain ⟨d, hd⟩ : ∃ d, ds[j]? = some d := ⟨ds[j], List.getElem?_eq_getElem (by omega)⟩
    have hdi := H.g.di j d hd
    obtain ⟨W', H', hl4⟩ := l4_one H hd K (by omega) h (by omega) cnt
    rw [hl4]
    by_cases ho : over d
    · have hds := dstep_over (lim := 1000) (L := L) ho
      rw [hds] at H' ⊢
      have hself : ds.set j d = ds := by
        refine List.ext_getElem? fun i => ?_
        rw [get_set hd]; split
        · next z => subst z; exact hd.symm
        · rfl
      dsimp only at H' ⊢
      rw [hself] at H' ⊢
      exact ⟨_, ds, L, W', rfl, H', fun i d h _ => h, .inl ⟨d, hd, ho, rfl⟩⟩
    · rcases dstep_goes (lim := 1000) (L := L) hdi ho with ⟨g1, g2⟩ | ⟨g1, g2, g3, g4, en, c, g5, g6, g7⟩
      · rw [g1]
        have hP := Phi_set (dstep 1000 d L).2.1 hd
        refine ⟨_, _, _, W', rfl, H', fun i d2 q1 q2 => ?_, .inr ⟨d, hd, ho, by omega⟩⟩
        rw [get_set hd]
        have : j ≠ i := fun z => by subst z; rw [hd] at q1; injection q1 with q1; subst q1; exact ho q2
        rw [if_neg this]; exact q1
      · -- it waits
        have hself : ds.set j d = ds := by
          refine List.ext_getElem? fun i => ?_
          rw [get_set hd]; split
          · next z => subst z; exact hd.symm
          · rfl
        obtain ⟨j', d', hj1, hj2, hj3⟩ := H.g.holder g6 (by omega)
        have hj'l : j' < ds.length := (List.getElem?_eq_some_iff.1 hj1).1
        have hwc : wcell ds j = some en.Cell := by unfold wcell; rw [hd]; simp [g4, g5]
        have hnin : j ∉ V := fun z => by
          obtain ⟨_, w, c', q1, q2, y, q3, q4⟩ := hv j z
          rw [hwc] at q1; injection q1 with q1
          have := H.g.higher hd g4 q4 q2 g5
          omega
        have hnd' : (j :: V).Nodup := List.nodup_cons.2 ⟨hnin, hnd⟩
        have hlt := nodup_nat l.length (j :: V) hnd' (fun x hx => by
          rcases List.mem_cons.1 hx with z | z
          · omega
          · exact (hv x z).1)
        rw [List.length_cons, hV] at hlt
        rw [g1] at H' ⊢
        dsimp only at H' ⊢
        rw [hself] at H' ⊢
        rw [beq_false_of_ne g2, cond_false, decide_eq_false (by omega : ¬ (dstep 1000 d L).1 < 1), cond_false, Option.bind_some, decide_eq_false (by omega), cond_false, Option.bind_some, beq_false_of_ne (by omega), cond_false, w64n (by omega : h < 1000000), show w64 ((dstep 1000 d L).1 - 1) = (j' : Int) by rw [w64_id (by omega) (by omega)]; omega]
        first
        | omega
        | (obtain ⟨cnt', ds', L', W2, k1, k2, k3, k4⟩ := ih K (h + 1) W' (j :: V) j' (w64 (cnt + 1)) (by omega) (by omega) H' (by simp [hV]) hnd' (by omega) (fun v hv' => by
            rcases List.mem_cons.1 hv' with z | z
            · subst z; exact ⟨hj, en.Cell, c, hwc, by omega, en.Cell, Int.le_refl _, g6⟩
            · obtain ⟨q0, w, c', q1, q2, y, q3, q4⟩ := hv v z
              have := H.g.higher hd g4 q4 q2 g5
              exact ⟨q0, w, c, q1, by omega, en.Cell, by omega, g6⟩)
           refine ⟨cnt', ds', L', W2, k1, k2, k3, .inr ⟨d, hd, ho, ?_⟩⟩
           rcases k4 with ⟨x, x1, x2, _⟩ | ⟨x, _, _, x3⟩
           · rw [hj1] at x1; injection x1 with x1; subst x1; exact absurd x2 hj3
           · exact x3)
theorem l7_ok {n : Nat} {l : List (List tx_Entry)} (h6 : l.length ≤ 6) {ds : List desc_Desc} {L W : List api_Cell} (H : Hs n l ds L W) : ∀ (m K i c : Nat), i + m = l.length → m < K → c ≤ i → (c = 0 ↔ ∀ (j : Nat) d, j < i → ds[j]? = some d → over d) →
    ∃ c' : Nat, law07_DescHelps.l7 ds K (i, c) = some (c' : Int) ∧ (c' = 0 ↔ ∀ (j : Nat) d, ds[j]? = some d → over d) := by
  have hlen := H.len
  intro m
  induction m with
  | zero =>
    intro K i c e hK hc h
    obtain ⟨K, rfl⟩ : ∃ q, K = q + 1 := ⟨K - 1, by omega⟩
    unfold law07_DescHelps.l7
    rw [decide_eq_false (by omega)]
    refine ⟨c, rfl, h.trans ⟨fun q j d hd => q j d ?_ hd, fun q j d _ hd => q j d hd⟩⟩
    have := (List.getElem?_eq_some_iff.1 hd).1
    omega
  | succ m ih =>
    intro K i c e hK hc h
    obtain ⟨K, rfl⟩ : ∃ q, K = q + 1 := ⟨K - 1, by omega⟩
    unfold law07_DescHelps.l7
    have hi : i < ds.length := by omega
    have hd : ds[i]? = some ds[i] := List.getElem?_eq_getElem hi
    rw [decide_eq_true (by omega), cond_true, atn hi, Option.bind_some, over_ok (H.g.di i _ hd), Option.bind_some, w64n (by omega : i < 1000000)]
    by_cases ho : over ds[i]
    · have ho' : ds[i].status ≠ 0 ∧ ds[i].at_ = ds[i].l.length := ho
      rw [decide_eq_true ho', Bool.not_true, cond_false]
      refine ih K (i + 1) c (by omega) (by omega) (by omega) (h.trans ⟨fun q j d hj hd' => ?_, fun q j d hj hd' => q j d (by omega) hd'⟩)
      by_cases z : j = i
      · subst z; rw [hd] at hd'; injection hd' with hd'; subst hd'; exact ho
      · exact q j d (by omega) hd'
    · have ho' : ¬ (ds[i].status ≠ 0 ∧ ds[i].at_ = ds[i].l.length) := ho
      rw [decide_eq_false ho', Bool.not_false, cond_true, w64n (by omega : c < 1000000)]
      exact ih K (i + 1) (c + 1) (by omega) (by omega) (by omega) ⟨fun z => by omega, fun q => absurd (q i _ (by omega) hd) ho⟩
/-- A turn, and whether all are over by then. -/
theorem l2_one {n : Nat} {l : List (List tx_Entry)} (h16 : 1 ≤ l.length ∧ l.length ≤ 6) (steps : List Int) (h300 : steps.length ≤ 300) (T : Nat) (hT : T ≤ 1000) {ds : List desc_Desc} {L W : List api_Cell} (H : Hs n l ds L W) (K : Nat) (hK : 100 < K) (i : Nat) (hi : i < steps.length + T * l.length) (left : Int) (hleft : 0 < left) (cnt : Int) :
    ∃ (j : Nat) (left' : Nat) (cnt' : Int) (ds' : List desc_Desc) (L' W' : List api_Cell), j < l.length ∧ (steps.length ≤ i → j = i % l.length) ∧ law07_DescHelps.l2 l steps T (K + 1) (i, left, cnt, L, 1000, ds, W) = law07_DescHelps.l2 l steps T K (((i + 1 : Nat) : Int), (left' : Int), cnt', L', 1000, ds', W') ∧ Hs n l ds' L' W' ∧
      (left' = 0 ↔ ∀ (j : Nat) d, ds'[j]? = some d → over d) ∧ (∀ (i : Nat) d, ds[i]? = some d → over d → ds'[i]? = some d) ∧ ((∃ d, ds[j]? = some d ∧ over d ∧ ds' = ds) ∨ (∃ d, ds[j]? = some d ∧ ¬ over d ∧ Phi ds' < Phi ds)) := by
  have hlen := H.len
  have hTl : T * l.length ≤ 1000 * 6 := Nat.mul_le_mul hT h16.2
  have ew : w64 ((steps.length : Int) + (w64 ((T : Int) * (ds.length : Int)))) = ((steps.length + T * l.length : Nat) : Int) := by
    rw [hlen, show (T : Int) * (l.length : Int) = ((T * l.length : Nat) : Int) by omega, w64_id (x := ((T * l.length : Nat) : Int)) (by omega) (by omega), w64_id (by omega) (by omega)]; omega
  have hj : ∃ j : Nat, j < l.length ∧ (steps.length ≤ i → j = i % l.length) ∧ (bif decide ((i : Int) < (steps.length : Int)) then ((at_ steps (i : Int)).bind fun x54 => (chk (decide ((ds.length : Int) ≠ 0))).bind fun _ => bif decide ((x54.tmod (ds.length : Int)) < 0) then (some (w64 (0 - (x54.tmod (ds.length : Int))))) else (some (x54.tmod (ds.length : Int)))) else (some ((i : Int).tmod (ds.length : Int)))) = some (j : Int) := by
    by_cases c : i < steps.length
    · rw [decide_eq_true (by omega), cond_true, atn c, Option.bind_some, show chk (decide ((ds.length : Int) ≠ 0)) = some () by rw [decide_eq_true (by omega)]; rfl, Option.bind_some]
      obtain ⟨t1, t2⟩ := tmod_b steps[i] (b := (ds.length : Int)) (by omega)
      by_cases c : steps[i].tmod (ds.length : Int) < 0
      · rw [decide_eq_true c, cond_true, w64_id (by omega) (by omega)]
        exact ⟨(0 - steps[i].tmod (ds.length : Int)).toNat, by omega, fun z => by omega, by congr 1; omega⟩
      · rw [decide_eq_false c, cond_false]
        exact ⟨(steps[i].tmod (ds.length : Int)).toNat, by omega, fun z => by omega, by congr 1; omega⟩
    · rw [decide_eq_false (by omega), cond_false]
      exact ⟨i % l.length, Nat.mod_lt _ (by omega), fun _ => rfl, by rw [hlen]; rfl⟩
  obtain ⟨j, hj1, hj2, hj3⟩ := hj
  obtain ⟨cnt', ds', L', W', k1, k2, k3, k4⟩ := l4_ok h16.2 l.length K 0 W [] j cnt (by omega) (by omega) H rfl List.nodup_nil hj1 (fun v hv => by cases hv)
  obtain ⟨c', c1, c2⟩ := l7_ok h16.2 k2 l.length K 0 0 (by omega) (by omega) (by omega) ⟨fun _ j d hj => by omega, fun _ => rfl⟩
  refine ⟨j, c', cnt', ds', L', W', hj1, hj2, ?_, k2, c2, k3, k4⟩
  rw [show ((0 : Nat) : Int) = 0 from rfl] at k1 c1
  rw [law07_DescHelps.l2]
  rw [ew, decide_eq_true (by omega), decide_eq_true hleft, Bool.and_self, cond_true, show chk (decide ((ds.length : Int) ≠ 0)) = some () by rw [decide_eq_true (by omega)]; rfl, Option.bind_some]
  rw [show chk (decide ((ds.length : Int) ≠ 0)) = some () by rw [decide_eq_true (by omega)]; rfl] at hj3
  rw [hj3, Option.bind_some, k1, Option.bind_some]
  simp only [Brk.go]
  rw [c1, Option.bind_some, w64n (by omega : i < 1000000)]
theorem phi_le : ∀ {ds : List desc_Desc} {k : Nat} {d : desc_Desc}, ds[k]? = some d → phi d ≤ Phi ds
  | [], k, d, h => by simp at h
  | x :: ds, 0, d, h => by simp at h; subst h; unfold Phi; simp
  | x :: ds, k + 1, d, h => by
    have := phi_le (ds := ds) (d := d) (k := k) (by simpa using h)
    unfold Phi at *; simp at *; omega
/-- Each that isn't over has its turn soon. -/
def Soon (N i R : Nat) (ds : List desc_Desc) : Prop := ∃ (j : Nat) (d : desc_Desc) (D : Nat), ds[j]? = some d ∧ ¬ over d ∧ (i + D) % N = j ∧ D < N ∧ N * Phi ds + D + 1 ≤ R + N
theorem turn_of (N i j : Nat) (hj : j < N) : ∃ D, D < N ∧ (i + D) % N = j := by
  have hi := Nat.mod_lt i (by omega : N > 0)
  have e := Nat.div_add_mod i N
  by_cases c : i % N ≤ j
  · refine ⟨j - i % N, by omega, ?_⟩
    rw [show i + (j - i % N) = j + N * (i / N) by omega, Nat.add_mul_mod_self_left, Nat.mod_eq_of_lt hj]
  · refine ⟨N + j - i % N, by omega, ?_⟩
    rw [show i + (N + j - i % N) = j + N * (i / N + 1) by rw [Nat.mul_add]; omega, Nat.add_mul_mod_self_left, Nat.mod_eq_of_lt hj]
theorem l2_tail {n : Nat} {l : List (List tx_Entry)} (h16 : 1 ≤ l.length ∧ l.length ≤ 6) (steps : List Int) (h300 : steps.length ≤ 300) (T : Nat) (hT : T ≤ 1000) : ∀ (R K i left : Nat) (cnt : Int) (ds : List desc_Desc) (L W : List api_Cell), i + R = steps.length + T * l.length → steps.length ≤ i → R + 110 < K → Hs n l ds L W → (left = 0 ↔ ∀ (j : Nat) d, ds[j]? = some d → over d) → (left ≠ 0 → Soon l.length i R ds) →
    ∃ ds' L' W', law07_DescHelps.l2 l steps T K (i, (left : Int), cnt, L, 1000, ds, W) = some (Brk.nx (0, L', 1000, ds', W')) ∧ Hs n l ds' L' W' ∧ (∀ (j : Nat) d, ds'[j]? = some d → over d) := by
  have hTl : T * l.length ≤ 1000 * 6 := Nat.mul_le_mul hT h16.2
  intro R
  induction R with
  | zero =>
    intro K i left cnt ds L W e hi hK H hl hs
    obtain ⟨K, rfl⟩ : ∃ q, K = q + 1 := ⟨K - 1, by omega⟩
    have hlen := H.len
    have ew : w64 ((steps.length : Int) + (w64 ((T : Int) * (ds.length : Int)))) = ((steps.length + T * l.length : Nat) : Int) := by
      rw [hlen, show (T : Int) * (l.length : Int) = ((T * l.length : Nat) : Int) by omega, w64_id (x := ((T * l.length : Nat) : Int)) (by omega) (by omega), w64_id (by omega) (by omega)]; omega
    have hl0 : left = 0 := Decidable.byContradiction fun z => by
      obtain ⟨j, d, D, q1, q2, q3, q4, q5⟩ := hs z
      have h1 := phi_le q1
      have h2 : phi d ≠ 0 := fun y => q2 ((phi_over (H.g.di j d q1)).2 y)
      have : l.length * 1 ≤ l.length * Phi ds := Nat.mul_le_mul_left _ (by omega)
      omega
    subst hl0
    rw [law07_DescHelps.l2, ew, decide_eq_false (by omega : ¬ (i : Int) < ((steps.length + T * l.length : Nat) : Int))]
    exact ⟨ds, L, W, rfl, H, hl.1 rfl⟩
  | succ R ih =>
    intro K i left cnt ds L W e hi hK H hl hs
    obtain ⟨K, rfl⟩ : ∃ q, K = q + 1 := ⟨K - 1, by omega⟩
    by_cases hl0 : left = 0
    · subst hl0
      have : decide ((0 : Int) < ((0 : Nat) : Int)) = false := rfl
      rw [law07_DescHelps.l2, this, Bool.and_false]
      exact ⟨ds, L, W, rfl, H, hl.1 rfl⟩
    · obtain ⟨j, left', cnt', ds', L', W', k1, k2, k3, k4, k5, k6, k7⟩ := l2_one h16 steps h300 T hT H K (by omega) i (by omega) left (by omega) cnt
      have k2 := k2 hi
      rw [k3]
      obtain ⟨jj, d, D, q1, q2, q3, q4, q5⟩ := hs hl0
      obtain ⟨ds2, L2, W2, r1, r2, r3⟩ := ih K (i + 1) left' cnt' ds' L' W' (by omega) (by omega) (by omega) k4 k5 (fun z => by
        have hlen' := k4.len
        rcases k7 with ⟨x, x1, x2, x3⟩ | ⟨x, x1, x2, hP⟩
        · subst x3
          have hD : D ≠ 0 := fun y => by
            subst y
            have : jj = j := by rw [← q3, k2]; rfl
            subst this
            rw [q1] at x1; injection x1 with x1; subst x1; exact q2 x2
          exact ⟨jj, d, D - 1, q1, q2, by rw [← q3]; congr 1; omega, by omega, by omega⟩
        · obtain ⟨j2, d2, y1, y2⟩ : ∃ (j2 : Nat) (d2 : desc_Desc), ds'[j2]? = some d2 ∧ ¬ over d2 :=
            Classical.byContradiction fun y => z (k5.2 fun j2 d2 h2 => Classical.byContradiction fun y2 => y ⟨j2, d2, h2, y2⟩)
          have hj2 : j2 < ds'.length := (List.getElem?_eq_some_iff.1 y1).1
          obtain ⟨D2, y3, y4⟩ := turn_of l.length (i + 1) j2 (by omega)
          have : l.length * (Phi ds' + 1) ≤ l.length * Phi ds := Nat.mul_le_mul_left _ hP
          rw [Nat.mul_add] at this
          exact ⟨j2, d2, D2, y1, y2, y4, y3, by omega⟩)
      exact ⟨ds2, L2, W2, r1, r2, r3⟩
theorem l2_head {n : Nat} {l : List (List tx_Entry)} (h16 : 1 ≤ l.length ∧ l.length ≤ 6) (steps : List Int) (h300 : steps.length ≤ 300) (T : Nat) (hT : T ≤ 1000) : ∀ (m K i left : Nat) (cnt : Int) (ds : List desc_Desc) (L W : List api_Cell), i + m = steps.length → m + T * l.length + 120 < K → Hs n l ds L W → (left = 0 ↔ ∀ (j : Nat) d, ds[j]? = some d → over d) → Phi ds + 1 ≤ T →
    ∃ ds' L' W', law07_DescHelps.l2 l steps T K (i, (left : Int), cnt, L, 1000, ds, W) = some (Brk.nx (0, L', 1000, ds', W')) ∧ Hs n l ds' L' W' ∧ (∀ (j : Nat) d, ds'[j]? = some d → over d) := by
  have hTl : T * l.length ≤ 1000 * 6 := Nat.mul_le_mul hT h16.2
  intro m
  induction m with
  | zero =>
    intro K i left cnt ds L W hi hK H hl hP
    refine l2_tail h16 steps h300 T hT (T * l.length) K i left cnt ds L W (by omega) (by omega) (by omega) H hl fun z => ?_
    obtain ⟨j2, d2, y1, y2⟩ : ∃ (j2 : Nat) (d2 : desc_Desc), ds[j2]? = some d2 ∧ ¬ over d2 :=
      Classical.byContradiction fun y => z (hl.2 fun j2 d2 h2 => Classical.byContradiction fun y2 => y ⟨j2, d2, h2, y2⟩)
    have hj2 : j2 < ds.length := (List.getElem?_eq_some_iff.1 y1).1
    have hlen := H.len
    obtain ⟨D2, y3, y4⟩ := turn_of l.length i j2 (by omega)
    have : l.length * (Phi ds + 1) ≤ l.length * T := Nat.mul_le_mul_left _ hP
    rw [Nat.mul_add, Nat.mul_comm l.length T] at this
    exact ⟨j2, d2, D2, y1, y2, y4, y3, by omega⟩
  | succ m ih =>
    intro K i left cnt ds L W hi hK H hl hP
    obtain ⟨K, rfl⟩ : ∃ q, K = q + 1 := ⟨K - 1, by omega⟩
    by_cases hl0 : left = 0
    · subst hl0
      have : decide ((0 : Int) < ((0 : Nat) : Int)) = false := rfl
      rw [law07_DescHelps.l2, this, Bool.and_false]
      exact ⟨ds, L, W, rfl, H, hl.1 rfl⟩
    · obtain ⟨j, left', cnt', ds', L', W', k1, k2, k3, k4, k5, k6, k7⟩ := l2_one h16 steps h300 T hT H K (by omega) i (by omega) left (by omega) cnt
      rw [k3]
      refine ih K (i + 1) left' cnt' ds' L' W' (by omega) (by omega) k4 k5 ?_
      rcases k7 with ⟨x, x1, x2, x3⟩ | ⟨x, x1, x2, x3⟩
      · rw [x3]; exact hP
      · omega
theorem l8_ok {n : Nat} (hn : n ≤ 30) {l : List (List tx_Entry)} {ds : List desc_Desc} {L W : List api_Cell} (H : Hs n l ds L W) (hov : ∀ (j : Nat) d, ds[j]? = some d → over d) : ∀ (m K i : Nat), i + m = n → m < K → law07_DescHelps.l8 n L 1000 W K i = some (Brk.nx ()) := by
  intro m
  induction m with
  | zero =>
    intro K i e hK
    obtain ⟨K, rfl⟩ : ∃ q, K = q + 1 := ⟨K - 1, by omega⟩
    unfold law07_DescHelps.l8
    rw [decide_eq_false (by omega)]; rfl
  | succ m ih =>
    intro K i e hK
    obtain ⟨K, rfl⟩ : ∃ q, K = q + 1 := ⟨K - 1, by omega⟩
    unfold law07_DescHelps.l8
    have hL := H.g.lenL
    have hi : i < L.length := by omega
    have hf := H.g.final hov (atn hi)
    rw [decide_eq_true (by omega), cond_true, read_in 1000 (atn hi)]
    simp only [Option.bind_some, Option.isSome_none, cond_false, hf, decide_true, Bool.not_true, w64n (by omega : i < 1000000)]
    exact ih K (i + 1) (by omega) (by omega)
theorem ok (a0 : Int) (a1 : List (List tx_Entry)) (a2 : List Int) (w0 : fits .i64 a0) (w2 : ∀ x ∈ a2, (Lit.int .i64 x).wf = true) : ∃ k, law07_DescHelps.f k a0 a1 a2 = some true := by
  refine ⟨10000, ?_⟩
  unfold law07_DescHelps.f
  rw [show law07_up.f = some true by decide +kernel, Option.bind_some]
  by_cases hg : a0 < 1 ∨ 30 < a0 ∨ (a1.length : Int) < 1 ∨ (6 : Int) < a1.length ∨ (300 : Int) < a2.length
  · have : (((((decide (a0 < 1)) || (decide (30 < a0))) || (decide ((a1.length : Int) < 1))) || (decide (6 < (a1.length : Int)))) || (decide (300 < (a2.length : Int)))) = true := by
      rcases hg with h | h | h | h | h <;> simp [h]
    rw [this]; rfl
  have : (((((decide (a0 < 1)) || (decide (30 < a0))) || (decide ((a1.length : Int) < 1))) || (decide (6 < (a1.length : Int)))) || (decide (300 < (a2.length : Int)))) = false := by
    rw [decide_eq_false (by omega), decide_eq_false (by omega), decide_eq_false (by omega), decide_eq_false (by omega), decide_eq_false (by omega)]; rfl
  rw [this, cond_false]
  obtain ⟨n, rfl⟩ : ∃ n : Nat, a0 = n := ⟨a0.toNat, by omega⟩
  have hmk : mk_ (⟨0, 0, 0⟩ : api_Cell) n = some (List.replicate n ⟨0, 0, 0⟩) := by
    unfold mk_; rw [decide_eq_true (by omega), decide_eq_true (by omega)]; rfl
  have hnew : word_New.f n 1000 = some (some ⟨List.replicate n ⟨0, 0, 0⟩, 1000⟩, none) := by
    unfold word_New.f
    rw [decide_eq_false (by omega), decide_eq_false (by omega), decide_eq_false (by omega), hmk]; rfl
  rw [hnew, Option.bind_some]
  simp only [oE, Option.isSome_none, cond_false, hmk, Option.bind_some]
  have h1 := l1_ok a1 (by omega) n (by omega) a1.length 10000 0 [] (Nat.zero_add _) (by omega) rfl (by show 0 ≤ _; omega) (fun j d h => by simp at h)
  rw [show ((0 : Nat) : Int) = 0 from rfl, show ((Phi [] + 1 : Nat) : Int) = 1 from rfl] at h1
  rcases h1 with h1 | ⟨ds, h1, h2, h3, h4⟩
  · rw [h1]; rfl
  · rw [h1, Option.bind_some]
    have H := begin_ a1 n (by omega) ds h2 h4
    have h16 : 1 ≤ a1.length ∧ a1.length ≤ 6 := by omega
    have hm : (Phi ds + 1) * a1.length ≤ 367 * 6 := Nat.mul_le_mul (by omega) (by omega)
    obtain ⟨ds', L', W', r1, r2, r3⟩ := l2_head h16 a2 (by omega) (Phi ds + 1) (by omega) a2.length 10000 0 ds.length 0 ds _ _ (Nat.zero_add _) (by omega) H ⟨fun z => by omega, fun z => by
      have h0 : 0 < ds.length := by omega
      have := (z 0 ds[0] (List.getElem?_eq_getElem h0)).1
      exact absurd (h4 0 ds[0] (List.getElem?_eq_getElem h0)).2.1 this⟩ (Nat.le_refl _)
    rw [show ((0 : Nat) : Int) = 0 from rfl] at r1
    simp only [Brk.go]
    rw [r1, Option.bind_some]
    dsimp only
    have h8 := l8_ok (by omega) r2 r3 n 10000 0 (Nat.zero_add _) (by omega)
    rw [show ((0 : Nat) : Int) = 0 from rfl] at h8
    rw [h8]; rfl

theorem own : ownKnob Try.prog.godebug = none := by kernel_rfl
theorem laidOut : laidOutB Try.prog = true := by kernel_rfl
set_option maxRecDepth 100000 in
theorem lifted (os : Os) (started : os.Started) (H : Type) (enc : TypeId × Value → H) :
    ReturnsInHanded {} Try.checked os 4 .any (Rows.descHelpsSpec.pre6 enc Try.prog Try.f4 Rows.descHelpsRow.domain false) (Rows.descHelpsSpec.post enc Try.prog Try.f4 false true false false) := by
  refine returnsInHanded_of_change (C := Try.checked) own started (by kernel_rfl) Try.func4
    (ChangeSpec.witness6 (enc := enc) (C := Try.checked) false ⟨#[], #[.int .i64 0, .slice none 0 0, .slice none 0 0], []⟩ 8 (by kernel_rfl) (by kernel_rfl) (by kernel_rfl) (by kernel_rfl)) ?_
  intro W base args ds gs before hval0 hW hcnd _
  have hval : ∀ (j : Nat) t v, Try.f4.params[j]? = some t → args[j]? = some v → Value.okWide Try.prog W .any base t v := hval0
  have hW' := hW
  obtain ⟨p, q, hA0, hV, rfl, hfz, hnd⟩ := hW
  have hA : DataW.TrodAll enc Try.prog W 0 (fun _ => true) true Try.f4.params.toList args.toList ds p := hA0
  rw [Try.params4] at hA hval
  obtain ⟨v0, vs0, d0, ds0, p0, q0, hargs, rfl, rfl, h0, r0⟩ := trodAll_cons hA
  obtain ⟨v1, vs1, d1, ds1, p1, q1, rfl, rfl, rfl, h1, r1⟩ := trodAll_cons r0
  obtain ⟨v2, vs2, d2, ds2, p2, q2, rfl, rfl, rfl, h2, r2⟩ := trodAll_cons r1
  obtain ⟨rfl, rfl, rfl⟩ := trodAll_nil r2
  obtain rfl : args = #[v0, v1, v2] := by cases args; simp_all
  obtain ⟨rfl, rfl⟩ := trodVars_none hV
  obtain ⟨a0, rfl, rfl, rfl, w0⟩ := open_int Try.underlying3 (hval 0 3 v0 rfl rfl) h0
  obtain ⟨a1, r1'⟩ := open_sl2 (K := ek_tx_Entry) pa_tx_Entry Try.underlying23 Try.underlying37 (by kernel_rfl) (by kernel_rfl) (hval 1 23 v1 rfl rfl) h1
  obtain ⟨a2, r2', w2, _⟩ := open_sl (K := ekI .i64) (parse_int Try.underlying3) Try.underlying24 (by kernel_rfl) (hval 2 24 v2 rfl rfl) h2
  obtain ⟨k, hk⟩ := ok a0 a1 a2 w0 w2
  refine (Ct.law (law07_DescHelps.ct _ _ _ a0 a1 a2 _ hk) (W := W) ⟨r1', r2'⟩).mono fun e W' ⟨he, hg⟩ => ?_
  subst he
  exact ⟨_, rfl, law_post hW' laidOut (by kernel_rfl) hg (by kernel_rfl) Try.underlying4 rfl rfl⟩
theorem over : Rows.descHelpsRow.holds Try.pinned (OpenSpec.ofChange Rows.descHelpsSpec) :=
  OpenClaim.holds_of_wide 4 Try.f4 rfl rfl rfl rfl rfl rfl rfl ⟨rfl, rfl, rfl, rfl, rfl⟩ rfl rfl rfl rfl rfl (by kernel_rfl) Try.func4 (by kernel_rfl)
    (of_decide_eq_true (by kernel_rfl)) (by unfold Func.isWrapper; first | (rw [if_pos (by decide +kernel)]; kernel_rfl) | (rw [if_neg (by decide +kernel)]; exact ⟨rfl, rfl⟩))
    (fun os started H enc _ => lifted os started H enc)
theorem proved : Rows.DescHelpsSaid :=
  over
#print axioms proved
end Go.Proofs.Ytlglafdeponjmaa.descHelps
