/- Plain laws of what is reached, parts Ps6lRepL. On no condition. -/
import Derived.Test.YtmhopcicgnnbeaaGreatDoorFnReplayLong2
set_option linter.all false
/-! What a kernel that is made comes to, in plain words: more than there may be is refused. -/
set_option linter.unusedVariables false
namespace Go.Proofs
open Go.Sl
theorem aN {α : Type} {l : List α} {i : Nat} (h : i < l.length) : at_ l (i : Int) = some l[i] := at_of (i := (i : Int)) (by omega) (List.getElem?_eq_getElem h)
theorem wN {i : Nat} (h : i < 100000000) : w64 ((i : Int) + 1) = ((i + 1 : Nat) : Int) := by rw [w64_id (by omega) (by omega)]; omega
theorem apK {α : Type} (xs ys : List α) (h : xs.length + ys.length ≤ 100000000) : app xs ys = some (xs ++ ys) := by
  unfold app; rw [decide_eq_true (by omega)]; rfl
abbrev Cs := List (List (List Int))
def many (cs : Cs) : Bool := cs.any fun r => decide (40 < (r.length : Int))
theorem idxK (cs : Cs) (hl : cs.length ≤ 100) : ∀ (m K i : Nat), i + m = cs.length → m < K → kern_idx.l1 cs K (i : Int) = some (bif (cs.drop i).any (fun r => decide (40 < (r.length : Int))) then Brk.ret (((i + (cs.drop i).findIdx (fun r => decide (40 < (r.length : Int))) : Nat)) : Int) else Brk.nx ()) := by
  intro m
  induction m with
  | zero =>
    intro K i e hK
    obtain ⟨K, rfl⟩ : ∃ q, K = q + 1 := ⟨K - 1, by omega⟩
    rw [kern_idx.l1, decide_eq_false (by omega), List.drop_of_length_le (by omega)]; rfl
  | succ m ih =>
    intro K i e hK
    obtain ⟨K, rfl⟩ : ∃ q, K = q + 1 := ⟨K - 1, by omega⟩
    have hi : i < cs.length := by omega
    rw [kern_idx.l1, decide_eq_true (by omega), cond_true, aN hi, Option.bind_some, List.drop_eq_getElem_cons hi, List.any_cons, List.findIdx_cons]
    unfold kernel_New_1.f
    rw [Option.bind_some]
    cases q : decide (40 < (cs[i].length : Int)) with
    | true => simp
    | false =>
      rw [cond_false, wN (by omega), ih K (i + 1) (by omega) (by omega), Bool.false_or]
      cases q2 : (cs.drop (i + 1)).any (fun r => decide (40 < (r.length : Int))) with
      | false => rfl
      | true => simp; omega
theorem contains_ok (cs : Cs) (hl : cs.length ≤ 100) (k : Nat) (hk : 200 < k) : kern_contains.f k cs = some (many cs) := by
  have h1 := idxK cs hl cs.length k 0 (by omega) (by omega)
  rw [List.drop_zero] at h1
  have h1 : kern_idx.l1 cs k 0 = _ := h1
  unfold kern_contains.f kern_idx.f
  rw [h1]
  unfold many
  cases cs.any (fun r => decide (40 < (r.length : Int))) with
  | false => rfl
  | true =>
    simp only [cond_true, Option.bind_some, Brk.go]
    rw [decide_eq_true (by omega)]
theorem set_l1 (ws : List Int) (hw : ws.length ≤ 738) (lim : Int) : ∀ (m K i : Nat) (L : List api_Cell), i + m = ws.length → m < K → L.length = 738 → (∀ (j : Nat) c, L[j]? = some c → c.Mark = 0) → ∃ L', kernel_New.l1 ws K ((i : Int), L, lim) = some (Brk.nx (L', lim)) := by
  intro m
  induction m with
  | zero =>
    intro K i L e hK hL h0
    obtain ⟨K, rfl⟩ : ∃ q, K = q + 1 := ⟨K - 1, by omega⟩
    rw [kernel_New.l1, decide_eq_false (by omega)]
    exact ⟨L, rfl⟩
  | succ m ih =>
    intro K i L e hK hL h0
    obtain ⟨K, rfl⟩ : ∃ q, K = q + 1 := ⟨K - 1, by omega⟩
    have hi : i < ws.length := by omega
    have hiL : i < L.length := by omega
    have hm : L[i].Mark = 0 := h0 i L[i] (List.getElem?_eq_getElem hiL)
    have hset : word_Store_Set.f ⟨L, lim⟩ (i : Int) ws[i] = some (none, ⟨L.set i { L[i] with Value := ws[i] }, lim⟩) := by
      unfold word_Store_Set.f word_Store_has.f
      rw [decide_eq_true (by omega), cond_true, Option.bind_some, decide_eq_true (by dsimp only; omega), Option.bind_some]
      simp only [Bool.not_true, cond_false, aN hiL, Option.bind_some, hm, bne_self_eq_false]
      rfl
    rw [kernel_New.l1, decide_eq_true (by omega), cond_true, aN hi, Option.bind_some, hset, Option.bind_some]
    dsimp only
    rw [Option.isSome_none, cond_false, wN (by omega)]
    refine ih K (i + 1) _ (by omega) (by omega) (by rw [List.length_set]; exact hL) (fun j c hc => ?_)
    by_cases q : i = j
    · subst q; rw [List.getElem?_set_self hiL] at hc; injection hc with hc; subst hc; exact hm
    · rw [List.getElem?_set_ne q] at hc; exact h0 j c hc
theorem cop_l2 (r : List (List Int)) (hr : r.length ≤ 100) (hc : ∀ c ∈ r, c.length ≤ 17592186044416) : ∀ (m K i : Nat) (acc : List Nat), i + m = r.length → m < K → acc.length = i → ∃ z, kernel_copied.l2 r K ((i : Int), acc) = some z ∧ z.length = r.length := by
  intro m
  induction m with
  | zero =>
    intro K i acc e hK ha
    obtain ⟨K, rfl⟩ : ∃ q, K = q + 1 := ⟨K - 1, by omega⟩
    rw [kernel_copied.l2, decide_eq_false (by omega)]
    exact ⟨acc, rfl, by omega⟩
  | succ m ih =>
    intro K i acc e hK ha
    obtain ⟨K, rfl⟩ : ∃ q, K = q + 1 := ⟨K - 1, by omega⟩
    have hi : i < r.length := by omega
    have := hc r[i] (List.getElem_mem hi)
    rw [kernel_copied.l2, decide_eq_true (by omega), cond_true, aN hi, Option.bind_some]
    unfold slices_Clone_uint64_uint64.f appW
    rw [decide_eq_true this, cond_true, Option.bind_some, apK _ _ (by simp; omega), Option.bind_some, wN (by omega)]
    exact ih K (i + 1) _ (by omega) (by omega) (by simp; omega)
theorem cop_l1 (cs : Cs) (hl : cs.length ≤ 100) (hr : ∀ r ∈ cs, r.length ≤ 100 ∧ ∀ c ∈ r, c.length ≤ 17592186044416) : ∀ (m K i : Nat), i + m = cs.length → m + 200 < K → kernel_copied.l1 cs K ((i : Int), (cs.take i).map List.length) = some (cs.map List.length) := by
  intro m
  induction m with
  | zero =>
    intro K i e hK
    obtain ⟨K, rfl⟩ : ∃ q, K = q + 1 := ⟨K - 1, by omega⟩
    rw [kernel_copied.l1, decide_eq_false (by omega), cond_false, List.take_of_length_le (by omega)]
  | succ m ih =>
    intro K i e hK
    obtain ⟨K, rfl⟩ : ∃ q, K = q + 1 := ⟨K - 1, by omega⟩
    have hi : i < cs.length := by omega
    obtain ⟨h1, h2⟩ := hr cs[i] (List.getElem_mem hi)
    obtain ⟨z, hz, hzl⟩ := cop_l2 cs[i] h1 h2 cs[i].length K 0 [] (by omega) (by omega) rfl
    have hz : kernel_copied.l2 cs[i] K (0, []) = some z := hz
    rw [kernel_copied.l1, decide_eq_true (by omega), cond_true, aN hi, Option.bind_some, hz, Option.bind_some, apK _ _ (by simp; omega), Option.bind_some, wN (by omega), hzl]
    have : (cs.take i).map List.length ++ [cs[i].length] = (cs.take (i + 1)).map List.length := by rw [List.take_succ_eq_append_getElem hi, List.map_append]; rfl
    rw [this]
    exact ih K (i + 1) (by omega) (by omega)
theorem cop_ok (cs : Cs) (hl : cs.length ≤ 100) (hr : ∀ r ∈ cs, r.length ≤ 100 ∧ ∀ c ∈ r, c.length ≤ 17592186044416) (k : Nat) (hk : 400 < k) : kernel_copied.f k cs = some (cs.map List.length) := by
  have h := cop_l1 cs hl hr cs.length k 0 (by omega) (by omega)
  rw [List.take_zero] at h
  have h : kernel_copied.l1 cs k (0, []) = _ := h
  unfold kernel_copied.f
  rw [h]; rfl
theorem new_l2 (ns : List Nat) (hl : ns.length ≤ 100) : ∀ (m K i : Nat), i + m = ns.length → m < K → kernel_New.l2 ns K ((i : Int), ns.take i) = some ns := by
  intro m
  induction m with
  | zero =>
    intro K i e hK
    obtain ⟨K, rfl⟩ : ∃ q, K = q + 1 := ⟨K - 1, by omega⟩
    rw [kernel_New.l2, decide_eq_false (by omega), cond_false, List.take_of_length_le (by omega)]
  | succ m ih =>
    intro K i e hK
    obtain ⟨K, rfl⟩ : ∃ q, K = q + 1 := ⟨K - 1, by omega⟩
    have hi : i < ns.length := by omega
    rw [kernel_New.l2, decide_eq_true (by omega), cond_true, aN hi, Option.bind_some, apK _ _ (by simp; omega), Option.bind_some, wN (by omega)]
    rw [show ns.take i ++ [ns[i]] = ns.take (i + 1) from by simp]
    exact ih K (i + 1) (by omega) (by omega)
/-- Why a kernel isn't made. -/
def errK (ws : List Int) (lim : Int) (cs : Cs) : Option Int := if 8 ≤ cs.length ∨ many cs = true then some 13 else if lim < 1 ∨ 738 < ws.length then some 1 else none
theorem new_ok (ws : List Int) (lim : Int) (cs : Cs) (hl : cs.length ≤ 100) (hc : ∀ r ∈ cs, ∀ c ∈ r, c.length ≤ 17592186044416) (k : Nat) (hk : 1000 < k) : ∃ s ns, kernel_New.f k ws lim cs = some (errK ws lim cs, s, ns) ∧ (errK ws lim cs = none → ns = cs.map List.length) := by
  unfold kernel_New.f errK
  by_cases h8 : 8 ≤ cs.length
  · rw [decide_eq_true (by omega : (8 : Int) ≤ (cs.length : Int)), if_pos (.inl h8)]
    exact ⟨_, _, rfl, fun z => by cases z⟩
  · rw [decide_eq_false (by omega : ¬ (8 : Int) ≤ (cs.length : Int)), cond_false, contains_ok cs hl k (by omega), Option.bind_some, Option.bind_some]
    cases hm : many cs with
    | true => rw [if_pos (.inr rfl)]; exact ⟨_, _, rfl, fun z => by cases z⟩
    | false =>
      rw [cond_false, if_neg (by simp; omega)]
      unfold wNew wNewE word_New.f lay_Size.f
      by_cases hL : lim < 1
      · rw [decide_eq_true hL, if_pos (.inl hL)]
        simp only [cond_true, Option.bind_some, Bool.or_true]
        exact ⟨_, _, rfl, fun z => by cases z⟩
      · have hmk : mk_ (⟨0, 0, 0⟩ : api_Cell) 738 = some (List.replicate 738 ⟨0, 0, 0⟩) := by
          unfold mk_; rw [decide_eq_true (by decide), decide_eq_true (by decide)]; rfl
        simp only [decide_eq_false hL, cond_false, hmk, Bool.or_false, Option.bind_some, show (decide ((738 : Int) < 1) || decide ((1024 : Int) < 738)) = false by decide, cond_false]
        by_cases h7 : 738 < ws.length
        · rw [decide_eq_true (by omega : (738 : Int) < (ws.length : Int)), if_pos (.inr h7)]
          exact ⟨_, _, rfl, fun z => by cases z⟩
        · rw [decide_eq_false (by omega : ¬ (738 : Int) < (ws.length : Int)), if_neg (by omega), cond_false]
          obtain ⟨L', hL'⟩ := set_l1 ws (by omega) lim ws.length k 0 (List.replicate 738 ⟨0, 0, 0⟩) (by omega) (by omega) List.length_replicate (fun j c hj => by
            rw [List.getElem?_replicate] at hj
            split at hj
            · injection hj with hj; subst hj; rfl
            · cases hj)
          have hL' : kernel_New.l1 ws k (0, List.replicate 738 ⟨0, 0, 0⟩, lim) = _ := hL'
          have hr : ∀ r ∈ cs, r.length ≤ 100 ∧ ∀ c ∈ r, c.length ≤ 17592186044416 := fun r hr => by
            refine ⟨?_, hc r hr⟩
            have := hm
            unfold many at this
            rw [List.any_eq_false] at this
            have := this r hr
            simp at this; omega
          have h2 := new_l2 (cs.map List.length) (by rw [List.length_map]; exact hl) cs.length k 0 (by simp) (by omega)
          rw [List.take_zero] at h2
          have h2 : kernel_New.l2 (cs.map List.length) k (0, []) = some (cs.map List.length) := h2
          rw [hL']
          simp only [Option.bind_some, Brk.go]
          rw [cop_ok cs hl hr k (by omega), Option.bind_some, h2, Option.bind_some, decide_eq_true (by rw [List.length_map]; omega), decide_eq_true (by omega)]
          exact ⟨_, _, rfl, fun _ => rfl⟩
theorem run_l1 (cs : Cs) (hl : cs.length ≤ 100) (k2 : Nat) : ∀ (m K i : Nat) (acc : List (List api_Reply)), i + m = cs.length → m + 10 < K → acc.length = i → ∃ z, replay_Run_nil.l1 cs (List.replicate (cs.length + 1) []) K ((i : Int), acc) = some z := by
  intro m
  induction m with
  | zero =>
    intro K i acc e hK ha
    obtain ⟨K, rfl⟩ : ∃ q, K = q + 1 := ⟨K - 1, by omega⟩
    rw [replay_Run_nil.l1, decide_eq_false (by omega)]
    exact ⟨acc, rfl⟩
  | succ m ih =>
    intro K i acc e hK ha
    obtain ⟨K, rfl⟩ : ∃ q, K = q + 2 := ⟨K - 2, by omega⟩
    have ht : kernel_Told.f (K + 1) [] = some [] := rfl
    rw [replay_Run_nil.l1, decide_eq_true (by omega), cond_true, aN (by simp; omega), Option.bind_some, List.getElem_replicate, ht, Option.bind_some, apK _ _ (by simp; omega), Option.bind_some, wN (by omega)]
    exact ih (K + 1) (i + 1) _ (by omega) (by omega) (by simp; omega)
theorem run_ok (ws : List Int) (lim : Int) (cs : Cs) (hl : cs.length ≤ 100) (hc : ∀ r ∈ cs, ∀ c ∈ r, c.length ≤ 17592186044416) (k : Nat) (hk : 1000 < k) : ∃ w rp, replay_Run_nil.f k ws lim cs = some (errK ws lim cs, w, rp) ∧ (errK ws lim cs = none → w = cpy (List.replicate 738 0) ws) := by
  obtain ⟨s, ns, h1, _⟩ := new_ok ws lim cs hl hc k hk
  unfold replay_Run_nil.f
  rw [h1, Option.bind_some]
  cases errK ws lim cs with
  | some c => exact ⟨_, _, rfl, fun z => by cases z⟩
  | none =>
    have hmk : mk_ (0 : Int) 738 = some (List.replicate 738 0) := by
      unfold mk_; rw [decide_eq_true (by decide), decide_eq_true (by decide)]; rfl
    have hmk2 : mk_ ([] : List Int) (w64 ((cs.length : Int) + 1)) = some (List.replicate (cs.length + 1) []) := by
      rw [wN (by omega)]
      unfold mk_; rw [decide_eq_true (by omega), decide_eq_true (by omega)]; rfl
    obtain ⟨z, hz⟩ := run_l1 cs hl k cs.length k 0 [] (by omega) (by omega) rfl
    have hz : replay_Run_nil.l1 cs (List.replicate (cs.length + 1) []) k (0, []) = some z := hz
    unfold oE lay_Size.f
    rw [Option.bind_some, hmk, Option.bind_some, hmk2, Option.bind_some, hz]
    exact ⟨_, _, rfl, fun _ => rfl⟩
theorem picks_ok (ws : List Int) (lim : Int) (cs : Cs) (hl : cs.length ≤ 100) (hc : ∀ r ∈ cs, ∀ c ∈ r, c.length ≤ 17592186044416) (k : Nat) (hk : 1000 < k) : replay_Picks_nil.f k ws lim cs = some (errK ws lim cs) := by
  obtain ⟨s, ns, h1, _⟩ := new_ok ws lim cs hl hc k hk
  unfold replay_Picks_nil.f
  rw [h1, Option.bind_some]
  cases errK ws lim cs <;> rfl
theorem same_l1 (ws : List Int) (hw : ws.length ≤ 2000) : ∀ (m K i : Nat), i + m = ws.length → m < K → ref10_Same.l1 ws ws K (i : Int) = some (Brk.nx ()) := by
  intro m
  induction m with
  | zero =>
    intro K i e hK
    obtain ⟨K, rfl⟩ : ∃ q, K = q + 1 := ⟨K - 1, by omega⟩
    rw [ref10_Same.l1, decide_eq_false (by omega)]; rfl
  | succ m ih =>
    intro K i e hK
    obtain ⟨K, rfl⟩ : ∃ q, K = q + 1 := ⟨K - 1, by omega⟩
    have hi : i < ws.length := by omega
    rw [ref10_Same.l1, decide_eq_true (by omega), cond_true, aN hi, Option.bind_some, Option.bind_some, bne_self_eq_false, cond_false, wN (by omega)]
    exact ih K (i + 1) (by omega) (by omega)
theorem same_ok (ws : List Int) (hw : ws.length ≤ 2000) (k : Nat) (hk : 2000 < k) : ref10_Same.f k ws ws = some true := by
  have h := same_l1 ws hw ws.length k 0 (by omega) (by omega)
  have h : ref10_Same.l1 ws ws k 0 = _ := h
  unfold ref10_Same.f
  rw [bne_self_eq_false, cond_false, h]; rfl
theorem bu_ok : ((law22_Boot_up.f 3000).map fun r => (r.1.length, r.2)) = some (738, [0]) := by decide +kernel
theorem up_ok : law23_up.f 3000 = some true := by
  have hb := bu_ok
  unfold law23_up.f
  cases h : law22_Boot_up.f 3000 with
  | none => rw [h] at hb; cases hb
  | some r =>
    obtain ⟨ws, zs⟩ := r
    rw [h] at hb
    simp only [Option.map_some, Option.some.injEq, Prod.mk.injEq] at hb
    obtain ⟨hl, rfl⟩ := hb
    have hc : ∀ r ∈ ([[]] : Cs), ∀ c ∈ r, c.length ≤ 17592186044416 := fun r hr c hcr => by simp at hr; subst hr; cases hcr
    have he : errK ws 9 [[]] = none := by
      unfold errK many
      rw [if_neg (by simp), if_neg (by omega)]
    obtain ⟨s, ns, h1, h2⟩ := new_ok ws 9 [[]] (by simp) hc 3000 (by omega)
    obtain ⟨w, rp, h3, h4⟩ := run_ok ws 9 [[]] (by simp) hc 3000 (by omega)
    have hns := h2 he
    have hw := h4 he
    rw [he] at h1 h3
    subst hns
    have hnew : newUp 3000 ws 9 [[]] = some () := by
      unfold newUp
      rw [h1]; rfl
    have hcpy : w = ws := by
      rw [hw]
      unfold cpy
      rw [List.length_replicate, List.take_of_length_le (by omega), hl, List.drop_of_length_le (by rw [List.length_replicate]; exact Nat.le_refl _), List.append_nil]
    subst hcpy
    have hrun : runUp 3000 w 9 [[]] = some (w, rp) := by
      unfold runUp
      rw [h3]; rfl
    have hpicks : replay_Picks_up.f 3000 w 9 [[]] = some [6] := by
      unfold replay_Picks_up.f
      rw [hnew]; rfl
    have hrun2 : replay_Run_up.f 3000 w 9 = some () := by
      unfold replay_Run_up.f lay_Size.f
      rw [hnew, Option.bind_some, Option.bind_some]
      have hmk : mk_ (0 : Int) 738 = some (List.replicate 738 0) := by
        unfold mk_; rw [decide_eq_true (by decide), decide_eq_true (by decide)]; rfl
      rw [hmk]; rfl
    rw [Option.bind_some]
    dsimp only
    rw [show chk (decide ([0] = [0])) = some () from rfl, Option.bind_some, hrun, Option.bind_some]
    dsimp only
    rw [hpicks, Option.bind_some, hrun2, Option.bind_some, same_ok w (by omega) 3000 (by omega)]
    rfl
theorem code_ok : law00_Code.f 3000 none = some 0 ∧ law00_Code.f 3000 (some 1) = some 1 ∧ law00_Code.f 3000 (some 13) = some 13 := ⟨rfl, by decide +kernel, by decide +kernel⟩
theorem errK_is (ws : List Int) (lim : Int) (cs : Cs) : errK ws lim cs = none ∨ errK ws lim cs = some 1 ∨ errK ws lim cs = some 13 := by
  unfold errK
  split
  · exact .inr (.inr rfl)
  · split
    · exact .inr (.inl rfl)
    · exact .inl rfl
theorem replayLong_ok (more : Int) (ws : List Int) (lim : Int) (cs : Cs) (hc : ∀ r ∈ cs, ∀ c ∈ r, c.length ≤ 17592186044416) : law23_ReplayLong.f 3000 more ws lim cs = some true := by
  unfold law23_ReplayLong.f
  rw [up_ok, Option.bind_some]
  by_cases hg : more < 0 ∨ 10 < more ∨ 1000 < (ws.length : Int) ∨ 20 < (cs.length : Int)
  · have : ((((decide (more < 0)) || (decide (10 < more))) || (decide (1000 < (ws.length : Int)))) || (decide (20 < (cs.length : Int)))) = true := by
      rcases hg with h | h | h | h <;> simp [h]
    rw [this]; rfl
  have h0 : ((((decide (more < 0)) || (decide (10 < more))) || (decide (1000 < (ws.length : Int)))) || (decide (20 < (cs.length : Int)))) = false := by
    rw [decide_eq_false (by omega), decide_eq_false (by omega), decide_eq_false (by omega), decide_eq_false (by omega)]; rfl
  rw [h0, cond_false]
  obtain ⟨mn, rfl⟩ : ∃ m : Nat, more = m := ⟨more.toNat, by omega⟩
  have hmk : mk_ (0 : Int) (w64 (20001 + (mn : Int))) = some (List.replicate (20001 + mn) 0) := by
    rw [w64_id (by omega) (by omega)]
    unfold mk_; rw [decide_eq_true (by omega), decide_eq_true (by omega)]
    show some (List.replicate (20001 + (mn : Int)).toNat 0) = _
    rw [show (20001 + (mn : Int)).toNat = 20001 + mn by omega]
  have hlarge : replay_Picks_large.f (List.replicate (20001 + mn) 0) = some () := by
    unfold replay_Picks_large.f
    rw [decide_eq_true (by simp; omega)]; rfl
  obtain ⟨s, ns, h1, _⟩ := new_ok ws lim cs (by omega) hc 3000 (by omega)
  obtain ⟨w, rp, h2, _⟩ := run_ok ws lim cs (by omega) hc 3000 (by omega)
  have h3 := picks_ok ws lim cs (by omega) hc 3000 (by omega)
  obtain ⟨c0, c1, c13⟩ := code_ok
  rw [hmk, Option.bind_some, hlarge, Option.bind_some, h1, Option.bind_some]
  rcases errK_is ws lim cs with e | e | e <;> rw [e] at h2 h3 ⊢ <;> simp only [oE, h2, h3, Option.bind_some, c0, c1, c13] <;> rfl
end Go.Proofs
