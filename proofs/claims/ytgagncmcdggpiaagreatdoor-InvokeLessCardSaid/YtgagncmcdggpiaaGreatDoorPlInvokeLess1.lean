/- Plain laws of what is reached, parts Pz5DoPl, Pz5IsQ, Pz5Endp, Pz5DoAny, Pz5UpL, Pz5Pick. On no condition. -/
import Derived.Test.YtgagncmcdggpiaaGreatDoorPlInvokeLess0
import Derived.Test.YtgagncmcdggpiaaGreatDoorFnInvokeLess0
import Derived.Test.YtgagncmcdggpiaaGreatDoorFnInvokeLess4
import Derived.Test.YtgagncmcdggpiaaGreatDoorFnInvokeLess2
import Derived.Test.YtgagncmcdggpiaaGreatDoorFr1
set_option linter.all false
namespace Go.Proofs
open Go.Sl
theorem few_of {n : Nat} {o : List (Int × Int)} (hm : MOk o) (h : ∀ p ∈ o, 0 ≤ p.1 ∧ p.1 < (n : Int)) (hn : n ≤ 1000) : fewB o = true ∧ o.length ≤ n := by
 have key : ∀ (n : Nat) (l : List Int), l.Nodup → (∀ x ∈ l, 0 ≤ x ∧ x < (n : Int)) → l.length ≤ n := by
  intro n
  induction n with
  | zero =>
   intro l _ h
   cases l with
   | nil => simp
   | cons a l => have := h a List.mem_cons_self; omega
  | succ n ih =>
   intro l hn h
   have h1 := ih (l.erase (n : Int)) (hn.erase _) (fun x hx => by
    have hm := (List.Nodup.mem_erase_iff hn).1 hx
    have := h x hm.2
    have := hm.1
    omega)
   have h2 : l.length ≤ (l.erase (n : Int)).length + 1 := by
    rw [List.length_erase]; split <;> omega
   omega
 have hl : o.length ≤ n := by
  have hm' : (o.map (·.1)).Nodup := hm
  have := key n (o.map (·.1)) hm' (fun x hx => by
   obtain ⟨p, hp, rfl⟩ := List.mem_map.1 hx
   exact h p hp)
  rwa [List.length_map] at this
 refine ⟨?_, hl⟩
 unfold fewB
 rw [Bool.and_eq_true, decide_eq_true_eq, List.all_eq_true]
 refine ⟨fun p hp => ?_, by omega⟩
 have := h p hp
 simp [Lit.wf, IntKind.min, IntKind.max, IntKind.signed, IntKind.bits]; omega
theorem draft_mok {α : Type} (V : VI) (m : VM α) : ∀ (o : List (Int × Int)) (v v' : V.S) (a : α) (o' : List (Int × Int)), MOk o → VM.run V (m.draft o) v = some ((a, o'), v') → MOk o' := by
 induction m with
 | ret a => intro o v v' b o' h e; cases e; exact h
 | fail => intro o v v' b o' h e; cases e
 | rd i k ih =>
  intro o v v' b o' h e
  unfold VM.draft at e
  cases hf : mfind o i with
  | some x => rw [hf] at e; exact ih x o v v' b o' h e
  | none => rw [hf] at e; exact ih _ o _ v' b o' h e
 | wr i x k ih =>
  intro o v v' b o' h e
  exact ih _ v v' b o' (h.set i x) e
theorem ovl_nil (v : List Int) : ovl v [] v := by
 refine ⟨rfl, fun p hp => (by cases hp), fun i i0 i1 => ?_⟩
 show v[i.toNat]? = some (v[i.toNat]?.getD 0)
 rw [List.getElem?_eq_getElem (by omega)]; rfl
theorem do_run {v v' : List Int} (hl : v.length = 738) {t : Int} {c : api_Call} {k : Nat} (hk : 1000 < k) {r : api_Reply} {e : Option Int} {d : invoke_doer}
  (hm : call_May.f c = some true) (hr : VM.run plainI (invoke_Ready.f t) v = some (true, v)) (hd : VM.run plainI (invoke_doer_do.f k ⟨t, c, 0, ⟨0, 0, 0, 0, 0, 0⟩⟩) v = some ((r, e, d), v')) {b : Bool} (hr' : VM.run plainI (invoke_Ready.f t) v' = some (b, v')) :
  VM.run plainI (invoke_Do.f k t c) v = some (match e with | some n => ((⟨n, 0, 0⟩, false), v) | none => if b = true then ((⟨0, band .i64 r.Word 2147483647, band .i64 r.Badge 65535⟩, false), v') else ((⟨0, 0, 0⟩, true), v')) := by
 obtain ⟨o, s1, s2⟩ := draft_sim v (invoke_doer_do.f k ⟨t, c, 0, ⟨0, 0, 0, 0, 0, 0⟩⟩) [] v (r, e, d) v' (by rw [hl]; exact invoke_doer_do_f_in k _) (ovl_nil v) hd
 have mo := draft_mok plainI _ [] v v _ o MOk.nil s1
 obtain ⟨f1, f2⟩ := few_of mo s2.2.1 (by omega)
 unfold invoke_Do.f
 rw [runB, runO, hm, Option.map_some, Option.bind_some]
 simp only [Bool.not_true]
 rw [runB, cond_false, runB, hr, Option.bind_some, runR, Option.bind_some]
 simp only [Bool.not_true, runC, cond_false]
 rw [runB, s1, Option.bind_some]
 simp only []
 cases e with
 | some n =>
  simp only [Option.isSome_some, cond_true, runC]
  rw [runB, runO]; rfl
 | none =>
  simp only [Option.isSome_none, cond_false, runC]
  have ck : chk (fewB o) = some () := by rw [f1]; rfl
  rw [runB, runO, ck, Option.map_some, Option.bind_some]
  simp only []
  rw [runB, runO, ofu_ok o (by omega) k (by omega), Option.map_some, Option.bind_some]
  simp only []
  have pl : (pairsOf o).length ≤ 2000 := by unfold pairsOf; rw [List.length_map, skeys_len]; omega
  have w := writes_run (pairsOf o) pl (pairsOf o).length k 0 v (Nat.zero_add _) (by unfold pairsOf at pl ⊢; rw [List.length_map, skeys_len]; omega)
  rw [show ((0 : Nat) : Int) = 0 from rfl, List.drop_zero, written s2] at w
  rw [runB, w, Option.bind_some]
  simp only []
  rw [runB, hr', Option.bind_some]
  cases b <;> rfl
theorem do_no {v : List Int} {t : Int} {c : api_Call} {k : Nat} {m b : Bool} (hm : call_May.f c = some m) (hr : VM.run plainI (invoke_Ready.f t) v = some (b, v)) (hmb : (m && b) = false) : VM.run plainI (invoke_Do.f k t c) v = some ((⟨1, 0, 0⟩, false), v) := by
 unfold invoke_Do.f
 rw [runB, runO, hm, Option.map_some, Option.bind_some]
 simp only []
 cases m with
 | false => rfl
 | true =>
  have hb : b = false := by simpa using hmb
  subst hb
  simp only [Bool.not_true]
  rw [runB, cond_false, runB, hr, Option.bind_some, runR, Option.bind_some]
  rfl
theorem state_ok {s : List Int} (g : Good s) (t : Int) : VM.run plainI (endp_State.f t) s = some (fld s t 1, s) := by
 unfold endp_State.f; rw [runB, field_ok g]; rfl
def AllW (W : Int → Int → Prop) (v : List Int) : Prop := v.length = 738 ∧ ∀ i : Int, 0 ≤ i → i < 738 → W i (v.getD i.toNat 0)
theorem AllW.good {W : Int → Int → Prop} (hu : ∀ i x, W i x → U6 x) {v : List Int} (h : AllW W v) : GoodU v := by
 have key : ∀ j : Nat, U6 (v.getD j 0) := fun j => by
  by_cases c : j < 738
  ·exact hu _ _ (h.2 j (by omega) (by omega))
  ·rw [List.getD, List.getElem?_eq_none (by rw [h.1]; omega)]; exact ⟨by decide, by decide⟩
 exact ⟨⟨h.1, fun j => (key j).1⟩, fun j => (key j).2⟩
theorem TA.run {W : Int → Int → Prop} (ho : ∀ i, ¬ (0 ≤ i ∧ i < 738) → W i 0) {α : Type} {m : VM α} {Q : α → Prop} (h : TA W m Q) : ∀ {v : List Int}, AllW W v → ∃ a v', VM.run plainI m v = some (a, v') ∧ AllW W v' ∧ Q a := by
 induction m with
 | ret a => exact fun {v} g => ⟨a, v, rfl, g, h⟩
 | fail => exact h.elim
 | rd i k ih =>
  intro v g
  unfold VM.run
  rw [readP]
  dsimp only
  refine ih _ (h _ ?_) g
  rw [g.1]
  by_cases c : 0 ≤ i ∧ i < ((738 : Nat) : Int)
  ·rw [if_pos c]; exact g.2 i c.1 c.2
  ·rw [if_neg c]; exact ho i c
 | wr i x k ih =>
  intro v g
  unfold VM.run
  rw [writeP]
  refine ih h.2 ?_
  rw [g.1]
  by_cases c : 0 ≤ i ∧ i < ((738 : Nat) : Int)
  ·rw [if_pos c]
   refine ⟨by rw [List.length_set]; exact g.1, fun j j0 j1 => ?_⟩
   rw [getD_set]
   by_cases e : i.toNat = j.toNat ∧ j.toNat < v.length
   ·have : i = j := by omega
    rw [if_pos e, ← this]; exact h.1
   ·rw [if_neg e]; exact g.2 j j0 j1
  ·rw [if_neg c]; exact g
theorem ready_any {v : List Int} (g : GoodU v) (t : Int) : ∃ b, VM.run plainI (invoke_Ready.f t) v = some (b, v) := by
 unfold invoke_Ready.f
 rw [runB, is_ok g.1 t 5 (by decide), Option.bind_some, runB]
 simp only []
 by_cases c : fld v t 0 = 5
 ·rw [decide_eq_true c, cond_true, runB, state_ok g.1, Option.bind_some, runR, Option.bind_some]
  exact ⟨_, rfl⟩
 ·rw [decide_eq_false c]
  exact ⟨_, rfl⟩
theorem cmay_any (c : api_Call) : ∃ m, call_May.f c = some m := by
 have step : ∀ (c : Bool) (a b : Int), ∃ x : Bool, (bif c then ((call_in.f a b).bind fun t => some t) else (some false)) = some x := fun c a b => by
  obtain ⟨x, e⟩ : ∃ x, call_in.f a b = some x := ⟨_, rfl⟩
  rw [e]; cases c <;> exact ⟨_, rfl⟩
 unfold call_May.f
 obtain ⟨x1, e1⟩ := step (decide (1 ≤ c.Op) && decide (c.Op ≤ 22)) c.Cap 65535
 rw [e1, Option.bind_some]
 obtain ⟨x2, e2⟩ := step x1 c.A 2147483647
 rw [e2, Option.bind_some]
 obtain ⟨x3, e3⟩ := step x2 c.B 2147483647
 rw [e3, Option.bind_some]
 obtain ⟨x4, e4⟩ := step x3 c.C 2147483647
 rw [e4, Option.bind_some]
 obtain ⟨x5, e5⟩ := step x4 c.D 2147483647
 rw [e5, Option.bind_some]
 exact ⟨_, rfl⟩
theorem Do_any {W : Int → Int → Prop} {good : api_Cap → Prop} (C : WC W good) {v : List Int} (g : AllW W v) (t : Int) (c : api_Call) {k : Nat} (hk : 1450 ≤ k) : ∃ r b v', VM.run plainI (invoke_Do.f k t c) v = some ((r, b), v') ∧ AllW W v' ∧ (r.Code ≠ 0 → b = false ∧ v' = v) := by
 have gu := g.good C.u
 obtain ⟨b, hr⟩ := ready_any gu t
 obtain ⟨m, hm⟩ := cmay_any c
 by_cases go : (m && b) = true
 ·obtain ⟨hm1, hb1⟩ : m = true ∧ b = true := by simpa using go
  subst hm1 hb1
  obtain ⟨⟨r, e, d⟩, v', hd, g', _⟩ := TA.run C.out (invoke_doer_do_f_t C hk ⟨t, c, 0, ⟨0, 0, 0, 0, 0, 0⟩⟩) g
  obtain ⟨b', hr'⟩ := ready_any (g'.good C.u) t
  cases e with
  | some n =>
   have run := do_run gu.1.1 (k := k) (by omega) hm hr hd hr'
   exact ⟨_, _, _, run, g, fun _ => ⟨rfl, rfl⟩⟩
  | none =>
   have run := do_run gu.1.1 (k := k) (by omega) hm hr hd hr'
   simp only [] at run
   cases b' with
   | true => exact ⟨_, _, _, run, g', fun z => absurd rfl z⟩
   | false => exact ⟨_, _, _, run, g', fun z => absurd rfl z⟩
 ·have go : (m && b) = false := by simpa using go
  exact ⟨_, _, _, do_no hm hr go, g, fun _ => ⟨rfl, rfl⟩⟩
theorem wc_any : WC (fun _ x => U6 x) (fun _ => True) := ⟨fun _ _ h => h, fun _ _ _ _ h => h, fun _ _ _ _ _ h => h, fun _ _ _ _ _ => trivial, fun _ _ _ _ h _ => h, fun _ _ => trivial, fun _ _ _ _ _ _ _ _ _ => trivial, fun _ _ _ _ => trivial, fun x a h h0 h1 => by
 have := h.1
 by_cases q : 32 < x
 ·rw [if_pos q] at h1 ⊢; exact ⟨by omega, by omega⟩
 ·rw [if_neg q] at h1 ⊢; exact ⟨by omega, by omega⟩, fun _ _ => ⟨by decide, by decide⟩⟩
theorem all_any {v : List Int} (g : GoodU v) : AllW (fun _ x => U6 x) v := ⟨g.1.1, fun i _ _ => ⟨g.1.2 _, g.2 _⟩⟩
def okC (v0 : List Int) (c : api_Cap) : Prop := c.Kind = 0 ∨ v0.getD 737 0 ≤ c.Obj ∨ ∃ j, 0 ≤ j ∧ j < 96 ∧ (capAt v0 j).Kind = c.Kind ∧ (capAt v0 j).Obj = c.Obj ∧ band .i64 c.Rights (capAt v0 j).Rights = c.Rights
def okW (v0 : List Int) (i x : Int) : Prop := U6 x ∧ (0 ≤ i → i < 480 → i % 5 = 0 → okC v0 (readCap x)) ∧ (i = 737 → v0.getD 737 0 ≤ x ∧ x ≤ 32)
theorem readCap_may (x : Int) : CapMay (readCap x) := by
 unfold readCap; split
 ·rename_i h; exact h.2
 ·decide
theorem capAt_may (v : List Int) (j : Int) : CapMay (capAt v j) := by
 unfold capAt; split
 ·exact readCap_may _
 ·decide
theorem band3 {a b c : Int} (a0 : 0 ≤ a) (a1 : a ≤ 7) (b0 : 0 ≤ b) (b1 : b ≤ 7) (c0 : 0 ≤ c) (c1 : c ≤ 7) : band .i64 a b = a → band .i64 b c = b → band .i64 a c = a :=
 all8 (P := fun a => band .i64 a b = a → band .i64 b c = b → band .i64 a c = a) (fun i => all88 (P := fun b c => band .i64 ((i.val : Nat) : Int) b = ((i.val : Nat) : Int) → band .i64 b c = b → band .i64 ((i.val : Nat) : Int) c = ((i.val : Nat) : Int)) (by revert i; decide +kernel) b0 b1 c0 c1) a0 a1
theorem wc_less (v0 : List Int) : WC (okW v0) (okC v0) := by
 refine ⟨fun i x h => h.1, fun i x i0 i1 u => ⟨u, fun _ z => by omega, fun z => by omega⟩, fun i x i0 i1 i5 u => ⟨u, fun _ _ z => absurd z i5, fun z => by omega⟩, fun s x s0 s1 h => h.2.1 (by omega) (by omega) (by omega), fun s x s0 s1 u g => ⟨u, fun _ _ _ => g, fun z => by omega⟩, fun c h => .inl h, fun c c' m g r0 r1 ek eo eb => ?_, fun x c h ho => .inr (.inl ?_), fun x a h a0 a1 => ?_, fun i h => ⟨⟨by decide, by decide⟩, fun z _ _ => by omega, fun z => by omega⟩⟩
 ·rcases g with g | g | ⟨j, j0, j1, g1, g2, g3⟩
  ·exact .inl (ek.trans g)
  ·exact .inr (.inl (by rw [eo]; exact g))
  ·have dm := capAt_may v0 j
   exact .inr (.inr ⟨j, j0, j1, g1.trans ek.symm, g2.trans eo.symm, band3 r0 r1 m.2.2.1 m.2.2.2.1 dm.2.2.1 dm.2.2.2.1 eb g3⟩)
 ·have := h.2.2 rfl
  rw [ho, if_neg (by omega)]; exact this.1
 ·have := h.2.2 rfl
  have u := h.1.1
  rw [if_neg (by omega)] at a1 ⊢
  exact ⟨⟨by omega, by omega⟩, fun _ z => by omega, fun _ => by omega⟩
theorem okW_self {v : List Int} (g : GoodU v) (h : v.getD 737 0 ≤ 32) : AllW (okW v) v := by
 refine ⟨g.1.1, fun i i0 i1 => ⟨⟨g.1.2 _, g.2 _⟩, fun _ i2 i5 => .inr (.inr ⟨i / 5, by omega, by omega, ?_⟩), fun z => by subst z; exact ⟨Int.le_refl _, h⟩⟩⟩
 have e : capAt v (i / 5) = readCap (v.getD i.toNat 0) := by
  unfold capAt
  rw [if_pos ⟨by omega, by omega, by decide, by decide⟩, show 5 * (i / 5) = i by omega]
 have m := readCap_may (v.getD i.toNat 0)
 rw [e]
 exact ⟨rfl, rfl, band_self8 m.2.2.1 m.2.2.2.1⟩
def bw (n : Int) : Option (List Int) := (ref10_Boot.f 2000 n).bind fun t => ref10_State_Words.f 2000 t
def bwB (n : Int) : Bool := match bw n with
 | some w => goodUB w && decide (w.getD 737 0 ≤ 32)
 | none => false
theorem bw_1 : bwB 1 = true := by decide +kernel
theorem bw_2 : bwB 2 = true := by decide +kernel
theorem bw_3 : bwB 3 = true := by decide +kernel
theorem bw_4 : bwB 4 = true := by decide +kernel
theorem bw_5 : bwB 5 = true := by decide +kernel
theorem bw_6 : bwB 6 = true := by decide +kernel
theorem bw_7 : bwB 7 = true := by decide +kernel
theorem bw_ok {n : Int} (hn : 1 ≤ n ∧ n ≤ 7) : ∃ t w, ref10_Boot.f 2000 n = some t ∧ ref10_State_Words.f 2000 t = some w ∧ GoodU w ∧ w.getD 737 0 ≤ 32 := by
 have hb : bwB n = true := by
  rcases (by omega : n = 1 ∨ n = 2 ∨ n = 3 ∨ n = 4 ∨ n = 5 ∨ n = 6 ∨ n = 7) with rfl | rfl | rfl | rfl | rfl | rfl | rfl
  ·exact bw_1
  ·exact bw_2
  ·exact bw_3
  ·exact bw_4
  ·exact bw_5
  ·exact bw_6
  ·exact bw_7
 unfold bwB bw at hb
 cases h1 : ref10_Boot.f 2000 n with
 | none => rw [h1] at hb; cases hb
 | some t =>
  rw [h1, Option.bind_some] at hb
  cases h2 : ref10_State_Words.f 2000 t with
  | none => rw [h2] at hb; cases hb
  | some w =>
   rw [h2] at hb
   simp only [Bool.and_eq_true, decide_eq_true_eq] at hb
   exact ⟨t, w, rfl, h2, goodU_of hb.1, hb.2⟩
def stp (w : List Int) (c : api_Call) : Option (api_Reply × Option Int × Bool × List Int) :=
 (VM.run plainI (invoke_Ready.f 0) w).bind fun (b, _) => (VM.run plainI (invoke_doer_do.f 2000 ⟨0, c, 0, ⟨0, 0, 0, 0, 0, 0⟩⟩) w).bind fun ((r, e, _), w') => (VM.run plainI (invoke_Ready.f 0) w').bind fun (b', _) => bif b && goodUB w && goodUB w' && call_May.f c == some true then some (r, e, b', w') else none
theorem stp_ok {w w' : List Int} {c : api_Call} {r : api_Reply} {b' : Bool} (h : stp w c = some (r, none, b', w')) : GoodU w' ∧ VM.run plainI (invoke_Ready.f 0) w' = some (b', w') ∧ VM.run plainI (invoke_Do.f 2000 0 c) w = some (if b' = true then ((⟨0, band .i64 r.Word 2147483647, band .i64 r.Badge 65535⟩, false), w') else ((⟨0, 0, 0⟩, true), w')) := by
 unfold stp at h
 obtain ⟨⟨b, s1⟩, h1, h⟩ := opt_bind h
 obtain ⟨⟨⟨r1, e1, d⟩, s2⟩, h2, h⟩ := opt_bind h
 obtain ⟨⟨b1, s3⟩, h3, h⟩ := opt_bind h
 simp only [Bool.cond_eq_ite] at h
 split at h
 ·rename_i q
  simp only [Bool.and_eq_true, beq_iff_eq] at q
  obtain ⟨⟨⟨q1, q2⟩, q3⟩, q4⟩ := q
  injection h with h; injection h with a1 h; injection h with a2 h; injection h with a3 a4
  subst a1 a2 a3 a4
  have g := goodU_of q2
  have g' := goodU_of q3
  obtain ⟨x, hx⟩ := ready_any g 0
  obtain ⟨x', hx'⟩ := ready_any g' 0
  rw [h1] at hx; injection hx with hx; injection hx with e1 e2
  subst q1 e2
  rw [h3] at hx'; injection hx' with hx'; injection hx' with e3 e4
  subst e4
  exact ⟨g', h3, do_run g.1.1 (k := 2000) (by decide) q4 h1 h2 h3⟩
 ·cases h
def upB : Bool := match bw 1 with
 | some w => match stp w ⟨5, 2, 0, 0, 0, 0⟩ with
  | some (_, e1, b1, w1) => match stp w1 ⟨7, 2, 0, 0, 0, 0⟩ with
   | some (r2, e2, b2, w2) => match stp w2 ⟨6, 2, 0, 0, 0, 0⟩ with
    | some (_, e3, b3, _) => e1.isNone && b1 && e2.isNone && b2 && decide (r2.Word = 1) && e3.isNone && !b3
    | none => false
   | none => false
  | none => false
 | none => false
theorem upB_ok : upB = true := by decide +kernel
theorem up21 : law21_up.f 2000 = some true := by
 have R := upB_ok
 unfold upB at R
 cases hb : bw 1 with
 | none => rw [hb] at R; cases R
 | some w =>
  rw [hb] at R
  simp only [] at R
  cases h1 : stp w ⟨5, 2, 0, 0, 0, 0⟩ with
  | none => rw [h1] at R; cases R
  | some p1 =>
   obtain ⟨r1, e1, b1, w1⟩ := p1
   rw [h1] at R
   simp only [] at R
   cases h2 : stp w1 ⟨7, 2, 0, 0, 0, 0⟩ with
   | none => rw [h2] at R; cases R
   | some p2 =>
    obtain ⟨r2, e2, b2, w2⟩ := p2
    rw [h2] at R
    simp only [] at R
    cases h3 : stp w2 ⟨6, 2, 0, 0, 0, 0⟩ with
    | none => rw [h3] at R; cases R
    | some p3 =>
     obtain ⟨r3, e3, b3, w3⟩ := p3
     rw [h3] at R
     simp only [Bool.and_eq_true, decide_eq_true_eq, Bool.not_eq_true', Option.isNone_iff_eq_none] at R
     obtain ⟨⟨⟨⟨⟨⟨q1, q2⟩, q3⟩, q4⟩, q5⟩, q6⟩, q7⟩ := R
     subst q1 q2 q3 q4 q6 q7
     obtain ⟨_, _, u1⟩ := stp_ok h1
     obtain ⟨_, _, u2⟩ := stp_ok h2
     obtain ⟨_, d3, u3⟩ := stp_ok h3
     unfold bw at hb
     obtain ⟨t, hB, hw⟩ := opt_bind hb
     unfold law21_up.f
     rw [hB, Option.bind_some, hw, Option.bind_some, u1, Option.bind_some]
     simp only [if_true]
     rw [u2, Option.bind_some]
     simp only [if_true]
     rw [u3, Option.bind_some]
     simp only [Bool.false_eq_true, if_false]
     have wk : VM.run plainI (invoke_Woken.f 0) w3 = some ((⟨0, 0, 0⟩, false), w3) := by
      unfold invoke_Woken.f
      rw [runB, d3]; rfl
     have e1 : band .i64 r2.Word 2147483647 = 1 := by rw [q5]; decide
     rw [wk, e1]
     simp only [Bool.not_false, Bool.and_self, cond_true, Option.bind_some, beq_self_eq_true]
     rw [d3]
     rfl
end Go.Proofs

