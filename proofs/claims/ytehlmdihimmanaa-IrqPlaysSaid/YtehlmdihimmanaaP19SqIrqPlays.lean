/- Plain laws of what IrqPlays reaches, part P19Sq. On no condition. -/
import Derived.Test.YtehlmdihimmanaaP19StIrqPlays
import Derived.Test.YtehlmdihimmanaaP19IsQIrqPlays
set_option linter.all false
/-! Queues of a state that are changed, and their words. -/
set_option linter.unusedVariables false
namespace Go.Proofs
open Go.Sl
theorem Lnk.next {F : Int → Int} : ∀ {l : List Int} {y : Int}, Lnk F l → l.Nodup → y ∈ l → F y = nextOf l y
  | [], y, _, _, h => by cases h
  | [t], y, h, _, hy => by
    rw [List.mem_singleton] at hy; subst hy
    show F y = if y = y then hd [] else nextOf [] y
    rw [if_pos rfl]; exact h
  | t :: u :: l, y, h, hn, hy => by
    have hn2 := List.nodup_cons.1 hn
    show F y = if y = t then hd (u :: l) else nextOf (u :: l) y
    by_cases e : y = t
    · rw [if_pos e, e]; exact h.1
    · rw [if_neg e]
      rcases List.mem_cons.1 hy with z | z
      · exact absurd z e
      · exact Lnk.next h.2 hn2.2 z
theorem Lnk.of_next {F : Int → Int} : ∀ {l : List Int}, l.Nodup → (∀ y ∈ l, F y = nextOf l y) → Lnk F l
  | [], _, _ => trivial
  | [t], _, h => by
    have := h t List.mem_cons_self
    show F t = 0
    rw [this]; show (if t = t then hd [] else _) = 0
    rw [if_pos rfl]; rfl
  | t :: u :: l, hn, h => by
    have hn2 := List.nodup_cons.1 hn
    refine ⟨?_, Lnk.of_next hn2.2 fun y hy => ?_⟩
    · rw [h t List.mem_cons_self]; show (if t = t then hd (u :: l) else _) = u + 1
      rw [if_pos rfl]; rfl
    · rw [h y (List.mem_cons_of_mem _ hy)]
      show (if y = t then _ else nextOf (u :: l) y) = _
      rw [if_neg (fun e => by subst e; exact hn2.1 hy)]
theorem hd_nil : hd [] = 0 := rfl
theorem la_nil : la [] = 0 := rfl
/-- The words of a queue's object. -/
theorem ob_q {st : ref10_State} {o : Int} (hk : (obt st o).Kind = 3 ∨ (obt st o).Kind = 4) (f : Int) : ob st o f = if f = 2 then hd (obt st o).Queue else if f = 3 then la (obt st o).Queue else own (obt st o) f := by
  unfold ob
  rw [if_neg (by omega)]
  by_cases h2 : f = 2
  · rw [if_pos h2]
    by_cases hq : (obt st o).Queue = []
    · rw [if_neg (fun z => z.2 hq), if_neg (fun z => z.2 hq), hq, h2]
      rcases hk with k | k
      · rw [own3 k]; rfl
      · rw [own4 k]; rfl
    · rw [if_pos ⟨h2, hq⟩]
  · rw [if_neg (fun z => h2 z.1), if_neg h2]
    by_cases h3 : f = 3
    · rw [if_pos h3]
      by_cases hq : (obt st o).Queue = []
      · rw [if_neg (fun z => z.2 hq), hq, h3]
        rcases hk with k | k
        · rw [own3 k]; rfl
        · rw [own4 k]; rfl
      · rw [if_pos ⟨h3, hq⟩]
    · rw [if_neg (fun z => h3 z.1), if_neg h3]
theorem noq {st : ref10_State} (h : WF st) {t : Int} (ht : 0 ≤ t ∧ t < 32) (hk : (obt st t).Kind ≠ 3 ∧ (obt st t).Kind ≠ 4) : (obt st t).Queue = [] := by
  rcases Classical.em ((obt st t).Queue = []) with z | z
  · exact z
  · have := h.qk t ht.1 ht.2 z; omega
/-- The words of a thread. -/
theorem ob_t {st : ref10_State} (h : WF st) {t : Int} (ht : 0 ≤ t ∧ t < 32) (hk : (obt st t).Kind = 5) (f : Int) : ob st t f = if f = 2 ∧ 0 ≤ (obt st t).On then nextOf (obt st (obt st t).On).Queue t else own (obt st t) f := by
  have hq := noq h ht (by omega)
  unfold ob
  by_cases c : f = 2 ∧ 0 ≤ (obt st t).On
  · rw [if_pos ⟨c.1, hk, c.2⟩, if_pos c]
  · rw [if_neg (fun z => c ⟨z.1, z.2.2⟩), if_neg (fun z => z.2 hq), if_neg (fun z => z.2 hq), if_neg c]
theorem IsW.isq {st : ref10_State} (h : WF st) {v : List Int} (hv : IsW st v) {o : Int} (ho : 0 ≤ o ∧ o < 32) (hk : (obt st o).Kind = 3 ∨ (obt st o).Kind = 4) : IsQ v o (obt st o).Queue := by
  refine ⟨?_, ?_, Lnk.of_next (h.nodq o ho.1 ho.2) fun y hy => ?_⟩
  · rw [hv.fv h ho (by decide), ob_q hk, if_pos rfl]
  · rw [hv.fv h ho (by decide), ob_q hk, if_neg (by decide), if_pos rfl]
  · obtain ⟨y1, y2, y3, y4, y5⟩ := h.que o ho.1 ho.2 y hy
    rw [hv.fv h ⟨y1, y2⟩ (by decide), ob_t h ⟨y1, y2⟩ y3, y4, if_pos ⟨rfl, ho.1⟩]
/-- A queue and one of its threads change. -/
structure QCh (st : ref10_State) (o t : Int) (xo xt : ref10_Obj) : Prop where
  ho : 0 ≤ o ∧ o < 32
  ht : 0 ≤ t ∧ t < 32
  ko : (obt st o).Kind = 3 ∨ (obt st o).Kind = 4
  kt : (obt st t).Kind = 5
  wo : OW xo
  wt : OW xt
  ko' : xo.Kind = (obt st o).Kind
  kt' : xt.Kind = 5
  qt : xt.Queue = []
  nd : xo.Queue.Nodup
  mem : ∀ y, y ≠ t → (y ∈ xo.Queue ↔ y ∈ (obt st o).Queue)
  mt : t ∈ xo.Queue ↔ xt.On = o
  on : xt.On = o ∨ xt.On = -1
  ow : xt.On = o → xt.Owing = -1
  was : (obt st t).On = -1 ∨ (obt st t).On = o
section
variable {st : ref10_State} {o t : Int} {xo xt : ref10_Obj} (h : WF st) (c : QCh st o t xo xt)
include h c
theorem QCh.obt (i : Int) (hi : 0 ≤ i) : obt (upd (upd st o xo) t xt) i = if i = t then xt else if i = o then xo else obt st i := by
  rw [obt_upd (by rw [upd_len]; exact h.lo) c.ht hi, obt_upd h.lo c.ho hi]
theorem QCh.kind (i : Int) (hi : 0 ≤ i) : (Go.Proofs.obt (upd (upd st o xo) t xt) i).Kind = (Go.Proofs.obt st i).Kind := by
  rw [c.obt h i hi]; split
  · rename_i e; rw [c.kt', e, c.kt]
  · split
    · rename_i e; rw [c.ko', e]
    · rfl
theorem QCh.ne : o ≠ t := fun e => by have := c.ko; rw [e, c.kt] at this; omega
theorem QCh.que (i : Int) (hi : 0 ≤ i ∧ i < 32) : (Go.Proofs.obt (upd (upd st o xo) t xt) i).Queue = if i = o then xo.Queue else (Go.Proofs.obt st i).Queue := by
  have hne := c.ne h
  rw [c.obt h i hi.1]
  by_cases e : i = t
  · subst e
    rw [if_pos rfl, if_neg (fun z => hne z.symm), c.qt, noq h hi (by rw [c.kt]; omega)]
  · rw [if_neg e]; split <;> rfl
theorem QCh.wf : WF (upd (upd st o xo) t xt) := by
  have hne := c.ne h
  have O := c.obt h
  have K := c.kind h
  have Q := c.que h
  refine ⟨h.ls, by rw [upd_len, upd_len]; exact h.lo, h.cap, h.par, h.kid, h.all, h.nodk, fun i h0 h1 => ?_, fun i h0 h1 y hy => ?_, fun i h0 h1 hn => ?_, fun y h0 h1 k5 on => ?_, fun i h0 h1 => ?_, h.ns, h.no⟩
  · rw [O i h0]; split
    · exact c.wt
    · split
      · exact c.wo
      · exact h.obj i h0 h1
  · rw [Q i ⟨h0, h1⟩] at hy
    by_cases e : i = o
    · rw [if_pos e] at hy
      subst e
      by_cases et : y = t
      · subst et
        have := c.mt.1 hy
        refine ⟨c.ht.1, c.ht.2, by rw [K y c.ht.1]; exact c.kt, ?_, ?_⟩
        · rw [O y c.ht.1, if_pos rfl]; exact this
        · rw [O y c.ht.1, if_pos rfl]; exact c.ow this
      · obtain ⟨y1, y2, y3, y4, y5⟩ := h.que i h0 h1 y ((c.mem y et).1 hy)
        have yo : y ≠ i := fun z => by rw [z] at y3; have := c.ko; omega
        refine ⟨y1, y2, by rw [K y y1]; exact y3, ?_, ?_⟩
        · rw [O y y1, if_neg et, if_neg yo]; exact y4
        · rw [O y y1, if_neg et, if_neg yo]; exact y5
    · rw [if_neg e] at hy
      obtain ⟨y1, y2, y3, y4, y5⟩ := h.que i h0 h1 y hy
      have et : y ≠ t := fun z => by
        rw [z] at y4
        rcases c.was with w | w
        · omega
        · exact e (y4.symm.trans w)
      have yo : y ≠ o := fun z => by rw [z] at y3; have := c.ko; omega
      refine ⟨y1, y2, by rw [K y y1]; exact y3, ?_, ?_⟩
      · rw [O y y1, if_neg et, if_neg yo]; exact y4
      · rw [O y y1, if_neg et, if_neg yo]; exact y5
  · rw [K i h0]
    rw [Q i ⟨h0, h1⟩] at hn
    by_cases e : i = o
    · rw [e]; exact c.ko
    · rw [if_neg e] at hn; exact h.qk i h0 h1 hn
  · rw [K y h0] at k5
    have yo : y ≠ o := fun z => by rw [z] at k5; have := c.ko; omega
    rw [O y h0] at on ⊢
    by_cases et : y = t
    · subst et
      rw [if_pos rfl] at on ⊢
      rcases c.on with z | z
      · rw [z, Q o c.ho, if_pos rfl]; exact c.mt.2 z
      · omega
    · rw [if_neg et, if_neg yo] at on ⊢
      have hm := h.onq y h0 h1 k5 on
      have hon := (h.obj y h0 h1).on
      rw [Q _ ⟨on, hon.2⟩]
      split
      · rename_i z; rw [z] at hm; exact (c.mem y et).2 hm
      · exact hm
  · rw [Q i ⟨h0, h1⟩]; split
    · exact c.nd
    · exact h.nodq i h0 h1
/-- The words behind it. -/
theorem QCh.isw {v v' : List Int} (hv : IsW st v) (low : Low v v') (sm : Sm v') (iq : IsQ v' o xo.Queue) (hoth : ∀ i f, i ≠ o → i ≠ t → 0 ≤ i → i < 32 → 0 ≤ f → f < 8 → f ≠ 2 ∨ i ∉ xo.Queue → fld v' i f = fld v i f) (ho : ∀ f, 0 ≤ f → f < 8 → f ≠ 2 → f ≠ 3 → fld v' o f = own xo f) (ht : ∀ f, 0 ≤ f → f < 8 → f ≠ 2 ∨ xt.On = -1 → fld v' t f = own xt f) : IsW (upd (upd st o xo) t xt) v' := by
  have hne := c.ne h
  have O := c.obt h
  have K := c.kind h
  have Q := c.que h
  have h' := c.wf h
  refine hv.of_fld low sm (fun _ _ => rfl) rfl rfl fun i f i0 i1 f0 f1 => ?_
  by_cases eo : i = o
  · subst eo
    rw [ob_q (by rw [K i i0]; exact c.ko), Q i ⟨i0, i1⟩, if_pos rfl, O i i0, if_neg hne, if_pos rfl]
    by_cases e2 : f = 2
    · rw [if_pos e2, e2]; exact iq.first
    · rw [if_neg e2]
      by_cases e3 : f = 3
      · rw [if_pos e3, e3]; exact iq.last
      · rw [if_neg e3]; exact ho f f0 f1 e2 e3
  · by_cases et : i = t
    · subst et
      rw [ob_t h' ⟨i0, i1⟩ (by rw [K i i0]; exact c.kt), O i i0, if_pos rfl]
      by_cases e2 : f = 2 ∧ 0 ≤ xt.On
      · rw [if_pos e2, e2.1]
        rcases c.on with z | z
        · rw [z, Q o c.ho, if_pos rfl]
          exact iq.lnk.next c.nd (c.mt.2 z)
        · omega
      · rw [if_neg e2]
        refine ht f f0 f1 ?_
        rcases c.on with z | z
        · left; intro q; exact e2 ⟨q, by rw [z]; exact c.ho.1⟩
        · exact .inr z
    · have same : f ≠ 2 ∨ i ∉ xo.Queue → ob (upd (upd st o xo) t xt) i f = ob st i f := fun hc => by
        unfold ob
        rw [O i i0, if_neg et, if_neg eo]
        by_cases z : f = 2 ∧ (Go.Proofs.obt st i).Kind = 5 ∧ 0 ≤ (Go.Proofs.obt st i).On
        · rw [if_pos z, if_pos z]
          have hon := (h.obj i i0 i1).on
          have hm := h.onq i i0 i1 z.2.1 z.2.2
          rw [Q _ ⟨z.2.2, hon.2⟩, if_neg]
          intro q
          rw [q] at hm
          rcases hc with w | w
          · exact w z.1
          · exact w ((c.mem i et).2 hm)
        · rw [if_neg z, if_neg z]
      by_cases hc : f ≠ 2 ∨ i ∉ xo.Queue
      · rw [same hc, hoth i f eo et i0 i1 f0 f1 hc, hv.fv h ⟨i0, i1⟩ ⟨f0, f1⟩]
      · have e2 : f = 2 := by
          rcases Classical.em (f = 2) with z | z
          · exact z
          · exact absurd (.inl z) hc
        have em : i ∈ xo.Queue := by
          rcases Classical.em (i ∈ xo.Queue) with z | z
          · exact z
          · exact absurd (.inr z) hc
        obtain ⟨y1, y2, y3, y4, y5⟩ := h.que o c.ho.1 c.ho.2 i ((c.mem i et).1 em)
        rw [ob_t h' ⟨i0, i1⟩ (by rw [K i i0]; exact y3), O i i0, if_neg et, if_neg eo, y4, if_pos ⟨e2, c.ho.1⟩, Q o c.ho, if_pos rfl, e2]
        exact iq.lnk.next c.nd em
end
end Go.Proofs
