/- Plain laws of what CdtSound reaches, part P10Rep. On no condition. -/
import Derived.Test.YtbhboofhcgkgfaaP10TreeUCdtSound
set_option linter.all false
/-! One for another in a list: who follows, who comes before. -/
set_option linter.unusedVariables false
namespace Go.Proofs
open Go.Sl
def rp (a b x : Int) : Int := if x = a then b else x
def rep (a b : Int) (l : List Int) : List Int := l.map (rp a b)
theorem rep_mem {a b : Int} {l : List Int} (hb : b ∉ l) {x : Int} : x ∈ rep a b l ↔ (x = b ∧ a ∈ l) ∨ (x ≠ a ∧ x ∈ l) := by
  unfold rep
  rw [List.mem_map]
  constructor
  · rintro ⟨y, hy, rfl⟩
    unfold rp
    by_cases e : y = a
    · rw [if_pos e]; exact .inl ⟨rfl, by rw [← e]; exact hy⟩
    · rw [if_neg e]; exact .inr ⟨e, hy⟩
  · rintro (⟨rfl, h⟩ | ⟨h1, h2⟩)
    · exact ⟨a, h, by unfold rp; rw [if_pos rfl]⟩
    · exact ⟨x, h2, by unfold rp; rw [if_neg h1]⟩
theorem rep_nodup {a b : Int} : ∀ {l : List Int}, b ∉ l → l.Nodup → (rep a b l).Nodup
  | [], _, _ => List.nodup_nil
  | c :: r, hb, hn => by
    have hn2 := List.nodup_cons.1 hn
    have hbr : b ∉ r := fun z => hb (List.mem_cons_of_mem _ z)
    have hcb : c ≠ b := fun z => hb (by rw [z]; exact List.mem_cons_self)
    show (rp a b c :: rep a b r).Nodup
    refine List.nodup_cons.2 ⟨fun z => ?_, rep_nodup hbr hn2.2⟩
    rw [rep_mem hbr] at z
    unfold rp at z
    by_cases e : c = a
    · rw [if_pos e] at z
      rcases z with ⟨_, z⟩ | ⟨_, z⟩
      · rw [← e] at z; exact hn2.1 z
      · exact hbr z
    · rw [if_neg e] at z
      rcases z with ⟨z, _⟩ | ⟨_, z⟩
      · exact hcb z
      · exact hn2.1 z
def rq (a b n : Int) : Int := if n = a + 1 then b + 1 else n
theorem rep_hd {a b : Int} (a0 : 0 ≤ a) (l : List Int) : hd (rep a b l) = rq a b (hd l) := by
  cases l with
  | nil => show (0 : Int) = if (0 : Int) = a + 1 then b + 1 else 0; rw [if_neg (by omega)]
  | cons c r =>
    show rp a b c + 1 = if c + 1 = a + 1 then b + 1 else c + 1
    unfold rp
    by_cases e : c = a
    · rw [if_pos e, if_pos (by omega)]
    · rw [if_neg e, if_neg (by omega)]
theorem rep_next {a b : Int} (a0 : 0 ≤ a) : ∀ {l : List Int} {x : Int}, b ∉ l → x ∈ l → nextOf (rep a b l) (rp a b x) = rq a b (nextOf l x)
  | [], _, _, h => by cases h
  | c :: r, x, hb, hx => by
    have hbr : b ∉ r := fun z => hb (List.mem_cons_of_mem _ z)
    have hcb : c ≠ b := fun z => hb (by rw [z]; exact List.mem_cons_self)
    have hxb : x ≠ b := fun z => hb (by rw [← z]; exact hx)
    show (if rp a b x = rp a b c then hd (rep a b r) else nextOf (rep a b r) (rp a b x)) = rq a b (if x = c then hd r else nextOf r x)
    by_cases e : x = c
    · rw [e, if_pos rfl, if_pos rfl, rep_hd a0]
    · have : rp a b x ≠ rp a b c := by unfold rp; split <;> split <;> omega
      rw [if_neg this, if_neg e]
      exact rep_next a0 hbr (by rcases List.mem_cons.1 hx with z | z; exact absurd z e; exact z)
theorem rep_prv {a b : Int} (a0 : 0 ≤ a) : ∀ {l : List Int} {x m : Int}, b ∉ l → x ∈ l → prv (rq a b m) (rep a b l) (rp a b x) = rq a b (prv m l x)
  | [], _, _, _, h => by cases h
  | c :: r, x, m, hb, hx => by
    have hbr : b ∉ r := fun z => hb (List.mem_cons_of_mem _ z)
    have hcb : c ≠ b := fun z => hb (by rw [z]; exact List.mem_cons_self)
    have hxb : x ≠ b := fun z => hb (by rw [← z]; exact hx)
    show (if rp a b x = rp a b c then rq a b m else prv (rp a b c + 1) (rep a b r) (rp a b x)) = rq a b (if x = c then m else prv (c + 1) r x)
    by_cases e : x = c
    · rw [e, if_pos rfl, if_pos rfl]
    · have : rp a b x ≠ rp a b c := by unfold rp; split <;> split <;> omega
      rw [if_neg this, if_neg e]
      have hc : rp a b c + 1 = rq a b (c + 1) := by unfold rp rq; split <;> split <;> omega
      rw [hc]
      exact rep_prv a0 hbr (by rcases List.mem_cons.1 hx with z | z; exact absurd z e; exact z)
end Go.Proofs
