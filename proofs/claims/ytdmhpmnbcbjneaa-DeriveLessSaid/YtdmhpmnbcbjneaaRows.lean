/-
  No cell of these rows narrows 'for every input' (looked for: loops, veiled, ifaces, maps, wideKeys, modest, calm, conditions, laid).
  DERIVED. THE GIVEN ROWS OF THIS SEAT. 2 by the template 'for every input the law returns true; each argument reads behind the call as it read before'; 0 by the template 'total and deterministic' (their statements: YtdmhpmnbcbjneaaTotals.lean).
  GIVEN WITH THE SEED: the statements are not yours to turn. If you find one false, say at which input.
  Laid BY PROGRAM, IN A SANDBOX (cutbox-rows.mjs): the forced cells as the released guide's own fill.sh prints them over the translation 6b8ebe83b39010e1… (all of the seat's roots in one cut). By AI agents, Wed Nov 11 2026. No macro, syntax, notation, axiom, sorry.
-/
import Derived.Test.YtdmhpmnbcbjneaaChecked
import GoSem.Claim
import GoSem.ClaimJoined
import GoSem.ClaimMapViews
import Derived.JoinedTies
import Derived.KernelRfl
namespace Go.Proofs.Ytdmhpmnbcbjneaa
/- THE CELL 'sum', in the pinned program and in every row, IS THE sha256 OF THE DUMP (.gsa) THAT YtdmhpmnbcbjneaaProg.lean LOADS. Nothing in Lean hashes anything: it is a label: what it is worth is what the hold of that sum in a sandbox is worth. -/
noncomputable def Try.pinned : Pinned := { name := "ytdmhpmnbcbjneaa", sum := "6b8ebe83b39010e10edc05f193c44b038cbee19130a59514aa7d47cd5de5f2f7", checked := Try.checked }
namespace Rows
def none {H : Type} : Left H := { results := [], args := [] }

/-- 'padstonelaw12.DerivePlays': WHATEVER THE INPUT: true; the input reads as it did. -/
def derivePlaysSpec : ChangeSpec := { name := "derivePlays", fn := fun _ => fun
  | [d1, d2] => { results := [.lit (.bool true)], args := [d1, d2] }
  | _ => none }
def derivePlaysRow : OpenClaim := { program := "ytdmhpmnbcbjneaa", sum := "6b8ebe83b39010e10edc05f193c44b038cbee19130a59514aa7d47cd5de5f2f7", func := "padstone/padstonelaw12.DerivePlays", spec := "derivePlays", unfollowed := true, recurses := true, apart := false }
def DerivePlaysSaid : Prop := derivePlaysRow.holds Try.pinned (OpenSpec.ofChange derivePlaysSpec)

/-- ITS FALSE NEIGHBOUR: 'it returns false'. Refute it at one input. -/
def derivePlaysWrong : ChangeSpec := { name := "derivePlays", fn := fun _ => fun
  | [d1, d2] => { results := [.lit (.bool false)], args := [d1, d2] }
  | _ => none }
def DerivePlaysWrongFalsely : Prop := derivePlaysRow.holds Try.pinned (OpenSpec.ofChange derivePlaysWrong)

/-- 'padstonelaw12.DeriveLess': WHATEVER THE INPUT: true; the input reads as it did. -/
def deriveLessSpec : ChangeSpec := { name := "deriveLess", fn := fun _ => fun
  | [d1, d2, d3] => { results := [.lit (.bool true)], args := [d1, d2, d3] }
  | _ => none }
def deriveLessRow : OpenClaim := { program := "ytdmhpmnbcbjneaa", sum := "6b8ebe83b39010e10edc05f193c44b038cbee19130a59514aa7d47cd5de5f2f7", func := "padstone/padstonelaw12.DeriveLess", spec := "deriveLess", unfollowed := true, recurses := true, apart := false }
def DeriveLessSaid : Prop := deriveLessRow.holds Try.pinned (OpenSpec.ofChange deriveLessSpec)

/-- ITS FALSE NEIGHBOUR: 'it returns false'. Refute it at one input. -/
def deriveLessWrong : ChangeSpec := { name := "deriveLess", fn := fun _ => fun
  | [d1, d2, d3] => { results := [.lit (.bool false)], args := [d1, d2, d3] }
  | _ => none }
def DeriveLessWrongFalsely : Prop := deriveLessRow.holds Try.pinned (OpenSpec.ofChange deriveLessWrong)

/- THE SECOND FORM. 'bulk': how many values and letters a reading holds, each counted each time it is reached (what is shared counts as often as it is met; a slice's spare places count too). A statement '..UptoSaid' is the law's where the arguments, and the package variables that the reading takes, are together of bulk at most 1048576: NARROWER than '..Said'. Prove '..Said' where nothing that the law and all that it calls make is longer than what came in: it says more and counts as full. Else prove '..UptoSaid'. A law counts once. -/
mutual
def uptoBulk {H : Type} : DataW H → Nat
  | .lit (.string bytes) => bytes.length + 1
  | .lit _ => 1
  | .nil => 1
  | .ptr d => uptoBulk d + 1
  | .slice elems spare => uptoBulkAll elems + uptoBulkAll spare + 1
  | .agg parts => uptoBulkAll parts + 1
  | .iface _ d => uptoBulk d + 1
  | .map entries => uptoBulkEntries entries + 1
  | .held _ => 1
def uptoBulkAll {H : Type} : List (DataW H) → Nat
  | [] => 0
  | d :: r => uptoBulk d + uptoBulkAll r
def uptoBulkEntries {H : Type} : List (Lit × DataW H) → Nat
  | [] => 0
  | x :: r => uptoBulkEntry x + uptoBulkEntries r
def uptoBulkEntry {H : Type} : Lit × DataW H → Nat
  | (.string bytes, d) => bytes.length + uptoBulk d + 1
  | (_, d) => uptoBulk d + 1
 end
def uptoSmall : (H : Type) → List (DataW H) → Bool := fun _ ds => decide (uptoBulkAll ds ≤ 1048576)
def OpenSpec.upto (s : _root_.Go.ChangeSpec) : _root_.Go.OpenSpec := { _root_.Go.OpenSpec.ofChange s with cond := some uptoSmall }

/-- 'padstonelaw12.DerivePlays', WHERE WHAT IT READS IS OF BULK AT MOST 1048576: true; the input reads as it did. -/
def derivePlaysUptoRow : OpenClaim := { program := "ytdmhpmnbcbjneaa", sum := "6b8ebe83b39010e10edc05f193c44b038cbee19130a59514aa7d47cd5de5f2f7", func := "padstone/padstonelaw12.DerivePlays", spec := "derivePlays", unfollowed := true, recurses := true, apart := false, narrowed := true }
def DerivePlaysUptoSaid : Prop := derivePlaysUptoRow.holds Try.pinned (OpenSpec.upto derivePlaysSpec)

/-- 'padstonelaw12.DeriveLess', WHERE WHAT IT READS IS OF BULK AT MOST 1048576: true; the input reads as it did. -/
def deriveLessUptoRow : OpenClaim := { program := "ytdmhpmnbcbjneaa", sum := "6b8ebe83b39010e10edc05f193c44b038cbee19130a59514aa7d47cd5de5f2f7", func := "padstone/padstonelaw12.DeriveLess", spec := "deriveLess", unfollowed := true, recurses := true, apart := false, narrowed := true }
def DeriveLessUptoSaid : Prop := deriveLessUptoRow.holds Try.pinned (OpenSpec.upto deriveLessSpec)

end Rows
end Go.Proofs.Ytdmhpmnbcbjneaa
