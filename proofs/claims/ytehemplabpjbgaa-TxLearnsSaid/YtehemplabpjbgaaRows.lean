/-
  No cell of these rows narrows 'for every input' (looked for: loops, veiled, ifaces, maps, wideKeys, modest, calm, conditions, laid).
  DERIVED. THE GIVEN ROWS OF THIS SEAT. 3 by the template 'for every input the law returns true; each argument reads behind the call as it read before'; 0 by the template 'total and deterministic' (their statements: YtehemplabpjbgaaTotals.lean).
  GIVEN WITH THE SEED: the statements are not yours to turn. If you find one false, say at which input.
  Laid BY PROGRAM, IN A SANDBOX (cutbox-rows.mjs): the forced cells as the released guide's own fill.sh prints them over the translation 22b2d630f153e23a… (all of the seat's roots in one cut). By AI agents, Wed Nov 11 2026. No macro, syntax, notation, axiom, sorry.
-/
import Derived.Test.YtehemplabpjbgaaChecked
import GoSem.Claim
import GoSem.ClaimJoined
import GoSem.ClaimMapViews
import Derived.JoinedTies
import Derived.KernelRfl
namespace Go.Proofs.Ytehemplabpjbgaa
/- THE CELL 'sum', in the pinned program and in every row, IS THE sha256 OF THE DUMP (.gsa) THAT YtehemplabpjbgaaProg.lean LOADS. Nothing in Lean hashes anything: it is a label: what it is worth is what the hold of that sum in a sandbox is worth. -/
noncomputable def Try.pinned : Pinned := { name := "ytehemplabpjbgaa", sum := "22b2d630f153e23af6f4d4216b351635d7ecc59b27091d9091f3140920b6a1d2", checked := Try.checked }
namespace Rows
def none {H : Type} : Left H := { results := [], args := [] }

/-- 'padstonelaw05.ViewOf': WHATEVER THE INPUT: true; the input reads as it did. -/
def viewOfSpec : ChangeSpec := { name := "viewOf", fn := fun _ => fun
  | [d1, d2] => { results := [.lit (.bool true)], args := [d1, d2] }
  | _ => none }
def viewOfRow : OpenClaim := { program := "ytehemplabpjbgaa", sum := "22b2d630f153e23af6f4d4216b351635d7ecc59b27091d9091f3140920b6a1d2", func := "padstone/padstonelaw05.ViewOf", spec := "viewOf", unfollowed := true, recurses := true, apart := false }
def ViewOfSaid : Prop := viewOfRow.holds Try.pinned (OpenSpec.ofChange viewOfSpec)

/-- ITS FALSE NEIGHBOUR: 'it returns false'. Refute it at one input. -/
def viewOfWrong : ChangeSpec := { name := "viewOf", fn := fun _ => fun
  | [d1, d2] => { results := [.lit (.bool false)], args := [d1, d2] }
  | _ => none }
def ViewOfWrongFalsely : Prop := viewOfRow.holds Try.pinned (OpenSpec.ofChange viewOfWrong)

/-- 'padstonelaw06.TxFirst': WHATEVER THE INPUT: true; the input reads as it did. -/
def txFirstSpec : ChangeSpec := { name := "txFirst", fn := fun _ => fun
  | [d1, d2, d3] => { results := [.lit (.bool true)], args := [d1, d2, d3] }
  | _ => none }
def txFirstRow : OpenClaim := { program := "ytehemplabpjbgaa", sum := "22b2d630f153e23af6f4d4216b351635d7ecc59b27091d9091f3140920b6a1d2", func := "padstone/padstonelaw06.TxFirst", spec := "txFirst", unfollowed := true, recurses := true, apart := false }
def TxFirstSaid : Prop := txFirstRow.holds Try.pinned (OpenSpec.ofChange txFirstSpec)

/-- ITS FALSE NEIGHBOUR: 'it returns false'. Refute it at one input. -/
def txFirstWrong : ChangeSpec := { name := "txFirst", fn := fun _ => fun
  | [d1, d2, d3] => { results := [.lit (.bool false)], args := [d1, d2, d3] }
  | _ => none }
def TxFirstWrongFalsely : Prop := txFirstRow.holds Try.pinned (OpenSpec.ofChange txFirstWrong)

/-- 'padstonelaw06.TxLearns': WHATEVER THE INPUT: true; the input reads as it did. -/
def txLearnsSpec : ChangeSpec := { name := "txLearns", fn := fun _ => fun
  | [d1, d2] => { results := [.lit (.bool true)], args := [d1, d2] }
  | _ => none }
def txLearnsRow : OpenClaim := { program := "ytehemplabpjbgaa", sum := "22b2d630f153e23af6f4d4216b351635d7ecc59b27091d9091f3140920b6a1d2", func := "padstone/padstonelaw06.TxLearns", spec := "txLearns", unfollowed := true, recurses := true, apart := false }
def TxLearnsSaid : Prop := txLearnsRow.holds Try.pinned (OpenSpec.ofChange txLearnsSpec)

/-- ITS FALSE NEIGHBOUR: 'it returns false'. Refute it at one input. -/
def txLearnsWrong : ChangeSpec := { name := "txLearns", fn := fun _ => fun
  | [d1, d2] => { results := [.lit (.bool false)], args := [d1, d2] }
  | _ => none }
def TxLearnsWrongFalsely : Prop := txLearnsRow.holds Try.pinned (OpenSpec.ofChange txLearnsWrong)

/- THE SECOND FORM. 'bulk': how many values and letters a reading holds, each counted each time it is reached (what is shared counts as often as it is met; a slice's spare places count too). A statement '..UptoSaid' is the law's where the arguments, and the package variables that the reading takes, are together of bulk at most 1048576: NARROWER than '..Said'. Prove '..Said' where nothing that the law and all that it calls make is longer than what came in: it says more and counts as full. Else prove '..UptoSaid'. A law counts once. -/
mutual
def uptoBulk {H : Type} : DataW H → Nat
  | .lit (.string bytes) => bytes.length + 1
  | .lit _ => 1
  | .nil => 1
  | .ptr d => uptoBulk d + 1
  | .slice elems spare => uptoBulkAll elems + uptoBulkAll spare + 1
  | .agg parts => uptoBulkAll parts + 1
  | .iface _ d => uptoBulk d + 1
  | .map entries => uptoBulkEntries entries + 1
  | .held _ => 1
def uptoBulkAll {H : Type} : List (DataW H) → Nat
  | [] => 0
  | d :: r => uptoBulk d + uptoBulkAll r
def uptoBulkEntries {H : Type} : List (Lit × DataW H) → Nat
  | [] => 0
  | x :: r => uptoBulkEntry x + uptoBulkEntries r
def uptoBulkEntry {H : Type} : Lit × DataW H → Nat
  | (.string bytes, d) => bytes.length + uptoBulk d + 1
  | (_, d) => uptoBulk d + 1
 end
def uptoSmall : (H : Type) → List (DataW H) → Bool := fun _ ds => decide (uptoBulkAll ds ≤ 1048576)
def OpenSpec.upto (s : _root_.Go.ChangeSpec) : _root_.Go.OpenSpec := { _root_.Go.OpenSpec.ofChange s with cond := some uptoSmall }

/-- 'padstonelaw05.ViewOf', WHERE WHAT IT READS IS OF BULK AT MOST 1048576: true; the input reads as it did. -/
def viewOfUptoRow : OpenClaim := { program := "ytehemplabpjbgaa", sum := "22b2d630f153e23af6f4d4216b351635d7ecc59b27091d9091f3140920b6a1d2", func := "padstone/padstonelaw05.ViewOf", spec := "viewOf", unfollowed := true, recurses := true, apart := false, narrowed := true }
def ViewOfUptoSaid : Prop := viewOfUptoRow.holds Try.pinned (OpenSpec.upto viewOfSpec)

/-- 'padstonelaw06.TxFirst', WHERE WHAT IT READS IS OF BULK AT MOST 1048576: true; the input reads as it did. -/
def txFirstUptoRow : OpenClaim := { program := "ytehemplabpjbgaa", sum := "22b2d630f153e23af6f4d4216b351635d7ecc59b27091d9091f3140920b6a1d2", func := "padstone/padstonelaw06.TxFirst", spec := "txFirst", unfollowed := true, recurses := true, apart := false, narrowed := true }
def TxFirstUptoSaid : Prop := txFirstUptoRow.holds Try.pinned (OpenSpec.upto txFirstSpec)

/-- 'padstonelaw06.TxLearns', WHERE WHAT IT READS IS OF BULK AT MOST 1048576: true; the input reads as it did. -/
def txLearnsUptoRow : OpenClaim := { program := "ytehemplabpjbgaa", sum := "22b2d630f153e23af6f4d4216b351635d7ecc59b27091d9091f3140920b6a1d2", func := "padstone/padstonelaw06.TxLearns", spec := "txLearns", unfollowed := true, recurses := true, apart := false, narrowed := true }
def TxLearnsUptoSaid : Prop := txLearnsUptoRow.holds Try.pinned (OpenSpec.upto txLearnsSpec)

end Rows
end Go.Proofs.Ytehemplabpjbgaa
