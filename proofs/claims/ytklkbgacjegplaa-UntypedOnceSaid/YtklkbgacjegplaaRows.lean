/-
  No cell of these rows narrows 'for every input' (looked for: loops, veiled, ifaces, maps, wideKeys, modest, calm, conditions, laid).
  DERIVED. THE GIVEN ROWS OF THIS SEAT. 4 by the template 'for every input the law returns true; each argument reads behind the call as it read before'; 0 by the template 'total and deterministic' (their statements: YtklkbgacjegplaaTotals.lean).
  GIVEN WITH THE SEED: the statements are not yours to turn. If you find one false, say at which input.
  Laid BY PROGRAM, IN A SANDBOX (cutbox-rows.mjs): the forced cells as the released guide's own fill.sh prints them over the translation b6693b26840f1739… (all of the seat's roots in one cut). By AI agents, Wed Nov 11 2026. No macro, syntax, notation, axiom, sorry.
-/
import Derived.Test.YtklkbgacjegplaaChecked
import GoSem.Claim
import GoSem.ClaimJoined
import GoSem.ClaimMapViews
import Derived.JoinedTies
import Derived.KernelRfl
namespace Go.Proofs.Ytklkbgacjegplaa
/- THE CELL 'sum', in the pinned program and in every row, IS THE sha256 OF THE DUMP (.gsa) THAT YtklkbgacjegplaaProg.lean LOADS. Nothing in Lean hashes anything: it is a label: what it is worth is what the hold of that sum in a sandbox is worth. -/
noncomputable def Try.pinned : Pinned := { name := "ytklkbgacjegplaa", sum := "b6693b26840f17399b94eb16803289b26a23e093e631b2d02e139e633d747260", checked := Try.checked }
namespace Rows
def none {H : Type} : Left H := { results := [], args := [] }

/-- 'padstonelaw11.CspaceJoins': WHATEVER THE INPUT: true; the input reads as it did. -/
def cspaceJoinsSpec : ChangeSpec := { name := "cspaceJoins", fn := fun _ => fun
  | [d1, d2, d3, d4] => { results := [.lit (.bool true)], args := [d1, d2, d3, d4] }
  | _ => none }
def cspaceJoinsRow : OpenClaim := { program := "ytklkbgacjegplaa", sum := "b6693b26840f17399b94eb16803289b26a23e093e631b2d02e139e633d747260", func := "padstone/padstonelaw11.CspaceJoins", spec := "cspaceJoins", unfollowed := true, recurses := true, apart := false }
def CspaceJoinsSaid : Prop := cspaceJoinsRow.holds Try.pinned (OpenSpec.ofChange cspaceJoinsSpec)

/-- ITS FALSE NEIGHBOUR: 'it returns false'. Refute it at one input. -/
def cspaceJoinsWrong : ChangeSpec := { name := "cspaceJoins", fn := fun _ => fun
  | [d1, d2, d3, d4] => { results := [.lit (.bool false)], args := [d1, d2, d3, d4] }
  | _ => none }
def CspaceJoinsWrongFalsely : Prop := cspaceJoinsRow.holds Try.pinned (OpenSpec.ofChange cspaceJoinsWrong)

/-- 'padstonelaw13.UntypedCosts': WHATEVER THE INPUT: true; the input reads as it did. -/
def untypedCostsSpec : ChangeSpec := { name := "untypedCosts", fn := fun _ => fun
  | [d1, d2] => { results := [.lit (.bool true)], args := [d1, d2] }
  | _ => none }
def untypedCostsRow : OpenClaim := { program := "ytklkbgacjegplaa", sum := "b6693b26840f17399b94eb16803289b26a23e093e631b2d02e139e633d747260", func := "padstone/padstonelaw13.UntypedCosts", spec := "untypedCosts", unfollowed := true, recurses := true, apart := false }
def UntypedCostsSaid : Prop := untypedCostsRow.holds Try.pinned (OpenSpec.ofChange untypedCostsSpec)

/-- ITS FALSE NEIGHBOUR: 'it returns false'. Refute it at one input. -/
def untypedCostsWrong : ChangeSpec := { name := "untypedCosts", fn := fun _ => fun
  | [d1, d2] => { results := [.lit (.bool false)], args := [d1, d2] }
  | _ => none }
def UntypedCostsWrongFalsely : Prop := untypedCostsRow.holds Try.pinned (OpenSpec.ofChange untypedCostsWrong)

/-- 'padstonelaw13.UntypedPlays': WHATEVER THE INPUT: true; the input reads as it did. -/
def untypedPlaysSpec : ChangeSpec := { name := "untypedPlays", fn := fun _ => fun
  | [d1, d2, d3] => { results := [.lit (.bool true)], args := [d1, d2, d3] }
  | _ => none }
def untypedPlaysRow : OpenClaim := { program := "ytklkbgacjegplaa", sum := "b6693b26840f17399b94eb16803289b26a23e093e631b2d02e139e633d747260", func := "padstone/padstonelaw13.UntypedPlays", spec := "untypedPlays", unfollowed := true, recurses := true, apart := false }
def UntypedPlaysSaid : Prop := untypedPlaysRow.holds Try.pinned (OpenSpec.ofChange untypedPlaysSpec)

/-- ITS FALSE NEIGHBOUR: 'it returns false'. Refute it at one input. -/
def untypedPlaysWrong : ChangeSpec := { name := "untypedPlays", fn := fun _ => fun
  | [d1, d2, d3] => { results := [.lit (.bool false)], args := [d1, d2, d3] }
  | _ => none }
def UntypedPlaysWrongFalsely : Prop := untypedPlaysRow.holds Try.pinned (OpenSpec.ofChange untypedPlaysWrong)

/-- 'padstonelaw13.UntypedOnce': WHATEVER THE INPUT: true; the input reads as it did. -/
def untypedOnceSpec : ChangeSpec := { name := "untypedOnce", fn := fun _ => fun
  | [d1, d2] => { results := [.lit (.bool true)], args := [d1, d2] }
  | _ => none }
def untypedOnceRow : OpenClaim := { program := "ytklkbgacjegplaa", sum := "b6693b26840f17399b94eb16803289b26a23e093e631b2d02e139e633d747260", func := "padstone/padstonelaw13.UntypedOnce", spec := "untypedOnce", unfollowed := true, recurses := true, apart := false }
def UntypedOnceSaid : Prop := untypedOnceRow.holds Try.pinned (OpenSpec.ofChange untypedOnceSpec)

/-- ITS FALSE NEIGHBOUR: 'it returns false'. Refute it at one input. -/
def untypedOnceWrong : ChangeSpec := { name := "untypedOnce", fn := fun _ => fun
  | [d1, d2] => { results := [.lit (.bool false)], args := [d1, d2] }
  | _ => none }
def UntypedOnceWrongFalsely : Prop := untypedOnceRow.holds Try.pinned (OpenSpec.ofChange untypedOnceWrong)

/- THE SECOND FORM. 'bulk': how many values and letters a reading holds, each counted each time it is reached (what is shared counts as often as it is met; a slice's spare places count too). A statement '..UptoSaid' is the law's where the arguments, and the package variables that the reading takes, are together of bulk at most 1048576: NARROWER than '..Said'. Prove '..Said' where nothing that the law and all that it calls make is longer than what came in: it says more and counts as full. Else prove '..UptoSaid'. A law counts once. -/
mutual
def uptoBulk {H : Type} : DataW H → Nat
  | .lit (.string bytes) => bytes.length + 1
  | .lit _ => 1
  | .nil => 1
  | .ptr d => uptoBulk d + 1
  | .slice elems spare => uptoBulkAll elems + uptoBulkAll spare + 1
  | .agg parts => uptoBulkAll parts + 1
  | .iface _ d => uptoBulk d + 1
  | .map entries => uptoBulkEntries entries + 1
  | .held _ => 1
def uptoBulkAll {H : Type} : List (DataW H) → Nat
  | [] => 0
  | d :: r => uptoBulk d + uptoBulkAll r
def uptoBulkEntries {H : Type} : List (Lit × DataW H) → Nat
  | [] => 0
  | x :: r => uptoBulkEntry x + uptoBulkEntries r
def uptoBulkEntry {H : Type} : Lit × DataW H → Nat
  | (.string bytes, d) => bytes.length + uptoBulk d + 1
  | (_, d) => uptoBulk d + 1
 end
def uptoSmall : (H : Type) → List (DataW H) → Bool := fun _ ds => decide (uptoBulkAll ds ≤ 1048576)
def OpenSpec.upto (s : _root_.Go.ChangeSpec) : _root_.Go.OpenSpec := { _root_.Go.OpenSpec.ofChange s with cond := some uptoSmall }

/-- 'padstonelaw11.CspaceJoins', WHERE WHAT IT READS IS OF BULK AT MOST 1048576: true; the input reads as it did. -/
def cspaceJoinsUptoRow : OpenClaim := { program := "ytklkbgacjegplaa", sum := "b6693b26840f17399b94eb16803289b26a23e093e631b2d02e139e633d747260", func := "padstone/padstonelaw11.CspaceJoins", spec := "cspaceJoins", unfollowed := true, recurses := true, apart := false, narrowed := true }
def CspaceJoinsUptoSaid : Prop := cspaceJoinsUptoRow.holds Try.pinned (OpenSpec.upto cspaceJoinsSpec)

/-- 'padstonelaw13.UntypedCosts', WHERE WHAT IT READS IS OF BULK AT MOST 1048576: true; the input reads as it did. -/
def untypedCostsUptoRow : OpenClaim := { program := "ytklkbgacjegplaa", sum := "b6693b26840f17399b94eb16803289b26a23e093e631b2d02e139e633d747260", func := "padstone/padstonelaw13.UntypedCosts", spec := "untypedCosts", unfollowed := true, recurses := true, apart := false, narrowed := true }
def UntypedCostsUptoSaid : Prop := untypedCostsUptoRow.holds Try.pinned (OpenSpec.upto untypedCostsSpec)

/-- 'padstonelaw13.UntypedPlays', WHERE WHAT IT READS IS OF BULK AT MOST 1048576: true; the input reads as it did. -/
def untypedPlaysUptoRow : OpenClaim := { program := "ytklkbgacjegplaa", sum := "b6693b26840f17399b94eb16803289b26a23e093e631b2d02e139e633d747260", func := "padstone/padstonelaw13.UntypedPlays", spec := "untypedPlays", unfollowed := true, recurses := true, apart := false, narrowed := true }
def UntypedPlaysUptoSaid : Prop := untypedPlaysUptoRow.holds Try.pinned (OpenSpec.upto untypedPlaysSpec)

/-- 'padstonelaw13.UntypedOnce', WHERE WHAT IT READS IS OF BULK AT MOST 1048576: true; the input reads as it did. -/
def untypedOnceUptoRow : OpenClaim := { program := "ytklkbgacjegplaa", sum := "b6693b26840f17399b94eb16803289b26a23e093e631b2d02e139e633d747260", func := "padstone/padstonelaw13.UntypedOnce", spec := "untypedOnce", unfollowed := true, recurses := true, apart := false, narrowed := true }
def UntypedOnceUptoSaid : Prop := untypedOnceUptoRow.holds Try.pinned (OpenSpec.upto untypedOnceSpec)

end Rows
end Go.Proofs.Ytklkbgacjegplaa
