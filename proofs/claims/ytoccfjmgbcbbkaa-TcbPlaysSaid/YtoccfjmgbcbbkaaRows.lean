/-
  No cell of these rows narrows 'for every input' (looked for: loops, veiled, ifaces, maps, wideKeys, modest, calm, conditions, laid).
  DERIVED. THE GIVEN ROWS OF THIS SEAT. 3 by the template 'for every input the law returns true; each argument reads behind the call as it read before'; 0 by the template 'total and deterministic' (their statements: YtoccfjmgbcbbkaaTotals.lean).
  GIVEN WITH THE SEED: the statements are not yours to turn. If you find one false, say at which input.
  Laid BY PROGRAM, IN A SANDBOX (cutbox-rows.mjs): the forced cells as the released guide's own fill.sh prints them over the translation 0e44534d06b1cfd3… (all of the seat's roots in one cut). By AI agents, Wed Nov 11 2026. No macro, syntax, notation, axiom, sorry.
-/
import Derived.Test.YtoccfjmgbcbbkaaChecked
import GoSem.Claim
import GoSem.ClaimJoined
import GoSem.ClaimMapViews
import Derived.JoinedTies
import Derived.KernelRfl
namespace Go.Proofs.Ytoccfjmgbcbbkaa
/- THE CELL 'sum', in the pinned program and in every row, IS THE sha256 OF THE DUMP (.gsa) THAT YtoccfjmgbcbbkaaProg.lean LOADS. Nothing in Lean hashes anything: it is a label: what it is worth is what the hold of that sum in a sandbox is worth. -/
noncomputable def Try.pinned : Pinned := { name := "ytoccfjmgbcbbkaa", sum := "0e44534d06b1cfd3e4194b0761a963f9708d1f0daa341d4449318246d05a5d30", checked := Try.checked }
namespace Rows
def none {H : Type} : Left H := { results := [], args := [] }

/-- 'padstonelaw15.EndpOnce': WHATEVER THE INPUT: true; the input reads as it did. -/
def endpOnceSpec : ChangeSpec := { name := "endpOnce", fn := fun _ => fun
  | [d1, d2] => { results := [.lit (.bool true)], args := [d1, d2] }
  | _ => none }
def endpOnceRow : OpenClaim := { program := "ytoccfjmgbcbbkaa", sum := "0e44534d06b1cfd3e4194b0761a963f9708d1f0daa341d4449318246d05a5d30", func := "padstone/padstonelaw15.EndpOnce", spec := "endpOnce", unfollowed := true, recurses := true, apart := false }
def EndpOnceSaid : Prop := endpOnceRow.holds Try.pinned (OpenSpec.ofChange endpOnceSpec)

/-- ITS FALSE NEIGHBOUR: 'it returns false'. Refute it at one input. -/
def endpOnceWrong : ChangeSpec := { name := "endpOnce", fn := fun _ => fun
  | [d1, d2] => { results := [.lit (.bool false)], args := [d1, d2] }
  | _ => none }
def EndpOnceWrongFalsely : Prop := endpOnceRow.holds Try.pinned (OpenSpec.ofChange endpOnceWrong)

/-- 'padstonelaw17.TcbLeaves': WHATEVER THE INPUT: true; the input reads as it did. -/
def tcbLeavesSpec : ChangeSpec := { name := "tcbLeaves", fn := fun _ => fun
  | [d1, d2, d3] => { results := [.lit (.bool true)], args := [d1, d2, d3] }
  | _ => none }
def tcbLeavesRow : OpenClaim := { program := "ytoccfjmgbcbbkaa", sum := "0e44534d06b1cfd3e4194b0761a963f9708d1f0daa341d4449318246d05a5d30", func := "padstone/padstonelaw17.TcbLeaves", spec := "tcbLeaves", unfollowed := true, recurses := true, apart := false }
def TcbLeavesSaid : Prop := tcbLeavesRow.holds Try.pinned (OpenSpec.ofChange tcbLeavesSpec)

/-- ITS FALSE NEIGHBOUR: 'it returns false'. Refute it at one input. -/
def tcbLeavesWrong : ChangeSpec := { name := "tcbLeaves", fn := fun _ => fun
  | [d1, d2, d3] => { results := [.lit (.bool false)], args := [d1, d2, d3] }
  | _ => none }
def TcbLeavesWrongFalsely : Prop := tcbLeavesRow.holds Try.pinned (OpenSpec.ofChange tcbLeavesWrong)

/-- 'padstonelaw17.TcbPlays': WHATEVER THE INPUT: true; the input reads as it did. -/
def tcbPlaysSpec : ChangeSpec := { name := "tcbPlays", fn := fun _ => fun
  | [d1, d2] => { results := [.lit (.bool true)], args := [d1, d2] }
  | _ => none }
def tcbPlaysRow : OpenClaim := { program := "ytoccfjmgbcbbkaa", sum := "0e44534d06b1cfd3e4194b0761a963f9708d1f0daa341d4449318246d05a5d30", func := "padstone/padstonelaw17.TcbPlays", spec := "tcbPlays", unfollowed := true, recurses := true, apart := false }
def TcbPlaysSaid : Prop := tcbPlaysRow.holds Try.pinned (OpenSpec.ofChange tcbPlaysSpec)

/-- ITS FALSE NEIGHBOUR: 'it returns false'. Refute it at one input. -/
def tcbPlaysWrong : ChangeSpec := { name := "tcbPlays", fn := fun _ => fun
  | [d1, d2] => { results := [.lit (.bool false)], args := [d1, d2] }
  | _ => none }
def TcbPlaysWrongFalsely : Prop := tcbPlaysRow.holds Try.pinned (OpenSpec.ofChange tcbPlaysWrong)

/- THE SECOND FORM. 'bulk': how many values and letters a reading holds, each counted each time it is reached (what is shared counts as often as it is met; a slice's spare places count too). A statement '..UptoSaid' is the law's where the arguments, and the package variables that the reading takes, are together of bulk at most 1048576: NARROWER than '..Said'. Prove '..Said' where nothing that the law and all that it calls make is longer than what came in: it says more and counts as full. Else prove '..UptoSaid'. A law counts once. -/
mutual
def uptoBulk {H : Type} : DataW H → Nat
  | .lit (.string bytes) => bytes.length + 1
  | .lit _ => 1
  | .nil => 1
  | .ptr d => uptoBulk d + 1
  | .slice elems spare => uptoBulkAll elems + uptoBulkAll spare + 1
  | .agg parts => uptoBulkAll parts + 1
  | .iface _ d => uptoBulk d + 1
  | .map entries => uptoBulkEntries entries + 1
  | .held _ => 1
def uptoBulkAll {H : Type} : List (DataW H) → Nat
  | [] => 0
  | d :: r => uptoBulk d + uptoBulkAll r
def uptoBulkEntries {H : Type} : List (Lit × DataW H) → Nat
  | [] => 0
  | x :: r => uptoBulkEntry x + uptoBulkEntries r
def uptoBulkEntry {H : Type} : Lit × DataW H → Nat
  | (.string bytes, d) => bytes.length + uptoBulk d + 1
  | (_, d) => uptoBulk d + 1
 end
def uptoSmall : (H : Type) → List (DataW H) → Bool := fun _ ds => decide (uptoBulkAll ds ≤ 1048576)
def OpenSpec.upto (s : _root_.Go.ChangeSpec) : _root_.Go.OpenSpec := { _root_.Go.OpenSpec.ofChange s with cond := some uptoSmall }

/-- 'padstonelaw15.EndpOnce', WHERE WHAT IT READS IS OF BULK AT MOST 1048576: true; the input reads as it did. -/
def endpOnceUptoRow : OpenClaim := { program := "ytoccfjmgbcbbkaa", sum := "0e44534d06b1cfd3e4194b0761a963f9708d1f0daa341d4449318246d05a5d30", func := "padstone/padstonelaw15.EndpOnce", spec := "endpOnce", unfollowed := true, recurses := true, apart := false, narrowed := true }
def EndpOnceUptoSaid : Prop := endpOnceUptoRow.holds Try.pinned (OpenSpec.upto endpOnceSpec)

/-- 'padstonelaw17.TcbLeaves', WHERE WHAT IT READS IS OF BULK AT MOST 1048576: true; the input reads as it did. -/
def tcbLeavesUptoRow : OpenClaim := { program := "ytoccfjmgbcbbkaa", sum := "0e44534d06b1cfd3e4194b0761a963f9708d1f0daa341d4449318246d05a5d30", func := "padstone/padstonelaw17.TcbLeaves", spec := "tcbLeaves", unfollowed := true, recurses := true, apart := false, narrowed := true }
def TcbLeavesUptoSaid : Prop := tcbLeavesUptoRow.holds Try.pinned (OpenSpec.upto tcbLeavesSpec)

/-- 'padstonelaw17.TcbPlays', WHERE WHAT IT READS IS OF BULK AT MOST 1048576: true; the input reads as it did. -/
def tcbPlaysUptoRow : OpenClaim := { program := "ytoccfjmgbcbbkaa", sum := "0e44534d06b1cfd3e4194b0761a963f9708d1f0daa341d4449318246d05a5d30", func := "padstone/padstonelaw17.TcbPlays", spec := "tcbPlays", unfollowed := true, recurses := true, apart := false, narrowed := true }
def TcbPlaysUptoSaid : Prop := tcbPlaysUptoRow.holds Try.pinned (OpenSpec.upto tcbPlaysSpec)

end Rows
end Go.Proofs.Ytoccfjmgbcbbkaa
