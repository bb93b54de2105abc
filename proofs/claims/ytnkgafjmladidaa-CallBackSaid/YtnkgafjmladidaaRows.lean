/-
  No cell of these rows narrows 'for every input' (looked for: loops, veiled, ifaces, maps, wideKeys, modest, calm, conditions, laid).
  DERIVED. THE GIVEN ROWS OF THIS SEAT. 13 by the template 'for every input the law returns true; each argument reads behind the call as it read before'; 0 by the template 'total and deterministic' (their statements: YtnkgafjmladidaaTotals.lean).
  GIVEN WITH THE SEED: the statements are not yours to turn. If you find one false, say at which input.
  Laid BY PROGRAM, IN A SANDBOX (cutbox-rows.mjs): the forced cells as the released guide's own fill.sh prints them over the translation 1b6d20eef3453670… (all of the seat's roots in one cut). By AI agents, Wed Nov 11 2026. No macro, syntax, notation, axiom, sorry.
-/
import Derived.Test.YtnkgafjmladidaaChecked
import GoSem.Claim
import GoSem.ClaimJoined
import GoSem.ClaimMapViews
import Derived.JoinedTies
import Derived.KernelRfl
namespace Go.Proofs.Ytnkgafjmladidaa
/- THE CELL 'sum', in the pinned program and in every row, IS THE sha256 OF THE DUMP (.gsa) THAT YtnkgafjmladidaaProg.lean LOADS. Nothing in Lean hashes anything: it is a label: what it is worth is what the hold of that sum in a sandbox is worth. -/
noncomputable def Try.pinned : Pinned := { name := "ytnkgafjmladidaa", sum := "1b6d20eef345367000b4203e5561191d4c08f9fe2df9eb268b0e01cb26965c5f", checked := Try.checked }
namespace Rows
def none {H : Type} : Left H := { results := [], args := [] }

/-- 'padstonelaw09.LayTells': WHATEVER THE INPUT: true; the input reads as it did. -/
def layTellsSpec : ChangeSpec := { name := "layTells", fn := fun _ => fun
  | [d1, d2] => { results := [.lit (.bool true)], args := [d1, d2] }
  | _ => none }
def layTellsRow : OpenClaim := { program := "ytnkgafjmladidaa", sum := "1b6d20eef345367000b4203e5561191d4c08f9fe2df9eb268b0e01cb26965c5f", func := "padstone/padstonelaw09.LayTells", spec := "layTells", apart := false }
def LayTellsSaid : Prop := layTellsRow.holds Try.pinned (OpenSpec.ofChange layTellsSpec)

/-- ITS FALSE NEIGHBOUR: 'it returns false'. Refute it at one input. -/
def layTellsWrong : ChangeSpec := { name := "layTells", fn := fun _ => fun
  | [d1, d2] => { results := [.lit (.bool false)], args := [d1, d2] }
  | _ => none }
def LayTellsWrongFalsely : Prop := layTellsRow.holds Try.pinned (OpenSpec.ofChange layTellsWrong)

/-- 'padstonelaw05.ViewTells': WHATEVER THE INPUT: true; the input reads as it did. -/
def viewTellsSpec : ChangeSpec := { name := "viewTells", fn := fun _ => fun
  | [d1, d2, d3, d4, d5, d6] => { results := [.lit (.bool true)], args := [d1, d2, d3, d4, d5, d6] }
  | _ => none }
def viewTellsRow : OpenClaim := { program := "ytnkgafjmladidaa", sum := "1b6d20eef345367000b4203e5561191d4c08f9fe2df9eb268b0e01cb26965c5f", func := "padstone/padstonelaw05.ViewTells", spec := "viewTells", unfollowed := true, recurses := true, apart := false }
def ViewTellsSaid : Prop := viewTellsRow.holds Try.pinned (OpenSpec.ofChange viewTellsSpec)

/-- ITS FALSE NEIGHBOUR: 'it returns false'. Refute it at one input. -/
def viewTellsWrong : ChangeSpec := { name := "viewTells", fn := fun _ => fun
  | [d1, d2, d3, d4, d5, d6] => { results := [.lit (.bool false)], args := [d1, d2, d3, d4, d5, d6] }
  | _ => none }
def ViewTellsWrongFalsely : Prop := viewTellsRow.holds Try.pinned (OpenSpec.ofChange viewTellsWrong)

/-- 'padstonelaw05.ViewChanges': WHATEVER THE INPUT: true; the input reads as it did. -/
def viewChangesSpec : ChangeSpec := { name := "viewChanges", fn := fun _ => fun
  | [d1, d2] => { results := [.lit (.bool true)], args := [d1, d2] }
  | _ => none }
def viewChangesRow : OpenClaim := { program := "ytnkgafjmladidaa", sum := "1b6d20eef345367000b4203e5561191d4c08f9fe2df9eb268b0e01cb26965c5f", func := "padstone/padstonelaw05.ViewChanges", spec := "viewChanges", unfollowed := true, recurses := true, apart := false }
def ViewChangesSaid : Prop := viewChangesRow.holds Try.pinned (OpenSpec.ofChange viewChangesSpec)

/-- ITS FALSE NEIGHBOUR: 'it returns false'. Refute it at one input. -/
def viewChangesWrong : ChangeSpec := { name := "viewChanges", fn := fun _ => fun
  | [d1, d2] => { results := [.lit (.bool false)], args := [d1, d2] }
  | _ => none }
def ViewChangesWrongFalsely : Prop := viewChangesRow.holds Try.pinned (OpenSpec.ofChange viewChangesWrong)

/-- 'padstonelaw20.CallTells': WHATEVER THE INPUT: true; the input reads as it did. -/
def callTellsSpec : ChangeSpec := { name := "callTells", fn := fun _ => fun
  | [d1, d2] => { results := [.lit (.bool true)], args := [d1, d2] }
  | _ => none }
def callTellsRow : OpenClaim := { program := "ytnkgafjmladidaa", sum := "1b6d20eef345367000b4203e5561191d4c08f9fe2df9eb268b0e01cb26965c5f", func := "padstone/padstonelaw20.CallTells", spec := "callTells", unfollowed := true, recurses := true, apart := false }
def CallTellsSaid : Prop := callTellsRow.holds Try.pinned (OpenSpec.ofChange callTellsSpec)

/-- ITS FALSE NEIGHBOUR: 'it returns false'. Refute it at one input. -/
def callTellsWrong : ChangeSpec := { name := "callTells", fn := fun _ => fun
  | [d1, d2] => { results := [.lit (.bool false)], args := [d1, d2] }
  | _ => none }
def CallTellsWrongFalsely : Prop := callTellsRow.holds Try.pinned (OpenSpec.ofChange callTellsWrong)

/-- 'padstonelaw02.PackTells': WHATEVER THE INPUT: true; the input reads as it did. -/
def packTellsSpec : ChangeSpec := { name := "packTells", fn := fun _ => fun
  | [d1, d2] => { results := [.lit (.bool true)], args := [d1, d2] }
  | _ => none }
def packTellsRow : OpenClaim := { program := "ytnkgafjmladidaa", sum := "1b6d20eef345367000b4203e5561191d4c08f9fe2df9eb268b0e01cb26965c5f", func := "padstone/padstonelaw02.PackTells", spec := "packTells", unfollowed := true, recurses := true, apart := false }
def PackTellsSaid : Prop := packTellsRow.holds Try.pinned (OpenSpec.ofChange packTellsSpec)

/-- ITS FALSE NEIGHBOUR: 'it returns false'. Refute it at one input. -/
def packTellsWrong : ChangeSpec := { name := "packTells", fn := fun _ => fun
  | [d1, d2] => { results := [.lit (.bool false)], args := [d1, d2] }
  | _ => none }
def PackTellsWrongFalsely : Prop := packTellsRow.holds Try.pinned (OpenSpec.ofChange packTellsWrong)

/-- 'padstonelaw02.PackBack': WHATEVER THE INPUT: true; the input reads as it did. -/
def packBackSpec : ChangeSpec := { name := "packBack", fn := fun _ => fun
  | [d1, d2] => { results := [.lit (.bool true)], args := [d1, d2] }
  | _ => none }
def packBackRow : OpenClaim := { program := "ytnkgafjmladidaa", sum := "1b6d20eef345367000b4203e5561191d4c08f9fe2df9eb268b0e01cb26965c5f", func := "padstone/padstonelaw02.PackBack", spec := "packBack", unfollowed := true, recurses := true, apart := false }
def PackBackSaid : Prop := packBackRow.holds Try.pinned (OpenSpec.ofChange packBackSpec)

/-- ITS FALSE NEIGHBOUR: 'it returns false'. Refute it at one input. -/
def packBackWrong : ChangeSpec := { name := "packBack", fn := fun _ => fun
  | [d1, d2] => { results := [.lit (.bool false)], args := [d1, d2] }
  | _ => none }
def PackBackWrongFalsely : Prop := packBackRow.holds Try.pinned (OpenSpec.ofChange packBackWrong)

/-- 'padstonelaw04.GuardWalks': WHATEVER THE INPUT: true; the input reads as it did. -/
def guardWalksSpec : ChangeSpec := { name := "guardWalks", fn := fun _ => fun
  | [d1, d2, d3, d4, d5] => { results := [.lit (.bool true)], args := [d1, d2, d3, d4, d5] }
  | _ => none }
def guardWalksRow : OpenClaim := { program := "ytnkgafjmladidaa", sum := "1b6d20eef345367000b4203e5561191d4c08f9fe2df9eb268b0e01cb26965c5f", func := "padstone/padstonelaw04.GuardWalks", spec := "guardWalks", apart := false }
def GuardWalksSaid : Prop := guardWalksRow.holds Try.pinned (OpenSpec.ofChange guardWalksSpec)

/-- ITS FALSE NEIGHBOUR: 'it returns false'. Refute it at one input. -/
def guardWalksWrong : ChangeSpec := { name := "guardWalks", fn := fun _ => fun
  | [d1, d2, d3, d4, d5] => { results := [.lit (.bool false)], args := [d1, d2, d3, d4, d5] }
  | _ => none }
def GuardWalksWrongFalsely : Prop := guardWalksRow.holds Try.pinned (OpenSpec.ofChange guardWalksWrong)

/-- 'padstonelaw04.GuardJoins': WHATEVER THE INPUT: true; the input reads as it did. -/
def guardJoinsSpec : ChangeSpec := { name := "guardJoins", fn := fun _ => fun
  | [d1, d2] => { results := [.lit (.bool true)], args := [d1, d2] }
  | _ => none }
def guardJoinsRow : OpenClaim := { program := "ytnkgafjmladidaa", sum := "1b6d20eef345367000b4203e5561191d4c08f9fe2df9eb268b0e01cb26965c5f", func := "padstone/padstonelaw04.GuardJoins", spec := "guardJoins", apart := false }
def GuardJoinsSaid : Prop := guardJoinsRow.holds Try.pinned (OpenSpec.ofChange guardJoinsSpec)

/-- ITS FALSE NEIGHBOUR: 'it returns false'. Refute it at one input. -/
def guardJoinsWrong : ChangeSpec := { name := "guardJoins", fn := fun _ => fun
  | [d1, d2] => { results := [.lit (.bool false)], args := [d1, d2] }
  | _ => none }
def GuardJoinsWrongFalsely : Prop := guardJoinsRow.holds Try.pinned (OpenSpec.ofChange guardJoinsWrong)

/-- 'padstonelaw04.GuardBack': WHATEVER THE INPUT: true; the input reads as it did. -/
def guardBackSpec : ChangeSpec := { name := "guardBack", fn := fun _ => fun
  | [d1, d2, d3, d4, d5] => { results := [.lit (.bool true)], args := [d1, d2, d3, d4, d5] }
  | _ => none }
def guardBackRow : OpenClaim := { program := "ytnkgafjmladidaa", sum := "1b6d20eef345367000b4203e5561191d4c08f9fe2df9eb268b0e01cb26965c5f", func := "padstone/padstonelaw04.GuardBack", spec := "guardBack", apart := false }
def GuardBackSaid : Prop := guardBackRow.holds Try.pinned (OpenSpec.ofChange guardBackSpec)

/-- ITS FALSE NEIGHBOUR: 'it returns false'. Refute it at one input. -/
def guardBackWrong : ChangeSpec := { name := "guardBack", fn := fun _ => fun
  | [d1, d2, d3, d4, d5] => { results := [.lit (.bool false)], args := [d1, d2, d3, d4, d5] }
  | _ => none }
def GuardBackWrongFalsely : Prop := guardBackRow.holds Try.pinned (OpenSpec.ofChange guardBackWrong)

/-- 'padstonelaw03.RightsLess': WHATEVER THE INPUT: true; the input reads as it did. -/
def rightsLessSpec : ChangeSpec := { name := "rightsLess", fn := fun _ => fun
  | [d1, d2, d3, d4] => { results := [.lit (.bool true)], args := [d1, d2, d3, d4] }
  | _ => none }
def rightsLessRow : OpenClaim := { program := "ytnkgafjmladidaa", sum := "1b6d20eef345367000b4203e5561191d4c08f9fe2df9eb268b0e01cb26965c5f", func := "padstone/padstonelaw03.RightsLess", spec := "rightsLess", unfollowed := true, recurses := true, apart := false }
def RightsLessSaid : Prop := rightsLessRow.holds Try.pinned (OpenSpec.ofChange rightsLessSpec)

/-- ITS FALSE NEIGHBOUR: 'it returns false'. Refute it at one input. -/
def rightsLessWrong : ChangeSpec := { name := "rightsLess", fn := fun _ => fun
  | [d1, d2, d3, d4] => { results := [.lit (.bool false)], args := [d1, d2, d3, d4] }
  | _ => none }
def RightsLessWrongFalsely : Prop := rightsLessRow.holds Try.pinned (OpenSpec.ofChange rightsLessWrong)

/-- 'padstonelaw20.CallPacks': WHATEVER THE INPUT: true; the input reads as it did. -/
def callPacksSpec : ChangeSpec := { name := "callPacks", fn := fun _ => fun
  | [d1, d2] => { results := [.lit (.bool true)], args := [d1, d2] }
  | _ => none }
def callPacksRow : OpenClaim := { program := "ytnkgafjmladidaa", sum := "1b6d20eef345367000b4203e5561191d4c08f9fe2df9eb268b0e01cb26965c5f", func := "padstone/padstonelaw20.CallPacks", spec := "callPacks", unfollowed := true, recurses := true, apart := false }
def CallPacksSaid : Prop := callPacksRow.holds Try.pinned (OpenSpec.ofChange callPacksSpec)

/-- ITS FALSE NEIGHBOUR: 'it returns false'. Refute it at one input. -/
def callPacksWrong : ChangeSpec := { name := "callPacks", fn := fun _ => fun
  | [d1, d2] => { results := [.lit (.bool false)], args := [d1, d2] }
  | _ => none }
def CallPacksWrongFalsely : Prop := callPacksRow.holds Try.pinned (OpenSpec.ofChange callPacksWrong)

/-- 'padstonelaw20.CallBack': WHATEVER THE INPUT: true; the input reads as it did. -/
def callBackSpec : ChangeSpec := { name := "callBack", fn := fun _ => fun
  | [d1, d2, d3, d4] => { results := [.lit (.bool true)], args := [d1, d2, d3, d4] }
  | _ => none }
def callBackRow : OpenClaim := { program := "ytnkgafjmladidaa", sum := "1b6d20eef345367000b4203e5561191d4c08f9fe2df9eb268b0e01cb26965c5f", func := "padstone/padstonelaw20.CallBack", spec := "callBack", unfollowed := true, recurses := true, apart := false }
def CallBackSaid : Prop := callBackRow.holds Try.pinned (OpenSpec.ofChange callBackSpec)

/-- ITS FALSE NEIGHBOUR: 'it returns false'. Refute it at one input. -/
def callBackWrong : ChangeSpec := { name := "callBack", fn := fun _ => fun
  | [d1, d2, d3, d4] => { results := [.lit (.bool false)], args := [d1, d2, d3, d4] }
  | _ => none }
def CallBackWrongFalsely : Prop := callBackRow.holds Try.pinned (OpenSpec.ofChange callBackWrong)

/-- 'padstonelaw03.RightsTell': WHATEVER THE INPUT: true; the input reads as it did. -/
def rightsTellSpec : ChangeSpec := { name := "rightsTell", fn := fun _ => fun
  | [d1, d2, d3, d4, d5, d6] => { results := [.lit (.bool true)], args := [d1, d2, d3, d4, d5, d6] }
  | _ => none }
def rightsTellRow : OpenClaim := { program := "ytnkgafjmladidaa", sum := "1b6d20eef345367000b4203e5561191d4c08f9fe2df9eb268b0e01cb26965c5f", func := "padstone/padstonelaw03.RightsTell", spec := "rightsTell", unfollowed := true, recurses := true, apart := false }
def RightsTellSaid : Prop := rightsTellRow.holds Try.pinned (OpenSpec.ofChange rightsTellSpec)

/-- ITS FALSE NEIGHBOUR: 'it returns false'. Refute it at one input. -/
def rightsTellWrong : ChangeSpec := { name := "rightsTell", fn := fun _ => fun
  | [d1, d2, d3, d4, d5, d6] => { results := [.lit (.bool false)], args := [d1, d2, d3, d4, d5, d6] }
  | _ => none }
def RightsTellWrongFalsely : Prop := rightsTellRow.holds Try.pinned (OpenSpec.ofChange rightsTellWrong)

/- THE SECOND FORM. 'bulk': how many values and letters a reading holds, each counted each time it is reached (what is shared counts as often as it is met; a slice's spare places count too). A statement '..UptoSaid' is the law's where the arguments, and the package variables that the reading takes, are together of bulk at most 1048576: NARROWER than '..Said'. Prove '..Said' where nothing that the law and all that it calls make is longer than what came in: it says more and counts as full. Else prove '..UptoSaid'. A law counts once. -/
mutual
def uptoBulk {H : Type} : DataW H → Nat
  | .lit (.string bytes) => bytes.length + 1
  | .lit _ => 1
  | .nil => 1
  | .ptr d => uptoBulk d + 1
  | .slice elems spare => uptoBulkAll elems + uptoBulkAll spare + 1
  | .agg parts => uptoBulkAll parts + 1
  | .iface _ d => uptoBulk d + 1
  | .map entries => uptoBulkEntries entries + 1
  | .held _ => 1
def uptoBulkAll {H : Type} : List (DataW H) → Nat
  | [] => 0
  | d :: r => uptoBulk d + uptoBulkAll r
def uptoBulkEntries {H : Type} : List (Lit × DataW H) → Nat
  | [] => 0
  | x :: r => uptoBulkEntry x + uptoBulkEntries r
def uptoBulkEntry {H : Type} : Lit × DataW H → Nat
  | (.string bytes, d) => bytes.length + uptoBulk d + 1
  | (_, d) => uptoBulk d + 1
 end
def uptoSmall : (H : Type) → List (DataW H) → Bool := fun _ ds => decide (uptoBulkAll ds ≤ 1048576)
def OpenSpec.upto (s : _root_.Go.ChangeSpec) : _root_.Go.OpenSpec := { _root_.Go.OpenSpec.ofChange s with cond := some uptoSmall }

/-- 'padstonelaw09.LayTells', WHERE WHAT IT READS IS OF BULK AT MOST 1048576: true; the input reads as it did. -/
def layTellsUptoRow : OpenClaim := { program := "ytnkgafjmladidaa", sum := "1b6d20eef345367000b4203e5561191d4c08f9fe2df9eb268b0e01cb26965c5f", func := "padstone/padstonelaw09.LayTells", spec := "layTells", apart := false, narrowed := true }
def LayTellsUptoSaid : Prop := layTellsUptoRow.holds Try.pinned (OpenSpec.upto layTellsSpec)

/-- 'padstonelaw05.ViewTells', WHERE WHAT IT READS IS OF BULK AT MOST 1048576: true; the input reads as it did. -/
def viewTellsUptoRow : OpenClaim := { program := "ytnkgafjmladidaa", sum := "1b6d20eef345367000b4203e5561191d4c08f9fe2df9eb268b0e01cb26965c5f", func := "padstone/padstonelaw05.ViewTells", spec := "viewTells", unfollowed := true, recurses := true, apart := false, narrowed := true }
def ViewTellsUptoSaid : Prop := viewTellsUptoRow.holds Try.pinned (OpenSpec.upto viewTellsSpec)

/-- 'padstonelaw05.ViewChanges', WHERE WHAT IT READS IS OF BULK AT MOST 1048576: true; the input reads as it did. -/
def viewChangesUptoRow : OpenClaim := { program := "ytnkgafjmladidaa", sum := "1b6d20eef345367000b4203e5561191d4c08f9fe2df9eb268b0e01cb26965c5f", func := "padstone/padstonelaw05.ViewChanges", spec := "viewChanges", unfollowed := true, recurses := true, apart := false, narrowed := true }
def ViewChangesUptoSaid : Prop := viewChangesUptoRow.holds Try.pinned (OpenSpec.upto viewChangesSpec)

/-- 'padstonelaw20.CallTells', WHERE WHAT IT READS IS OF BULK AT MOST 1048576: true; the input reads as it did. -/
def callTellsUptoRow : OpenClaim := { program := "ytnkgafjmladidaa", sum := "1b6d20eef345367000b4203e5561191d4c08f9fe2df9eb268b0e01cb26965c5f", func := "padstone/padstonelaw20.CallTells", spec := "callTells", unfollowed := true, recurses := true, apart := false, narrowed := true }
def CallTellsUptoSaid : Prop := callTellsUptoRow.holds Try.pinned (OpenSpec.upto callTellsSpec)

/-- 'padstonelaw02.PackTells', WHERE WHAT IT READS IS OF BULK AT MOST 1048576: true; the input reads as it did. -/
def packTellsUptoRow : OpenClaim := { program := "ytnkgafjmladidaa", sum := "1b6d20eef345367000b4203e5561191d4c08f9fe2df9eb268b0e01cb26965c5f", func := "padstone/padstonelaw02.PackTells", spec := "packTells", unfollowed := true, recurses := true, apart := false, narrowed := true }
def PackTellsUptoSaid : Prop := packTellsUptoRow.holds Try.pinned (OpenSpec.upto packTellsSpec)

/-- 'padstonelaw02.PackBack', WHERE WHAT IT READS IS OF BULK AT MOST 1048576: true; the input reads as it did. -/
def packBackUptoRow : OpenClaim := { program := "ytnkgafjmladidaa", sum := "1b6d20eef345367000b4203e5561191d4c08f9fe2df9eb268b0e01cb26965c5f", func := "padstone/padstonelaw02.PackBack", spec := "packBack", unfollowed := true, recurses := true, apart := false, narrowed := true }
def PackBackUptoSaid : Prop := packBackUptoRow.holds Try.pinned (OpenSpec.upto packBackSpec)

/-- 'padstonelaw04.GuardWalks', WHERE WHAT IT READS IS OF BULK AT MOST 1048576: true; the input reads as it did. -/
def guardWalksUptoRow : OpenClaim := { program := "ytnkgafjmladidaa", sum := "1b6d20eef345367000b4203e5561191d4c08f9fe2df9eb268b0e01cb26965c5f", func := "padstone/padstonelaw04.GuardWalks", spec := "guardWalks", apart := false, narrowed := true }
def GuardWalksUptoSaid : Prop := guardWalksUptoRow.holds Try.pinned (OpenSpec.upto guardWalksSpec)

/-- 'padstonelaw04.GuardJoins', WHERE WHAT IT READS IS OF BULK AT MOST 1048576: true; the input reads as it did. -/
def guardJoinsUptoRow : OpenClaim := { program := "ytnkgafjmladidaa", sum := "1b6d20eef345367000b4203e5561191d4c08f9fe2df9eb268b0e01cb26965c5f", func := "padstone/padstonelaw04.GuardJoins", spec := "guardJoins", apart := false, narrowed := true }
def GuardJoinsUptoSaid : Prop := guardJoinsUptoRow.holds Try.pinned (OpenSpec.upto guardJoinsSpec)

/-- 'padstonelaw04.GuardBack', WHERE WHAT IT READS IS OF BULK AT MOST 1048576: true; the input reads as it did. -/
def guardBackUptoRow : OpenClaim := { program := "ytnkgafjmladidaa", sum := "1b6d20eef345367000b4203e5561191d4c08f9fe2df9eb268b0e01cb26965c5f", func := "padstone/padstonelaw04.GuardBack", spec := "guardBack", apart := false, narrowed := true }
def GuardBackUptoSaid : Prop := guardBackUptoRow.holds Try.pinned (OpenSpec.upto guardBackSpec)

/-- 'padstonelaw03.RightsLess', WHERE WHAT IT READS IS OF BULK AT MOST 1048576: true; the input reads as it did. -/
def rightsLessUptoRow : OpenClaim := { program := "ytnkgafjmladidaa", sum := "1b6d20eef345367000b4203e5561191d4c08f9fe2df9eb268b0e01cb26965c5f", func := "padstone/padstonelaw03.RightsLess", spec := "rightsLess", unfollowed := true, recurses := true, apart := false, narrowed := true }
def RightsLessUptoSaid : Prop := rightsLessUptoRow.holds Try.pinned (OpenSpec.upto rightsLessSpec)

/-- 'padstonelaw20.CallPacks', WHERE WHAT IT READS IS OF BULK AT MOST 1048576: true; the input reads as it did. -/
def callPacksUptoRow : OpenClaim := { program := "ytnkgafjmladidaa", sum := "1b6d20eef345367000b4203e5561191d4c08f9fe2df9eb268b0e01cb26965c5f", func := "padstone/padstonelaw20.CallPacks", spec := "callPacks", unfollowed := true, recurses := true, apart := false, narrowed := true }
def CallPacksUptoSaid : Prop := callPacksUptoRow.holds Try.pinned (OpenSpec.upto callPacksSpec)

/-- 'padstonelaw20.CallBack', WHERE WHAT IT READS IS OF BULK AT MOST 1048576: true; the input reads as it did. -/
def callBackUptoRow : OpenClaim := { program := "ytnkgafjmladidaa", sum := "1b6d20eef345367000b4203e5561191d4c08f9fe2df9eb268b0e01cb26965c5f", func := "padstone/padstonelaw20.CallBack", spec := "callBack", unfollowed := true, recurses := true, apart := false, narrowed := true }
def CallBackUptoSaid : Prop := callBackUptoRow.holds Try.pinned (OpenSpec.upto callBackSpec)

/-- 'padstonelaw03.RightsTell', WHERE WHAT IT READS IS OF BULK AT MOST 1048576: true; the input reads as it did. -/
def rightsTellUptoRow : OpenClaim := { program := "ytnkgafjmladidaa", sum := "1b6d20eef345367000b4203e5561191d4c08f9fe2df9eb268b0e01cb26965c5f", func := "padstone/padstonelaw03.RightsTell", spec := "rightsTell", unfollowed := true, recurses := true, apart := false, narrowed := true }
def RightsTellUptoSaid : Prop := rightsTellUptoRow.holds Try.pinned (OpenSpec.upto rightsTellSpec)

end Rows
end Go.Proofs.Ytnkgafjmladidaa
