/-
  DERIVED. GIVEN WITH THE SEED: THE CARDS: each row of YtgagncmcdggpiaaGreatDoorRows.lean that lists a variable, with what it lists TIED to the program's text (the seventh form; the later family's looks); each row that meets fmt, with fmt's text TOLD by the authors' own Lean function (tested against real Go, not proved from fmt's source: count such statements apart). THE CARD IS WHAT COUNTS. Prove the row's statement (the work); the ties are given (YtgagncmcdggpiaaGreatDoorTie.lean); close each card by the builder's one call (the guide's Derived/Test/ToyasCard.lean, 'card_holds'). Laid BY PROGRAM, IN A SANDBOX (cutbox-door.mjs). By AI agents, Wed Nov 11 2026. No macro, syntax, notation, axiom, sorry.
-/
import Derived.Test.YtgagncmcdggpiaaGreatDoorRows
import GoSem.ClaimSeven
namespace Go.Proofs.YtgagncmcdggpiaaGreatDoor
namespace Rows

/-- THE TIED CARD OF 'padstonelaw21.InvokePlays'. -/
def invokePlaysCard : Claim7 := { stood := { row := invokePlaysRow, standIns := [], harness := (true, "789d1ffe00b5726eb21cca58125165bddbb4964a61ac6a5d56923a2e7dcb19cb"), looks := true }, kinds := [], alts := [], laidByText := true, laidKinds := [.handle], laidTests := true, laidLooks := .later }
def InvokePlaysCardSaid : Prop := Claim7.holds Tryz.pinned (.plain (OpenSpec.ofChange invokePlaysSpec)) invokePlaysCard

/-- THE TIED CARD OF 'padstonelaw21.InvokeLess'. -/
def invokeLessCard : Claim7 := { stood := { row := invokeLessRow, standIns := [], harness := (true, "789d1ffe00b5726eb21cca58125165bddbb4964a61ac6a5d56923a2e7dcb19cb"), looks := true }, kinds := [], alts := [], laidByText := true, laidKinds := [.handle], laidTests := true, laidLooks := .later }
def InvokeLessCardSaid : Prop := Claim7.holds Tryz.pinned (.plain (OpenSpec.ofChange invokeLessSpec)) invokeLessCard

/-- THE SECOND FORM's CARD OF 'padstonelaw21.InvokePlays'. -/
def invokePlaysUptoCard : Claim7 := { stood := { row := invokePlaysUptoRow, standIns := [], harness := (true, "789d1ffe00b5726eb21cca58125165bddbb4964a61ac6a5d56923a2e7dcb19cb"), looks := true }, kinds := [], alts := [], laidByText := true, laidKinds := [.handle], laidTests := true, laidLooks := .later }
def InvokePlaysUptoCardSaid : Prop := Claim7.holds Tryz.pinned (.plain (OpenSpec.upto invokePlaysSpec)) invokePlaysUptoCard

/-- THE SECOND FORM's CARD OF 'padstonelaw21.InvokeLess'. -/
def invokeLessUptoCard : Claim7 := { stood := { row := invokeLessUptoRow, standIns := [], harness := (true, "789d1ffe00b5726eb21cca58125165bddbb4964a61ac6a5d56923a2e7dcb19cb"), looks := true }, kinds := [], alts := [], laidByText := true, laidKinds := [.handle], laidTests := true, laidLooks := .later }
def InvokeLessUptoCardSaid : Prop := Claim7.holds Tryz.pinned (.plain (OpenSpec.upto invokeLessSpec)) invokeLessUptoCard
end Rows
end Go.Proofs.YtgagncmcdggpiaaGreatDoor
