/-
  DERIVED. GIVEN WITH THE SEED: THE CARDS: each row of YtmhopcicgnnbeaaGreatDoorRows.lean that lists a variable, with what it lists TIED to the program's text (the seventh form; the later family's looks); each row that meets fmt, with fmt's text TOLD by the authors' own Lean function (tested against real Go, not proved from fmt's source: count such statements apart). THE CARD IS WHAT COUNTS. Prove the row's statement (the work); the ties are given (YtmhopcicgnnbeaaGreatDoorTie.lean); close each card by the builder's one call (the guide's Derived/Test/ToyasCard.lean, 'card_holds'). Laid BY PROGRAM, IN A SANDBOX (cutbox-door.mjs). By AI agents, Wed Nov 11 2026. No macro, syntax, notation, axiom, sorry.
-/
import Derived.Test.YtmhopcicgnnbeaaGreatDoorRows
import GoSem.ClaimSeven
namespace Go.Proofs.YtmhopcicgnnbeaaGreatDoor
namespace Rows

/-- THE TIED CARD OF 'padstonelaw23.ReplayLong'. -/
def replayLongCard : Claim7 := { stood := { row := replayLongRow, standIns := [], harness := (true, "fd4a6204f6b003b4981d70008678c56d14d50e3e680940159610b6548c42478c"), looks := true }, kinds := [], alts := [], laidByText := true, laidKinds := [.handle], laidTests := true, laidLooks := .later }
def ReplayLongCardSaid : Prop := Claim7.holds Tryz.pinned (.plain (OpenSpec.ofChange replayLongSpec)) replayLongCard

/-- THE SECOND FORM's CARD OF 'padstonelaw23.ReplayLong'. -/
def replayLongUptoCard : Claim7 := { stood := { row := replayLongUptoRow, standIns := [], harness := (true, "fd4a6204f6b003b4981d70008678c56d14d50e3e680940159610b6548c42478c"), looks := true }, kinds := [], alts := [], laidByText := true, laidKinds := [.handle], laidTests := true, laidLooks := .later }
def ReplayLongUptoCardSaid : Prop := Claim7.holds Tryz.pinned (.plain (OpenSpec.upto replayLongSpec)) replayLongUptoCard
end Rows
end Go.Proofs.YtmhopcicgnnbeaaGreatDoor
