/-
  DERIVED. GIVEN WITH THE SEED: THE CARDS: each row of YtapfcnfmonknjaaGreatDoorRows.lean that lists a variable, with what it lists TIED to the program's text (the seventh form; the later family's looks); each row that meets fmt, with fmt's text TOLD by the authors' own Lean function (tested against real Go, not proved from fmt's source: count such statements apart). THE CARD IS WHAT COUNTS. Prove the row's statement (the work); the ties are given (YtapfcnfmonknjaaGreatDoorTie.lean); close each card by the builder's one call (the guide's Derived/Test/ToyasCard.lean, 'card_holds'). Laid BY PROGRAM, IN A SANDBOX (cutbox-door.mjs). By AI agents, Wed Nov 11 2026. No macro, syntax, notation, axiom, sorry.
-/
import Derived.Test.YtapfcnfmonknjaaGreatDoorRows
import GoSem.ClaimSeven
namespace Go.Proofs.YtapfcnfmonknjaaGreatDoor
namespace Rows

/-- THE TIED CARD OF 'inqlaw1.GroupBooks'. -/
def groupBooksCard : Claim7 := { stood := { row := groupBooksRow, standIns := [], harness := (true, "225a15b79f238244f020c7f4c9b0b19e43399267d561cdcb0b180d6bf4333e86"), looks := false }, kinds := [], alts := [], laidByText := true, laidKinds := [.data, .pinned], laidTests := true, laidLooks := .later }
def GroupBooksCardSaid : Prop := Claim7.holds Tryz.pinned (.plain (OpenSpec.ofChange groupBooksSpec)) groupBooksCard

/-- THE SECOND FORM's CARD OF 'inqlaw1.GroupBooks'. -/
def groupBooksUptoCard : Claim7 := { stood := { row := groupBooksUptoRow, standIns := [], harness := (true, "225a15b79f238244f020c7f4c9b0b19e43399267d561cdcb0b180d6bf4333e86"), looks := false }, kinds := [], alts := [], laidByText := true, laidKinds := [.data, .pinned], laidTests := true, laidLooks := .later }
def GroupBooksUptoCardSaid : Prop := Claim7.holds Tryz.pinned (.plain (OpenSpec.upto groupBooksSpec)) groupBooksUptoCard
end Rows
end Go.Proofs.YtapfcnfmonknjaaGreatDoor
