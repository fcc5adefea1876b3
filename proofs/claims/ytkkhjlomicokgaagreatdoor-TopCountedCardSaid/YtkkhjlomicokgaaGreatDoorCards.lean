/-
  DERIVED. GIVEN WITH THE SEED: THE CARDS: each row of YtkkhjlomicokgaaGreatDoorRows.lean that lists a variable, with what it lists TIED to the program's text (the seventh form; the later family's looks); each row that meets fmt, with fmt's text TOLD by the authors' own Lean function (tested against real Go, not proved from fmt's source: count such statements apart). THE CARD IS WHAT COUNTS. Prove the row's statement (the work); the ties are given (YtkkhjlomicokgaaGreatDoorTie.lean); close each card by the builder's one call (the guide's Derived/Test/ToyasCard.lean, 'card_holds'). Laid BY PROGRAM, IN A SANDBOX (cutbox-door.mjs). By AI agents, Wed Nov 11 2026. No macro, syntax, notation, axiom, sorry.
-/
import Derived.Test.YtkkhjlomicokgaaGreatDoorRows
import GoSem.ClaimSeven
namespace Go.Proofs.YtkkhjlomicokgaaGreatDoor
namespace Rows

/-- THE TIED CARD OF 'inqtop.TopCounted'. -/
def topCountedCard : Claim7 := { stood := { row := topCountedRow, standIns := [], harness := (true, "4fa9f6542b628520cd938f1da33440914f6c0c9515a3207d1393f59f97d7eabf"), looks := false }, kinds := [], alts := [], laidByText := true, laidKinds := [.data, .data, .data, .data, .pinned], laidTests := true, laidLooks := .later }
def TopCountedCardSaid : Prop := Claim7.holds Tryz.pinned (.plain (OpenSpec.ofChange topCountedSpec)) topCountedCard

/-- THE SECOND FORM's CARD OF 'inqtop.TopCounted'. -/
def topCountedUptoCard : Claim7 := { stood := { row := topCountedUptoRow, standIns := [], harness := (true, "4fa9f6542b628520cd938f1da33440914f6c0c9515a3207d1393f59f97d7eabf"), looks := false }, kinds := [], alts := [], laidByText := true, laidKinds := [.data, .data, .data, .data, .pinned], laidTests := true, laidLooks := .later }
def TopCountedUptoCardSaid : Prop := Claim7.holds Tryz.pinned (.plain (OpenSpec.upto topCountedSpec)) topCountedUptoCard
end Rows
end Go.Proofs.YtkkhjlomicokgaaGreatDoor
