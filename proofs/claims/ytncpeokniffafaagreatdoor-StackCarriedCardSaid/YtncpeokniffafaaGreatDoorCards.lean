/-
  DERIVED. GIVEN WITH THE SEED: THE CARDS: each row of YtncpeokniffafaaGreatDoorRows.lean that lists a variable, with what it lists TIED to the program's text (the seventh form; the later family's looks); each row that meets fmt, with fmt's text TOLD by the authors' own Lean function (tested against real Go, not proved from fmt's source: count such statements apart). THE CARD IS WHAT COUNTS. Prove the row's statement (the work); the ties are given (YtncpeokniffafaaGreatDoorTie.lean); close each card by the builder's one call (the guide's Derived/Test/ToyasCard.lean, 'card_holds'). Laid BY PROGRAM, IN A SANDBOX (cutbox-door.mjs). By AI agents, Wed Nov 11 2026. No macro, syntax, notation, axiom, sorry.
-/
import Derived.Test.YtncpeokniffafaaGreatDoorRows
import GoSem.ClaimSeven
namespace Go.Proofs.YtncpeokniffafaaGreatDoor
namespace Rows

/-- THE TIED CARD OF 'inqkeep1.StackCarried'. -/
def stackCarriedCard : Claim7 := { stood := { row := stackCarriedRow, standIns := [], harness := (true, "5337cb885367b3d9da03b854efa65d9ebd99c60a17623cd426997316ae7db5d2"), looks := true }, kinds := [], alts := [], laidByText := true, laidKinds := [.data, .data, .data, .data, .sentinel, .sentinel, .pinned], laidTests := true, laidLooks := .later }
def StackCarriedCardSaid : Prop := Claim7.holds Tryz.pinned (.plain (OpenSpec.ofChange stackCarriedSpec)) stackCarriedCard

/-- THE SECOND FORM's CARD OF 'inqkeep1.StackCarried'. -/
def stackCarriedUptoCard : Claim7 := { stood := { row := stackCarriedUptoRow, standIns := [], harness := (true, "5337cb885367b3d9da03b854efa65d9ebd99c60a17623cd426997316ae7db5d2"), looks := true }, kinds := [], alts := [], laidByText := true, laidKinds := [.data, .data, .data, .data, .sentinel, .sentinel, .pinned], laidTests := true, laidLooks := .later }
def StackCarriedUptoCardSaid : Prop := Claim7.holds Tryz.pinned (.plain (OpenSpec.upto stackCarriedSpec)) stackCarriedUptoCard
end Rows
end Go.Proofs.YtncpeokniffafaaGreatDoor
