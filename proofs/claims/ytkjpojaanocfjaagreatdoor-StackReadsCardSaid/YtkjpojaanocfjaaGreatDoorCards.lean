/-
  DERIVED. GIVEN WITH THE SEED: THE CARDS: each row of YtkjpojaanocfjaaGreatDoorRows.lean that lists a variable, with what it lists TIED to the program's text (the seventh form; the later family's looks); each row that meets fmt, with fmt's text TOLD by the authors' own Lean function (tested against real Go, not proved from fmt's source: count such statements apart). THE CARD IS WHAT COUNTS. Prove the row's statement (the work); the ties are given (YtkjpojaanocfjaaGreatDoorTie.lean); close each card by the builder's one call (the guide's Derived/Test/ToyasCard.lean, 'card_holds'). Laid BY PROGRAM, IN A SANDBOX (cutbox-door.mjs). By AI agents, Wed Nov 11 2026. No macro, syntax, notation, axiom, sorry.
-/
import Derived.Test.YtkjpojaanocfjaaGreatDoorRows
import GoSem.ClaimSeven
namespace Go.Proofs.YtkjpojaanocfjaaGreatDoor
namespace Rows

/-- THE TIED CARD OF 'inqlaw1.StackReads'. -/
def stackReadsCard : Claim7 := { stood := { row := stackReadsRow, standIns := [], harness := (true, "6b6b85ff8e7fe54bdcd98f1afb9bcc9cc3f675a12aa3bb510f307a74b69731bf"), looks := true }, kinds := [], alts := [], laidByText := true, laidKinds := [.data, .data, .data, .data, .sentinel, .sentinel, .pinned], laidTests := true, laidLooks := .later }
def StackReadsCardSaid : Prop := Claim7.holds Tryz.pinned (.plain (OpenSpec.ofChange stackReadsSpec)) stackReadsCard

/-- THE SECOND FORM's CARD OF 'inqlaw1.StackReads'. -/
def stackReadsUptoCard : Claim7 := { stood := { row := stackReadsUptoRow, standIns := [], harness := (true, "6b6b85ff8e7fe54bdcd98f1afb9bcc9cc3f675a12aa3bb510f307a74b69731bf"), looks := true }, kinds := [], alts := [], laidByText := true, laidKinds := [.data, .data, .data, .data, .sentinel, .sentinel, .pinned], laidTests := true, laidLooks := .later }
def StackReadsUptoCardSaid : Prop := Claim7.holds Tryz.pinned (.plain (OpenSpec.upto stackReadsSpec)) stackReadsUptoCard
end Rows
end Go.Proofs.YtkjpojaanocfjaaGreatDoor
