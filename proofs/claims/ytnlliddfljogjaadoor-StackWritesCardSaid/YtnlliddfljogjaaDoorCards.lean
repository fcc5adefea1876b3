/-
  DERIVED. GIVEN WITH THE SEED: THE CARDS: each row of YtnlliddfljogjaaDoorRows.lean that lists a variable, with what it lists TIED to the program's text (the seventh form; the later family's looks); each row that meets fmt, with fmt's text TOLD by the authors' own Lean function (tested against real Go, not proved from fmt's source: count such statements apart). THE CARD IS WHAT COUNTS. Prove the row's statement (the work); the ties are given (YtnlliddfljogjaaDoorTie.lean); close each card by the builder's one call (the guide's Derived/Test/ToyasCard.lean, 'card_holds'). Laid BY PROGRAM, IN A SANDBOX (cutbox-door.mjs). By AI agents, Wed Nov 11 2026. No macro, syntax, notation, axiom, sorry.
-/
import Derived.Test.YtnlliddfljogjaaDoorRows
import GoSem.ClaimSeven
namespace Go.Proofs.YtnlliddfljogjaaDoor
namespace Rows

/-- THE TIED CARD OF 'inqlaw1.StackWrites'. -/
def stackWritesCard : Claim7 := { stood := { row := stackWritesRow, standIns := [], harness := (true, "f46a313013b1d2343c8b4f905721c7578961fb7225bd2a88a87e6680875fdcb3"), looks := false }, kinds := [], alts := [], laidByText := true, laidKinds := [.data, .data, .data], laidTests := true, laidLooks := .later }
def StackWritesCardSaid : Prop := Claim7.holds Tryd.pinned (.plain (OpenSpec.ofChange stackWritesSpec)) stackWritesCard

/-- THE SECOND FORM's CARD OF 'inqlaw1.StackWrites'. -/
def stackWritesUptoCard : Claim7 := { stood := { row := stackWritesUptoRow, standIns := [], harness := (true, "f46a313013b1d2343c8b4f905721c7578961fb7225bd2a88a87e6680875fdcb3"), looks := false }, kinds := [], alts := [], laidByText := true, laidKinds := [.data, .data, .data], laidTests := true, laidLooks := .later }
def StackWritesUptoCardSaid : Prop := Claim7.holds Tryd.pinned (.plain (OpenSpec.upto stackWritesSpec)) stackWritesUptoCard
end Rows
end Go.Proofs.YtnlliddfljogjaaDoor
