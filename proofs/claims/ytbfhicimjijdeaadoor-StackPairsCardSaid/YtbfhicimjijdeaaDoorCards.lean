/-
  DERIVED. GIVEN WITH THE SEED: THE CARDS: each row of YtbfhicimjijdeaaDoorRows.lean that lists a variable, with what it lists TIED to the program's text (the seventh form; the later family's looks); each row that meets fmt, with fmt's text TOLD by the authors' own Lean function (tested against real Go, not proved from fmt's source: count such statements apart). THE CARD IS WHAT COUNTS. Prove the row's statement (the work); the ties are given (YtbfhicimjijdeaaDoorTie.lean); close each card by the builder's one call (the guide's Derived/Test/ToyasCard.lean, 'card_holds'). Laid BY PROGRAM, IN A SANDBOX (cutbox-door.mjs). By AI agents, Wed Nov 11 2026. No macro, syntax, notation, axiom, sorry.
-/
import Derived.Test.YtbfhicimjijdeaaDoorRows
import GoSem.ClaimSeven
namespace Go.Proofs.YtbfhicimjijdeaaDoor
namespace Rows

/-- THE TIED CARD OF 'inqlaw1.StackWrites'. -/
def stackWritesCard : Claim7 := { stood := { row := stackWritesRow, standIns := [], harness := (true, "c71608256034047c1023a98a356a41dc7fe056ec888999524a67a65152727416"), looks := false }, kinds := [], alts := [], laidByText := true, laidKinds := [.data, .data, .data], laidTests := true, laidLooks := .later }
def StackWritesCardSaid : Prop := Claim7.holds Tryd.pinned (.plain (OpenSpec.ofChange stackWritesSpec)) stackWritesCard

/-- THE TIED CARD OF 'inqkeep1.StackPairs'. -/
def stackPairsCard : Claim7 := { stood := { row := stackPairsRow, standIns := [], harness := (true, "c71608256034047c1023a98a356a41dc7fe056ec888999524a67a65152727416"), looks := false }, kinds := [], alts := [], laidByText := true, laidKinds := [.data, .data, .data], laidTests := true, laidLooks := .later }
def StackPairsCardSaid : Prop := Claim7.holds Tryd.pinned (.plain (OpenSpec.ofChange stackPairsSpec)) stackPairsCard

/-- THE TIED CARD OF 'inqkeep1.StackCutEnds'. -/
def stackCutEndsCard : Claim7 := { stood := { row := stackCutEndsRow, standIns := [], harness := (true, "c71608256034047c1023a98a356a41dc7fe056ec888999524a67a65152727416"), looks := false }, kinds := [], alts := [], laidByText := true, laidKinds := [.data, .data, .data], laidTests := true, laidLooks := .later }
def StackCutEndsCardSaid : Prop := Claim7.holds Tryd.pinned (.plain (OpenSpec.ofChange stackCutEndsSpec)) stackCutEndsCard

/-- THE TIED CARD OF 'inqkeep1.StackFolds'. -/
def stackFoldsCard : Claim7 := { stood := { row := stackFoldsRow, standIns := [], harness := (true, "c71608256034047c1023a98a356a41dc7fe056ec888999524a67a65152727416"), looks := false }, kinds := [], alts := [], laidByText := true, laidKinds := [.data, .data, .data], laidTests := true, laidLooks := .later }
def StackFoldsCardSaid : Prop := Claim7.holds Tryd.pinned (.plain (OpenSpec.ofChange stackFoldsSpec)) stackFoldsCard

/-- THE SECOND FORM's CARD OF 'inqlaw1.StackWrites'. -/
def stackWritesUptoCard : Claim7 := { stood := { row := stackWritesUptoRow, standIns := [], harness := (true, "c71608256034047c1023a98a356a41dc7fe056ec888999524a67a65152727416"), looks := false }, kinds := [], alts := [], laidByText := true, laidKinds := [.data, .data, .data], laidTests := true, laidLooks := .later }
def StackWritesUptoCardSaid : Prop := Claim7.holds Tryd.pinned (.plain (OpenSpec.upto stackWritesSpec)) stackWritesUptoCard

/-- THE SECOND FORM's CARD OF 'inqkeep1.StackPairs'. -/
def stackPairsUptoCard : Claim7 := { stood := { row := stackPairsUptoRow, standIns := [], harness := (true, "c71608256034047c1023a98a356a41dc7fe056ec888999524a67a65152727416"), looks := false }, kinds := [], alts := [], laidByText := true, laidKinds := [.data, .data, .data], laidTests := true, laidLooks := .later }
def StackPairsUptoCardSaid : Prop := Claim7.holds Tryd.pinned (.plain (OpenSpec.upto stackPairsSpec)) stackPairsUptoCard

/-- THE SECOND FORM's CARD OF 'inqkeep1.StackCutEnds'. -/
def stackCutEndsUptoCard : Claim7 := { stood := { row := stackCutEndsUptoRow, standIns := [], harness := (true, "c71608256034047c1023a98a356a41dc7fe056ec888999524a67a65152727416"), looks := false }, kinds := [], alts := [], laidByText := true, laidKinds := [.data, .data, .data], laidTests := true, laidLooks := .later }
def StackCutEndsUptoCardSaid : Prop := Claim7.holds Tryd.pinned (.plain (OpenSpec.upto stackCutEndsSpec)) stackCutEndsUptoCard

/-- THE SECOND FORM's CARD OF 'inqkeep1.StackFolds'. -/
def stackFoldsUptoCard : Claim7 := { stood := { row := stackFoldsUptoRow, standIns := [], harness := (true, "c71608256034047c1023a98a356a41dc7fe056ec888999524a67a65152727416"), looks := false }, kinds := [], alts := [], laidByText := true, laidKinds := [.data, .data, .data], laidTests := true, laidLooks := .later }
def StackFoldsUptoCardSaid : Prop := Claim7.holds Tryd.pinned (.plain (OpenSpec.upto stackFoldsSpec)) stackFoldsUptoCard
end Rows
end Go.Proofs.YtbfhicimjijdeaaDoor
