/-
  DERIVED. GIVEN WITH THE SEED: THE CARDS: each row of YtomihkflhhhpjaaDoorRows.lean that lists a variable, with what it lists TIED to the program's text (the seventh form; the later family's looks); each row that meets fmt, with fmt's text TOLD by the authors' own Lean function (tested against real Go, not proved from fmt's source: count such statements apart). THE CARD IS WHAT COUNTS. Prove the row's statement (the work); the ties are given (YtomihkflhhhpjaaDoorTie.lean); close each card by the builder's one call (the guide's Derived/Test/ToyasCard.lean, 'card_holds'). Laid BY PROGRAM, IN A SANDBOX (cutbox-door.mjs). By AI agents, Wed Nov 11 2026. No macro, syntax, notation, axiom, sorry.
-/
import Derived.Test.YtomihkflhhhpjaaDoorRows
import GoSem.ClaimSeven
namespace Go.Proofs.YtomihkflhhhpjaaDoor
namespace Rows

/-- THE TIED CARD OF 'inqlaw1.GroupReads'. -/
def groupReadsCard : Claim7 := { stood := { row := groupReadsRow, standIns := [], harness := (true, "d29f3ddc90864bdf7d6a7e412a4e3fd8dd0bec61be55327aa3c7c36b3a2404d0"), looks := true }, kinds := [], alts := [], laidByText := true, laidKinds := [.data, .data, .data, .data, .sentinel, .sentinel, .data, .data, .pinned], laidTests := true, laidLooks := .later }
def GroupReadsCardSaid : Prop := Claim7.holds Tryd.pinned (.plain (OpenSpec.ofChange groupReadsSpec)) groupReadsCard

/-- THE TIED CARD OF 'inqkeep1.GroupSteady'. -/
def groupSteadyCard : Claim7 := { stood := { row := groupSteadyRow, standIns := [], harness := (true, "d29f3ddc90864bdf7d6a7e412a4e3fd8dd0bec61be55327aa3c7c36b3a2404d0"), looks := true }, kinds := [], alts := [], laidByText := true, laidKinds := [.data, .data, .data, .data, .pinned], laidTests := true, laidLooks := .later }
def GroupSteadyCardSaid : Prop := Claim7.holds Tryd.pinned (.plain (OpenSpec.ofChange groupSteadySpec)) groupSteadyCard

/-- THE SECOND FORM's CARD OF 'inqlaw1.GroupReads'. -/
def groupReadsUptoCard : Claim7 := { stood := { row := groupReadsUptoRow, standIns := [], harness := (true, "d29f3ddc90864bdf7d6a7e412a4e3fd8dd0bec61be55327aa3c7c36b3a2404d0"), looks := true }, kinds := [], alts := [], laidByText := true, laidKinds := [.data, .data, .data, .data, .sentinel, .sentinel, .data, .data, .pinned], laidTests := true, laidLooks := .later }
def GroupReadsUptoCardSaid : Prop := Claim7.holds Tryd.pinned (.plain (OpenSpec.upto groupReadsSpec)) groupReadsUptoCard

/-- THE SECOND FORM's CARD OF 'inqkeep1.GroupSteady'. -/
def groupSteadyUptoCard : Claim7 := { stood := { row := groupSteadyUptoRow, standIns := [], harness := (true, "d29f3ddc90864bdf7d6a7e412a4e3fd8dd0bec61be55327aa3c7c36b3a2404d0"), looks := true }, kinds := [], alts := [], laidByText := true, laidKinds := [.data, .data, .data, .data, .pinned], laidTests := true, laidLooks := .later }
def GroupSteadyUptoCardSaid : Prop := Claim7.holds Tryd.pinned (.plain (OpenSpec.upto groupSteadySpec)) groupSteadyUptoCard
end Rows
end Go.Proofs.YtomihkflhhhpjaaDoor
