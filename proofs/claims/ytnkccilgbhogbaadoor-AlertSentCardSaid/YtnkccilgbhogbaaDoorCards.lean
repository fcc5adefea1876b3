/-
  DERIVED. GIVEN WITH THE SEED: THE CARDS: each row of YtnkccilgbhogbaaDoorRows.lean that lists a variable, with what it lists TIED to the program's text (the seventh form; the later family's looks); each row that meets fmt, with fmt's text TOLD by the authors' own Lean function (tested against real Go, not proved from fmt's source: count such statements apart). THE CARD IS WHAT COUNTS. Prove the row's statement (the work); the ties are given (YtnkccilgbhogbaaDoorTie.lean); close each card by the builder's one call (the guide's Derived/Test/ToyasCard.lean, 'card_holds'). Laid BY PROGRAM, IN A SANDBOX (cutbox-door.mjs). By AI agents, Wed Nov 11 2026. No macro, syntax, notation, axiom, sorry.
-/
import Derived.Test.YtnkccilgbhogbaaDoorRows
import GoSem.ClaimSeven
namespace Go.Proofs.YtnkccilgbhogbaaDoor
namespace Rows

/-- THE TIED CARD OF 'inqlaw1.AlertBoxes'. -/
def alertBoxesCard : Claim7 := { stood := { row := alertBoxesRow, standIns := [], harness := (true, "40a92143dbf87f7f5b2ff3000d6cc4ec9aa16a04ac0d194cd8d48ab64cfdfda3"), looks := false }, kinds := [], alts := [], laidByText := true, laidKinds := [.data, .pinned], laidTests := true, laidLooks := .later }
def AlertBoxesCardSaid : Prop := Claim7.holds Tryd.pinned (.plain (OpenSpec.ofChange alertBoxesSpec)) alertBoxesCard

/-- THE TIED CARD OF 'inqkeep1.AlertSent'. -/
def alertSentCard : Claim7 := { stood := { row := alertSentRow, standIns := [], harness := (true, "40a92143dbf87f7f5b2ff3000d6cc4ec9aa16a04ac0d194cd8d48ab64cfdfda3"), looks := false }, kinds := [], alts := [], laidByText := true, laidKinds := [.data, .data, .data, .data, .pinned], laidTests := true, laidLooks := .later }
def AlertSentCardSaid : Prop := Claim7.holds Tryd.pinned (.plain (OpenSpec.ofChange alertSentSpec)) alertSentCard

/-- THE SECOND FORM's CARD OF 'inqlaw1.AlertBoxes'. -/
def alertBoxesUptoCard : Claim7 := { stood := { row := alertBoxesUptoRow, standIns := [], harness := (true, "40a92143dbf87f7f5b2ff3000d6cc4ec9aa16a04ac0d194cd8d48ab64cfdfda3"), looks := false }, kinds := [], alts := [], laidByText := true, laidKinds := [.data, .pinned], laidTests := true, laidLooks := .later }
def AlertBoxesUptoCardSaid : Prop := Claim7.holds Tryd.pinned (.plain (OpenSpec.upto alertBoxesSpec)) alertBoxesUptoCard

/-- THE SECOND FORM's CARD OF 'inqkeep1.AlertSent'. -/
def alertSentUptoCard : Claim7 := { stood := { row := alertSentUptoRow, standIns := [], harness := (true, "40a92143dbf87f7f5b2ff3000d6cc4ec9aa16a04ac0d194cd8d48ab64cfdfda3"), looks := false }, kinds := [], alts := [], laidByText := true, laidKinds := [.data, .data, .data, .data, .pinned], laidTests := true, laidLooks := .later }
def AlertSentUptoCardSaid : Prop := Claim7.holds Tryd.pinned (.plain (OpenSpec.upto alertSentSpec)) alertSentUptoCard
end Rows
end Go.Proofs.YtnkccilgbhogbaaDoor
