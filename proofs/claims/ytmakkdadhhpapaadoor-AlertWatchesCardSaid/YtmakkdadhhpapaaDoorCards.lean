/-
  DERIVED. GIVEN WITH THE SEED: THE CARDS: each row of YtmakkdadhhpapaaDoorRows.lean that lists a variable, with what it lists TIED to the program's text (the seventh form; the later family's looks); each row that meets fmt, with fmt's text TOLD by the authors' own Lean function (tested against real Go, not proved from fmt's source: count such statements apart). THE CARD IS WHAT COUNTS. Prove the row's statement (the work); the ties are given (YtmakkdadhhpapaaDoorTie.lean); close each card by the builder's one call (the guide's Derived/Test/ToyasCard.lean, 'card_holds'). Laid BY PROGRAM, IN A SANDBOX (cutbox-door.mjs). By AI agents, Wed Nov 11 2026. No macro, syntax, notation, axiom, sorry.
-/
import Derived.Test.YtmakkdadhhpapaaDoorRows
import GoSem.ClaimSeven
namespace Go.Proofs.YtmakkdadhhpapaaDoor
namespace Rows

/-- THE TIED CARD OF 'inqlaw1.AlertWatches'. -/
def alertWatchesCard : Claim7 := { stood := { row := alertWatchesRow, standIns := [], harness := (true, "98707346d116d00b690fc9404ea1a77b9ed6dfb118befa7e2f6c9d8d777bc4cd"), looks := false }, kinds := [], alts := [], laidByText := true, laidKinds := [.data, .pinned], laidTests := true, laidLooks := .later }
def AlertWatchesCardSaid : Prop := Claim7.holds Tryd.pinned (.plain (OpenSpec.ofChange alertWatchesSpec)) alertWatchesCard

/-- THE SECOND FORM's CARD OF 'inqlaw1.AlertWatches'. -/
def alertWatchesUptoCard : Claim7 := { stood := { row := alertWatchesUptoRow, standIns := [], harness := (true, "98707346d116d00b690fc9404ea1a77b9ed6dfb118befa7e2f6c9d8d777bc4cd"), looks := false }, kinds := [], alts := [], laidByText := true, laidKinds := [.data, .pinned], laidTests := true, laidLooks := .later }
def AlertWatchesUptoCardSaid : Prop := Claim7.holds Tryd.pinned (.plain (OpenSpec.upto alertWatchesSpec)) alertWatchesUptoCard
end Rows
end Go.Proofs.YtmakkdadhhpapaaDoor
