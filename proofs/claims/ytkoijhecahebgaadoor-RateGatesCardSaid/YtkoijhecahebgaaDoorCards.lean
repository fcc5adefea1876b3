/-
  DERIVED. GIVEN WITH THE SEED: THE CARDS: each row of YtkoijhecahebgaaDoorRows.lean that lists a variable, with what it lists TIED to the program's text (the seventh form; the later family's looks); each row that meets fmt, with fmt's text TOLD by the authors' own Lean function (tested against real Go, not proved from fmt's source: count such statements apart). THE CARD IS WHAT COUNTS. Prove the row's statement (the work); the ties are given (YtkoijhecahebgaaDoorTie.lean); close each card by the builder's one call (the guide's Derived/Test/ToyasCard.lean, 'card_holds'). Laid BY PROGRAM, IN A SANDBOX (cutbox-door.mjs). By AI agents, Wed Nov 11 2026. No macro, syntax, notation, axiom, sorry.
-/
import Derived.Test.YtkoijhecahebgaaDoorRows
import GoSem.ClaimSeven
namespace Go.Proofs.YtkoijhecahebgaaDoor
namespace Rows

/-- THE TIED CARD OF 'inqlaw1.RateGates'. -/
def rateGatesCard : Claim7 := { stood := { row := rateGatesRow, standIns := [], harness := (true, "c70d4d1525f404c29039714936df2bf62436266a9e99832404c99a1eeac8cd8a"), looks := false }, kinds := [], alts := [], laidByText := true, laidKinds := [.data, .pinned], laidTests := true, laidLooks := .later }
def RateGatesCardSaid : Prop := Claim7.holds Tryd.pinned (.plain (OpenSpec.ofChange rateGatesSpec)) rateGatesCard

/-- THE TIED CARD OF 'inqkeep1.RateKeeps'. -/
def rateKeepsCard : Claim7 := { stood := { row := rateKeepsRow, standIns := [], harness := (true, "c70d4d1525f404c29039714936df2bf62436266a9e99832404c99a1eeac8cd8a"), looks := false }, kinds := [], alts := [], laidByText := true, laidKinds := [.data, .pinned], laidTests := true, laidLooks := .later }
def RateKeepsCardSaid : Prop := Claim7.holds Tryd.pinned (.plain (OpenSpec.ofChange rateKeepsSpec)) rateKeepsCard

/-- THE SECOND FORM's CARD OF 'inqlaw1.RateGates'. -/
def rateGatesUptoCard : Claim7 := { stood := { row := rateGatesUptoRow, standIns := [], harness := (true, "c70d4d1525f404c29039714936df2bf62436266a9e99832404c99a1eeac8cd8a"), looks := false }, kinds := [], alts := [], laidByText := true, laidKinds := [.data, .pinned], laidTests := true, laidLooks := .later }
def RateGatesUptoCardSaid : Prop := Claim7.holds Tryd.pinned (.plain (OpenSpec.upto rateGatesSpec)) rateGatesUptoCard

/-- THE SECOND FORM's CARD OF 'inqkeep1.RateKeeps'. -/
def rateKeepsUptoCard : Claim7 := { stood := { row := rateKeepsUptoRow, standIns := [], harness := (true, "c70d4d1525f404c29039714936df2bf62436266a9e99832404c99a1eeac8cd8a"), looks := false }, kinds := [], alts := [], laidByText := true, laidKinds := [.data, .pinned], laidTests := true, laidLooks := .later }
def RateKeepsUptoCardSaid : Prop := Claim7.holds Tryd.pinned (.plain (OpenSpec.upto rateKeepsSpec)) rateKeepsUptoCard
end Rows
end Go.Proofs.YtkoijhecahebgaaDoor
