/-
  DERIVED. GIVEN WITH THE SEED: THE CARDS: each row of YtocpmbpckbjepaaDoorRows.lean that lists a variable, with what it lists TIED to the program's text (the seventh form; the later family's looks); each row that meets fmt, with fmt's text TOLD by the authors' own Lean function (tested against real Go, not proved from fmt's source: count such statements apart). THE CARD IS WHAT COUNTS. Prove the row's statement (the work); the ties are given (YtocpmbpckbjepaaDoorTie.lean); close each card by the builder's one call (the guide's Derived/Test/ToyasCard.lean, 'card_holds'). Laid BY PROGRAM, IN A SANDBOX (cutbox-door.mjs). By AI agents, Wed Nov 11 2026. No macro, syntax, notation, axiom, sorry.
-/
import Derived.Test.YtocpmbpckbjepaaDoorRows
import GoSem.ClaimSeven
namespace Go.Proofs.YtocpmbpckbjepaaDoor
namespace Rows

/-- THE TIED CARD OF 'inqkeep1.NameBare'. -/
def nameBareCard : Claim7 := { stood := { row := nameBareRow, standIns := [], harness := (true, "066dc7c1f2d350b395192735490621ee97393f19ac143adbf51d928ac461e7ba"), looks := true }, kinds := [], alts := [], laidByText := true, laidKinds := [.data, .data, .data, .sentinel, .sentinel], laidTests := true, laidLooks := .later }
def NameBareCardSaid : Prop := Claim7.holds Tryd.pinned (.plain (OpenSpec.ofChange nameBareSpec)) nameBareCard

/-- THE TIED CARD OF 'inqkeep1.NameBack'. -/
def nameBackCard : Claim7 := { stood := { row := nameBackRow, standIns := [], harness := (true, "066dc7c1f2d350b395192735490621ee97393f19ac143adbf51d928ac461e7ba"), looks := true }, kinds := [], alts := [], laidByText := true, laidKinds := [.data, .data, .data, .sentinel, .sentinel], laidTests := true, laidLooks := .later }
def NameBackCardSaid : Prop := Claim7.holds Tryd.pinned (.plain (OpenSpec.ofChange nameBackSpec)) nameBackCard

/-- THE SECOND FORM's CARD OF 'inqkeep1.NameBare'. -/
def nameBareUptoCard : Claim7 := { stood := { row := nameBareUptoRow, standIns := [], harness := (true, "066dc7c1f2d350b395192735490621ee97393f19ac143adbf51d928ac461e7ba"), looks := true }, kinds := [], alts := [], laidByText := true, laidKinds := [.data, .data, .data, .sentinel, .sentinel], laidTests := true, laidLooks := .later }
def NameBareUptoCardSaid : Prop := Claim7.holds Tryd.pinned (.plain (OpenSpec.upto nameBareSpec)) nameBareUptoCard

/-- THE SECOND FORM's CARD OF 'inqkeep1.NameBack'. -/
def nameBackUptoCard : Claim7 := { stood := { row := nameBackUptoRow, standIns := [], harness := (true, "066dc7c1f2d350b395192735490621ee97393f19ac143adbf51d928ac461e7ba"), looks := true }, kinds := [], alts := [], laidByText := true, laidKinds := [.data, .data, .data, .sentinel, .sentinel], laidTests := true, laidLooks := .later }
def NameBackUptoCardSaid : Prop := Claim7.holds Tryd.pinned (.plain (OpenSpec.upto nameBackSpec)) nameBackUptoCard
end Rows
end Go.Proofs.YtocpmbpckbjepaaDoor
