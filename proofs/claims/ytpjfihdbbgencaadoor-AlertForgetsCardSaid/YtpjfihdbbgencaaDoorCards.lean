/-
  DERIVED. GIVEN WITH THE SEED: THE CARDS: each row of YtpjfihdbbgencaaDoorRows.lean that lists a variable, with what it lists TIED to the program's text (the seventh form; the later family's looks); each row that meets fmt, with fmt's text TOLD by the authors' own Lean function (tested against real Go, not proved from fmt's source: count such statements apart). THE CARD IS WHAT COUNTS. Prove the row's statement (the work); the ties are given (YtpjfihdbbgencaaDoorTie.lean); close each card by the builder's one call (the guide's Derived/Test/ToyasCard.lean, 'card_holds'). Laid BY PROGRAM, IN A SANDBOX (cutbox-door.mjs). By AI agents, Wed Nov 11 2026. No macro, syntax, notation, axiom, sorry.
-/
import Derived.Test.YtpjfihdbbgencaaDoorRows
import GoSem.ClaimSeven
namespace Go.Proofs.YtpjfihdbbgencaaDoor
namespace Rows

/-- THE TIED CARD OF 'inqlaw1.AlertChecks'. -/
def alertChecksCard : Claim7 := { stood := { row := alertChecksRow, standIns := [], harness := (true, "27df6de403d99a4dd931a2b4d777c2f43421799e7f6d9986b8505c131dde4c20"), looks := false }, kinds := [], alts := [], laidByText := true, laidKinds := [.data, .data, .data, .data, .pinned], laidTests := true, laidLooks := .later }
def AlertChecksCardSaid : Prop := Claim7.holds Tryd.pinned (.plain (OpenSpec.ofChange alertChecksSpec)) alertChecksCard

/-- THE TIED CARD OF 'inqkeep1.AlertTurns'. -/
def alertTurnsCard : Claim7 := { stood := { row := alertTurnsRow, standIns := [], harness := (true, "27df6de403d99a4dd931a2b4d777c2f43421799e7f6d9986b8505c131dde4c20"), looks := false }, kinds := [], alts := [], laidByText := true, laidKinds := [.data, .data, .data, .data, .pinned], laidTests := true, laidLooks := .later }
def AlertTurnsCardSaid : Prop := Claim7.holds Tryd.pinned (.plain (OpenSpec.ofChange alertTurnsSpec)) alertTurnsCard

/-- THE TIED CARD OF 'inqkeep1.AlertForgets'. -/
def alertForgetsCard : Claim7 := { stood := { row := alertForgetsRow, standIns := [], harness := (true, "27df6de403d99a4dd931a2b4d777c2f43421799e7f6d9986b8505c131dde4c20"), looks := false }, kinds := [], alts := [], laidByText := true, laidKinds := [.data, .data, .data, .data, .pinned], laidTests := true, laidLooks := .later }
def AlertForgetsCardSaid : Prop := Claim7.holds Tryd.pinned (.plain (OpenSpec.ofChange alertForgetsSpec)) alertForgetsCard

/-- THE SECOND FORM's CARD OF 'inqlaw1.AlertChecks'. -/
def alertChecksUptoCard : Claim7 := { stood := { row := alertChecksUptoRow, standIns := [], harness := (true, "27df6de403d99a4dd931a2b4d777c2f43421799e7f6d9986b8505c131dde4c20"), looks := false }, kinds := [], alts := [], laidByText := true, laidKinds := [.data, .data, .data, .data, .pinned], laidTests := true, laidLooks := .later }
def AlertChecksUptoCardSaid : Prop := Claim7.holds Tryd.pinned (.plain (OpenSpec.upto alertChecksSpec)) alertChecksUptoCard

/-- THE SECOND FORM's CARD OF 'inqkeep1.AlertTurns'. -/
def alertTurnsUptoCard : Claim7 := { stood := { row := alertTurnsUptoRow, standIns := [], harness := (true, "27df6de403d99a4dd931a2b4d777c2f43421799e7f6d9986b8505c131dde4c20"), looks := false }, kinds := [], alts := [], laidByText := true, laidKinds := [.data, .data, .data, .data, .pinned], laidTests := true, laidLooks := .later }
def AlertTurnsUptoCardSaid : Prop := Claim7.holds Tryd.pinned (.plain (OpenSpec.upto alertTurnsSpec)) alertTurnsUptoCard

/-- THE SECOND FORM's CARD OF 'inqkeep1.AlertForgets'. -/
def alertForgetsUptoCard : Claim7 := { stood := { row := alertForgetsUptoRow, standIns := [], harness := (true, "27df6de403d99a4dd931a2b4d777c2f43421799e7f6d9986b8505c131dde4c20"), looks := false }, kinds := [], alts := [], laidByText := true, laidKinds := [.data, .data, .data, .data, .pinned], laidTests := true, laidLooks := .later }
def AlertForgetsUptoCardSaid : Prop := Claim7.holds Tryd.pinned (.plain (OpenSpec.upto alertForgetsSpec)) alertForgetsUptoCard
end Rows
end Go.Proofs.YtpjfihdbbgencaaDoor
