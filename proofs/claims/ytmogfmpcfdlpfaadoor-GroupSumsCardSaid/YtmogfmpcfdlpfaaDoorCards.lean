/-
  DERIVED. GIVEN WITH THE SEED: THE CARDS: each row of YtmogfmpcfdlpfaaDoorRows.lean that lists a variable, with what it lists TIED to the program's text (the seventh form; the later family's looks); each row that meets fmt, with fmt's text TOLD by the authors' own Lean function (tested against real Go, not proved from fmt's source: count such statements apart). THE CARD IS WHAT COUNTS. Prove the row's statement (the work); the ties are given (YtmogfmpcfdlpfaaDoorTie.lean); close each card by the builder's one call (the guide's Derived/Test/ToyasCard.lean, 'card_holds'). Laid BY PROGRAM, IN A SANDBOX (cutbox-door.mjs). By AI agents, Wed Nov 11 2026. No macro, syntax, notation, axiom, sorry.
-/
import Derived.Test.YtmogfmpcfdlpfaaDoorRows
import GoSem.ClaimSeven
namespace Go.Proofs.YtmogfmpcfdlpfaaDoor
namespace Rows

/-- THE TIED CARD OF 'inqkeep1.GroupSums'. -/
def groupSumsCard : Claim7 := { stood := { row := groupSumsRow, standIns := [], harness := (true, "f8eea35a8ab3a860c194452a7cb04140c05ea9f6c3a5f396f520ebe8118517d7"), looks := false }, kinds := [], alts := [], laidByText := true, laidKinds := [.data, .pinned], laidTests := true, laidLooks := .later }
def GroupSumsCardSaid : Prop := Claim7.holds Tryd.pinned (.plain (OpenSpec.ofChange groupSumsSpec)) groupSumsCard

/-- THE TIED CARD OF 'inqkeep1.GroupUndone'. -/
def groupUndoneCard : Claim7 := { stood := { row := groupUndoneRow, standIns := [], harness := (true, "f8eea35a8ab3a860c194452a7cb04140c05ea9f6c3a5f396f520ebe8118517d7"), looks := false }, kinds := [], alts := [], laidByText := true, laidKinds := [.data, .pinned], laidTests := true, laidLooks := .later }
def GroupUndoneCardSaid : Prop := Claim7.holds Tryd.pinned (.plain (OpenSpec.ofChange groupUndoneSpec)) groupUndoneCard

/-- THE SECOND FORM's CARD OF 'inqkeep1.GroupSums'. -/
def groupSumsUptoCard : Claim7 := { stood := { row := groupSumsUptoRow, standIns := [], harness := (true, "f8eea35a8ab3a860c194452a7cb04140c05ea9f6c3a5f396f520ebe8118517d7"), looks := false }, kinds := [], alts := [], laidByText := true, laidKinds := [.data, .pinned], laidTests := true, laidLooks := .later }
def GroupSumsUptoCardSaid : Prop := Claim7.holds Tryd.pinned (.plain (OpenSpec.upto groupSumsSpec)) groupSumsUptoCard

/-- THE SECOND FORM's CARD OF 'inqkeep1.GroupUndone'. -/
def groupUndoneUptoCard : Claim7 := { stood := { row := groupUndoneUptoRow, standIns := [], harness := (true, "f8eea35a8ab3a860c194452a7cb04140c05ea9f6c3a5f396f520ebe8118517d7"), looks := false }, kinds := [], alts := [], laidByText := true, laidKinds := [.data, .pinned], laidTests := true, laidLooks := .later }
def GroupUndoneUptoCardSaid : Prop := Claim7.holds Tryd.pinned (.plain (OpenSpec.upto groupUndoneSpec)) groupUndoneUptoCard
end Rows
end Go.Proofs.YtmogfmpcfdlpfaaDoor
