/-
  DERIVED. GIVEN WITH THE SEED: THE CARDS: each row of YtlanlglieeaegaaDoorRows.lean that lists a variable, with what it lists TIED to the program's text (the seventh form; the later family's looks); each row that meets fmt, with fmt's text TOLD by the authors' own Lean function (tested against real Go, not proved from fmt's source: count such statements apart). THE CARD IS WHAT COUNTS. Prove the row's statement (the work); the ties are given (YtlanlglieeaegaaDoorTie.lean); close each card by the builder's one call (the guide's Derived/Test/ToyasCard.lean, 'card_holds'). Laid BY PROGRAM, IN A SANDBOX (cutbox-door.mjs). By AI agents, Wed Nov 11 2026. No macro, syntax, notation, axiom, sorry.
-/
import Derived.Test.YtlanlglieeaegaaDoorRows
import GoSem.ClaimSeven
namespace Go.Proofs.YtlanlglieeaegaaDoor
namespace Rows

/-- THE TIED CARD OF 'inqlaw1.GroupFits'. -/
def groupFitsCard : Claim7 := { stood := { row := groupFitsRow, standIns := [], harness := (true, "7e88c50bd9fcd94a58d09a59e085cb6e7d54a5505aefdceb23a6cbf0c8c426b5"), looks := false }, kinds := [], alts := [], laidByText := true, laidKinds := [.data, .pinned], laidTests := true, laidLooks := .later }
def GroupFitsCardSaid : Prop := Claim7.holds Tryd.pinned (.plain (OpenSpec.ofChange groupFitsSpec)) groupFitsCard

/-- THE TIED CARD OF 'inqkeep1.GroupGlobs'. -/
def groupGlobsCard : Claim7 := { stood := { row := groupGlobsRow, standIns := [], harness := (true, "7e88c50bd9fcd94a58d09a59e085cb6e7d54a5505aefdceb23a6cbf0c8c426b5"), looks := false }, kinds := [], alts := [], laidByText := true, laidKinds := [.data, .pinned], laidTests := true, laidLooks := .later }
def GroupGlobsCardSaid : Prop := Claim7.holds Tryd.pinned (.plain (OpenSpec.ofChange groupGlobsSpec)) groupGlobsCard

/-- THE SECOND FORM's CARD OF 'inqlaw1.GroupFits'. -/
def groupFitsUptoCard : Claim7 := { stood := { row := groupFitsUptoRow, standIns := [], harness := (true, "7e88c50bd9fcd94a58d09a59e085cb6e7d54a5505aefdceb23a6cbf0c8c426b5"), looks := false }, kinds := [], alts := [], laidByText := true, laidKinds := [.data, .pinned], laidTests := true, laidLooks := .later }
def GroupFitsUptoCardSaid : Prop := Claim7.holds Tryd.pinned (.plain (OpenSpec.upto groupFitsSpec)) groupFitsUptoCard

/-- THE SECOND FORM's CARD OF 'inqkeep1.GroupGlobs'. -/
def groupGlobsUptoCard : Claim7 := { stood := { row := groupGlobsUptoRow, standIns := [], harness := (true, "7e88c50bd9fcd94a58d09a59e085cb6e7d54a5505aefdceb23a6cbf0c8c426b5"), looks := false }, kinds := [], alts := [], laidByText := true, laidKinds := [.data, .pinned], laidTests := true, laidLooks := .later }
def GroupGlobsUptoCardSaid : Prop := Claim7.holds Tryd.pinned (.plain (OpenSpec.upto groupGlobsSpec)) groupGlobsUptoCard
end Rows
end Go.Proofs.YtlanlglieeaegaaDoor
