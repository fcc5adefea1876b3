/-
  DERIVED. GIVEN WITH THE SEED: THE CARDS: each row of YtmloohicgdemfaaDoorRows.lean that lists a variable, with what it lists TIED to the program's text (the seventh form; the later family's looks); each row that meets fmt, with fmt's text TOLD by the authors' own Lean function (tested against real Go, not proved from fmt's source: count such statements apart). THE CARD IS WHAT COUNTS. Prove the row's statement (the work); the ties are given (YtmloohicgdemfaaDoorTie.lean); close each card by the builder's one call (the guide's Derived/Test/ToyasCard.lean, 'card_holds'). Laid BY PROGRAM, IN A SANDBOX (cutbox-door.mjs). By AI agents, Wed Nov 11 2026. No macro, syntax, notation, axiom, sorry.
-/
import Derived.Test.YtmloohicgdemfaaDoorRows
import GoSem.ClaimSeven
namespace Go.Proofs.YtmloohicgdemfaaDoor
namespace Rows

/-- THE TIED CARD OF 'inqlaw1.NameMangles'. -/
def nameManglesCard : Claim7 := { stood := { row := nameManglesRow, standIns := [], harness := (true, "d06e470dbded1f575e3d7cad440444ae1a69b55237a11638dccec3b772649a33"), looks := false }, kinds := [], alts := [], laidByText := true, laidKinds := [.data, .data, .data], laidTests := true, laidLooks := .later }
def NameManglesCardSaid : Prop := Claim7.holds Tryd.pinned (.plain (OpenSpec.ofChange nameManglesSpec)) nameManglesCard

/-- THE SECOND FORM's CARD OF 'inqlaw1.NameMangles'. -/
def nameManglesUptoCard : Claim7 := { stood := { row := nameManglesUptoRow, standIns := [], harness := (true, "d06e470dbded1f575e3d7cad440444ae1a69b55237a11638dccec3b772649a33"), looks := false }, kinds := [], alts := [], laidByText := true, laidKinds := [.data, .data, .data], laidTests := true, laidLooks := .later }
def NameManglesUptoCardSaid : Prop := Claim7.holds Tryd.pinned (.plain (OpenSpec.upto nameManglesSpec)) nameManglesUptoCard
end Rows
end Go.Proofs.YtmloohicgdemfaaDoor
