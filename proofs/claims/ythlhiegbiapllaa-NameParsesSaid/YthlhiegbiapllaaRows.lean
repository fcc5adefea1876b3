/-
  NARROWER THAN 'FOR EVERY INPUT', by the rows' own cells (each row's printed sentence says how): NameChecks: loops · NamePrints: loops.
  DERIVED. THE GIVEN ROWS OF THIS SEAT. 3 by the template 'for every input the law returns true; each argument reads behind the call as it read before'; 0 by the template 'total and deterministic' (their statements: YthlhiegbiapllaaTotals.lean).
  GIVEN WITH THE SEED: the statements are not yours to turn. If you find one false, say at which input.
  Laid BY PROGRAM, IN A SANDBOX (cutbox-rows.mjs): the forced cells as the released guide's own fill.sh prints them over the translation 3944ab568b1ba102… (all of the seat's roots in one cut). By AI agents, Wed Nov 11 2026. No macro, syntax, notation, axiom, sorry.
-/
import Derived.Test.YthlhiegbiapllaaChecked
import GoSem.Claim
import GoSem.ClaimJoined
import GoSem.ClaimMapViews
import Derived.JoinedTies
import Derived.KernelRfl
namespace Go.Proofs.Ythlhiegbiapllaa
/- THE CELL 'sum', in the pinned program and in every row, IS THE sha256 OF THE DUMP (.gsa) THAT YthlhiegbiapllaaProg.lean LOADS. Nothing in Lean hashes anything: it is a label: what it is worth is what the hold of that sum in a sandbox is worth. -/
noncomputable def Try.pinned : Pinned := { name := "ythlhiegbiapllaa", sum := "3944ab568b1ba10248ec095301aa1f40f3f16d456a445b12535e31b321fb70e2", checked := Try.checked }
namespace Rows
def none {H : Type} : Left H := { results := [], args := [] }

/-- 'inqlaw1.NameChecks': WHATEVER THE INPUT: true; the input reads as it did. -/
def nameChecksSpec : ChangeSpec := { name := "nameChecks", fn := fun _ => fun
  | [d1, d2] => { results := [.lit (.bool true)], args := [d1, d2] }
  | _ => none }
def nameChecksRow : OpenClaim := { program := "ythlhiegbiapllaa", sum := "3944ab568b1ba10248ec095301aa1f40f3f16d456a445b12535e31b321fb70e2", func := "inquest/inqlaw1.NameChecks", spec := "nameChecks", unfollowed := true, recurses := true, loops := true, apart := false }
def NameChecksSaid : Prop := nameChecksRow.holds Try.pinned (OpenSpec.ofChange nameChecksSpec)

/-- ITS FALSE NEIGHBOUR: 'it returns false'. Refute it at one input. -/
def nameChecksWrong : ChangeSpec := { name := "nameChecks", fn := fun _ => fun
  | [d1, d2] => { results := [.lit (.bool false)], args := [d1, d2] }
  | _ => none }
def NameChecksWrongFalsely : Prop := nameChecksRow.holds Try.pinned (OpenSpec.ofChange nameChecksWrong)

/-- 'inqlaw1.NameParses': WHATEVER THE INPUT: true; the input reads as it did. -/
def nameParsesSpec : ChangeSpec := { name := "nameParses", fn := fun _ => fun
  | [d] => { results := [.lit (.bool true)], args := [d] }
  | _ => none }
def nameParsesRow : OpenClaim := { program := "ythlhiegbiapllaa", sum := "3944ab568b1ba10248ec095301aa1f40f3f16d456a445b12535e31b321fb70e2", func := "inquest/inqlaw1.NameParses", spec := "nameParses", unfollowed := true, recurses := true, apart := false }
def NameParsesSaid : Prop := nameParsesRow.holds Try.pinned (OpenSpec.ofChange nameParsesSpec)

/-- ITS FALSE NEIGHBOUR: 'it returns false'. Refute it at one input. -/
def nameParsesWrong : ChangeSpec := { name := "nameParses", fn := fun _ => fun
  | [d] => { results := [.lit (.bool false)], args := [d] }
  | _ => none }
def NameParsesWrongFalsely : Prop := nameParsesRow.holds Try.pinned (OpenSpec.ofChange nameParsesWrong)

/-- 'inqlaw1.NamePrints': WHATEVER THE INPUT: true; the input reads as it did. -/
def namePrintsSpec : ChangeSpec := { name := "namePrints", fn := fun _ => fun
  | [d] => { results := [.lit (.bool true)], args := [d] }
  | _ => none }
def namePrintsRow : OpenClaim := { program := "ythlhiegbiapllaa", sum := "3944ab568b1ba10248ec095301aa1f40f3f16d456a445b12535e31b321fb70e2", func := "inquest/inqlaw1.NamePrints", spec := "namePrints", inPlace := ["internal/abi.NoEscape", "internal/bytealg.MakeNoZero"], unfollowed := true, recurses := true, loops := true, apart := false }
def NamePrintsSaid : Prop := namePrintsRow.holds Try.pinned (OpenSpec.ofChange namePrintsSpec)

/-- ITS FALSE NEIGHBOUR: 'it returns false'. Refute it at one input. -/
def namePrintsWrong : ChangeSpec := { name := "namePrints", fn := fun _ => fun
  | [d] => { results := [.lit (.bool false)], args := [d] }
  | _ => none }
def NamePrintsWrongFalsely : Prop := namePrintsRow.holds Try.pinned (OpenSpec.ofChange namePrintsWrong)

/- THE SECOND FORM. 'bulk': how many values and letters a reading holds, each counted each time it is reached (what is shared counts as often as it is met; a slice's spare places count too). A statement '..UptoSaid' is the law's where the arguments, and the package variables that the reading takes, are together of bulk at most 1048576: NARROWER than '..Said'. Prove '..Said' where nothing that the law and all that it calls make is longer than what came in: it says more and counts as full. Else prove '..UptoSaid'. A law counts once. -/
mutual
def uptoBulk {H : Type} : DataW H → Nat
  | .lit (.string bytes) => bytes.length + 1
  | .lit _ => 1
  | .nil => 1
  | .ptr d => uptoBulk d + 1
  | .slice elems spare => uptoBulkAll elems + uptoBulkAll spare + 1
  | .agg parts => uptoBulkAll parts + 1
  | .iface _ d => uptoBulk d + 1
  | .map entries => uptoBulkEntries entries + 1
  | .held _ => 1
def uptoBulkAll {H : Type} : List (DataW H) → Nat
  | [] => 0
  | d :: r => uptoBulk d + uptoBulkAll r
def uptoBulkEntries {H : Type} : List (Lit × DataW H) → Nat
  | [] => 0
  | x :: r => uptoBulkEntry x + uptoBulkEntries r
def uptoBulkEntry {H : Type} : Lit × DataW H → Nat
  | (.string bytes, d) => bytes.length + uptoBulk d + 1
  | (_, d) => uptoBulk d + 1
 end
def uptoSmall : (H : Type) → List (DataW H) → Bool := fun _ ds => decide (uptoBulkAll ds ≤ 1048576)
def OpenSpec.upto (s : _root_.Go.ChangeSpec) : _root_.Go.OpenSpec := { _root_.Go.OpenSpec.ofChange s with cond := some uptoSmall }

/-- 'inqlaw1.NameChecks', WHERE WHAT IT READS IS OF BULK AT MOST 1048576: true; the input reads as it did. -/
def nameChecksUptoRow : OpenClaim := { program := "ythlhiegbiapllaa", sum := "3944ab568b1ba10248ec095301aa1f40f3f16d456a445b12535e31b321fb70e2", func := "inquest/inqlaw1.NameChecks", spec := "nameChecks", unfollowed := true, recurses := true, loops := true, apart := false, narrowed := true }
def NameChecksUptoSaid : Prop := nameChecksUptoRow.holds Try.pinned (OpenSpec.upto nameChecksSpec)

/-- 'inqlaw1.NameParses', WHERE WHAT IT READS IS OF BULK AT MOST 1048576: true; the input reads as it did. -/
def nameParsesUptoRow : OpenClaim := { program := "ythlhiegbiapllaa", sum := "3944ab568b1ba10248ec095301aa1f40f3f16d456a445b12535e31b321fb70e2", func := "inquest/inqlaw1.NameParses", spec := "nameParses", unfollowed := true, recurses := true, apart := false, narrowed := true }
def NameParsesUptoSaid : Prop := nameParsesUptoRow.holds Try.pinned (OpenSpec.upto nameParsesSpec)

/-- 'inqlaw1.NamePrints', WHERE WHAT IT READS IS OF BULK AT MOST 1048576: true; the input reads as it did. -/
def namePrintsUptoRow : OpenClaim := { program := "ythlhiegbiapllaa", sum := "3944ab568b1ba10248ec095301aa1f40f3f16d456a445b12535e31b321fb70e2", func := "inquest/inqlaw1.NamePrints", spec := "namePrints", inPlace := ["internal/abi.NoEscape", "internal/bytealg.MakeNoZero"], unfollowed := true, recurses := true, loops := true, apart := false, narrowed := true }
def NamePrintsUptoSaid : Prop := namePrintsUptoRow.holds Try.pinned (OpenSpec.upto namePrintsSpec)

end Rows
end Go.Proofs.Ythlhiegbiapllaa
