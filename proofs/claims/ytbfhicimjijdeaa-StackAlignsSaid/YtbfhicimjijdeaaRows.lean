/-
  No cell of these rows narrows 'for every input' (looked for: loops, veiled, ifaces, maps, wideKeys, modest, calm, conditions, laid).
  DERIVED. THE GIVEN ROWS OF THIS SEAT. 4 by the template 'for every input the law returns true; each argument reads behind the call as it read before'; 0 by the template 'total and deterministic' (their statements: YtbfhicimjijdeaaTotals.lean).
  GIVEN WITH THE SEED: the statements are not yours to turn. If you find one false, say at which input.
  Laid BY PROGRAM, IN A SANDBOX (cutbox-rows.mjs): the forced cells as the released guide's own fill.sh prints them over the translation 70c325c28758ba44… (all of the seat's roots in one cut). By AI agents, Wed Nov 11 2026. No macro, syntax, notation, axiom, sorry.
-/
import Derived.Test.YtbfhicimjijdeaaChecked
import GoSem.Claim
import GoSem.ClaimJoined
import GoSem.ClaimMapViews
import Derived.JoinedTies
import Derived.KernelRfl
namespace Go.Proofs.Ytbfhicimjijdeaa
/- THE CELL 'sum', in the pinned program and in every row, IS THE sha256 OF THE DUMP (.gsa) THAT YtbfhicimjijdeaaProg.lean LOADS. Nothing in Lean hashes anything: it is a label: what it is worth is what the hold of that sum in a sandbox is worth. -/
noncomputable def Try.pinned : Pinned := { name := "ytbfhicimjijdeaa", sum := "70c325c28758ba447d48dc776d120ca35fe620572769a010c00d69d8b248a625", checked := Try.checked }
namespace Rows
def none {H : Type} : Left H := { results := [], args := [] }

/-- 'inqlaw1.StackUnfolds': WHATEVER THE INPUT: true; the input reads as it did. -/
def stackUnfoldsSpec : ChangeSpec := { name := "stackUnfolds", fn := fun _ => fun
  | [d1, d2] => { results := [.lit (.bool true)], args := [d1, d2] }
  | _ => none }
def stackUnfoldsRow : OpenClaim := { program := "ytbfhicimjijdeaa", sum := "70c325c28758ba447d48dc776d120ca35fe620572769a010c00d69d8b248a625", func := "inquest/inqlaw1.StackUnfolds", spec := "stackUnfolds", inPlace := ["internal/bytealg.IndexByteString"], apart := false }
def StackUnfoldsSaid : Prop := stackUnfoldsRow.holds Try.pinned (OpenSpec.ofChange stackUnfoldsSpec)

/-- ITS FALSE NEIGHBOUR: 'it returns false'. Refute it at one input. -/
def stackUnfoldsWrong : ChangeSpec := { name := "stackUnfolds", fn := fun _ => fun
  | [d1, d2] => { results := [.lit (.bool false)], args := [d1, d2] }
  | _ => none }
def StackUnfoldsWrongFalsely : Prop := stackUnfoldsRow.holds Try.pinned (OpenSpec.ofChange stackUnfoldsWrong)

/-- 'inqlaw1.StackAligns': WHATEVER THE INPUT: true; the input reads as it did. -/
def stackAlignsSpec : ChangeSpec := { name := "stackAligns", fn := fun _ => fun
  | [d1, d2] => { results := [.lit (.bool true)], args := [d1, d2] }
  | _ => none }
def stackAlignsRow : OpenClaim := { program := "ytbfhicimjijdeaa", sum := "70c325c28758ba447d48dc776d120ca35fe620572769a010c00d69d8b248a625", func := "inquest/inqlaw1.StackAligns", spec := "stackAligns", inPlace := ["internal/bytealg.IndexByteString"], apart := false }
def StackAlignsSaid : Prop := stackAlignsRow.holds Try.pinned (OpenSpec.ofChange stackAlignsSpec)

/-- ITS FALSE NEIGHBOUR: 'it returns false'. Refute it at one input. -/
def stackAlignsWrong : ChangeSpec := { name := "stackAligns", fn := fun _ => fun
  | [d1, d2] => { results := [.lit (.bool false)], args := [d1, d2] }
  | _ => none }
def StackAlignsWrongFalsely : Prop := stackAlignsRow.holds Try.pinned (OpenSpec.ofChange stackAlignsWrong)

/-- 'inqlaw1.StackCuts': WHATEVER THE INPUT: true; the input reads as it did. -/
def stackCutsSpec : ChangeSpec := { name := "stackCuts", fn := fun _ => fun
  | [d1, d2] => { results := [.lit (.bool true)], args := [d1, d2] }
  | _ => none }
def stackCutsRow : OpenClaim := { program := "ytbfhicimjijdeaa", sum := "70c325c28758ba447d48dc776d120ca35fe620572769a010c00d69d8b248a625", func := "inquest/inqlaw1.StackCuts", spec := "stackCuts", inPlace := ["internal/bytealg.IndexByteString"], apart := false }
def StackCutsSaid : Prop := stackCutsRow.holds Try.pinned (OpenSpec.ofChange stackCutsSpec)

/-- ITS FALSE NEIGHBOUR: 'it returns false'. Refute it at one input. -/
def stackCutsWrong : ChangeSpec := { name := "stackCuts", fn := fun _ => fun
  | [d1, d2] => { results := [.lit (.bool false)], args := [d1, d2] }
  | _ => none }
def StackCutsWrongFalsely : Prop := stackCutsRow.holds Try.pinned (OpenSpec.ofChange stackCutsWrong)

/-- 'inqlaw1.StackFaults': WHATEVER THE INPUT: true; the input reads as it did. -/
def stackFaultsSpec : ChangeSpec := { name := "stackFaults", fn := fun _ => fun
  | [d1, d2, d3, d4, d5, d6] => { results := [.lit (.bool true)], args := [d1, d2, d3, d4, d5, d6] }
  | _ => none }
def stackFaultsRow : OpenClaim := { program := "ytbfhicimjijdeaa", sum := "70c325c28758ba447d48dc776d120ca35fe620572769a010c00d69d8b248a625", func := "inquest/inqlaw1.StackFaults", spec := "stackFaults", inPlace := ["internal/bytealg.IndexByteString"], unfollowed := true, recurses := true, apart := false }
def StackFaultsSaid : Prop := stackFaultsRow.holds Try.pinned (OpenSpec.ofChange stackFaultsSpec)

/-- ITS FALSE NEIGHBOUR: 'it returns false'. Refute it at one input. -/
def stackFaultsWrong : ChangeSpec := { name := "stackFaults", fn := fun _ => fun
  | [d1, d2, d3, d4, d5, d6] => { results := [.lit (.bool false)], args := [d1, d2, d3, d4, d5, d6] }
  | _ => none }
def StackFaultsWrongFalsely : Prop := stackFaultsRow.holds Try.pinned (OpenSpec.ofChange stackFaultsWrong)

/- THE SECOND FORM. 'bulk': how many values and letters a reading holds, each counted each time it is reached (what is shared counts as often as it is met; a slice's spare places count too). A statement '..UptoSaid' is the law's where the arguments, and the package variables that the reading takes, are together of bulk at most 1048576: NARROWER than '..Said'. Prove '..Said' where nothing that the law and all that it calls make is longer than what came in: it says more and counts as full. Else prove '..UptoSaid'. A law counts once. -/
mutual
def uptoBulk {H : Type} : DataW H → Nat
  | .lit (.string bytes) => bytes.length + 1
  | .lit _ => 1
  | .nil => 1
  | .ptr d => uptoBulk d + 1
  | .slice elems spare => uptoBulkAll elems + uptoBulkAll spare + 1
  | .agg parts => uptoBulkAll parts + 1
  | .iface _ d => uptoBulk d + 1
  | .map entries => uptoBulkEntries entries + 1
  | .held _ => 1
def uptoBulkAll {H : Type} : List (DataW H) → Nat
  | [] => 0
  | d :: r => uptoBulk d + uptoBulkAll r
def uptoBulkEntries {H : Type} : List (Lit × DataW H) → Nat
  | [] => 0
  | x :: r => uptoBulkEntry x + uptoBulkEntries r
def uptoBulkEntry {H : Type} : Lit × DataW H → Nat
  | (.string bytes, d) => bytes.length + uptoBulk d + 1
  | (_, d) => uptoBulk d + 1
 end
def uptoSmall : (H : Type) → List (DataW H) → Bool := fun _ ds => decide (uptoBulkAll ds ≤ 1048576)
def OpenSpec.upto (s : _root_.Go.ChangeSpec) : _root_.Go.OpenSpec := { _root_.Go.OpenSpec.ofChange s with cond := some uptoSmall }

/-- 'inqlaw1.StackUnfolds', WHERE WHAT IT READS IS OF BULK AT MOST 1048576: true; the input reads as it did. -/
def stackUnfoldsUptoRow : OpenClaim := { program := "ytbfhicimjijdeaa", sum := "70c325c28758ba447d48dc776d120ca35fe620572769a010c00d69d8b248a625", func := "inquest/inqlaw1.StackUnfolds", spec := "stackUnfolds", inPlace := ["internal/bytealg.IndexByteString"], apart := false, narrowed := true }
def StackUnfoldsUptoSaid : Prop := stackUnfoldsUptoRow.holds Try.pinned (OpenSpec.upto stackUnfoldsSpec)

/-- 'inqlaw1.StackAligns', WHERE WHAT IT READS IS OF BULK AT MOST 1048576: true; the input reads as it did. -/
def stackAlignsUptoRow : OpenClaim := { program := "ytbfhicimjijdeaa", sum := "70c325c28758ba447d48dc776d120ca35fe620572769a010c00d69d8b248a625", func := "inquest/inqlaw1.StackAligns", spec := "stackAligns", inPlace := ["internal/bytealg.IndexByteString"], apart := false, narrowed := true }
def StackAlignsUptoSaid : Prop := stackAlignsUptoRow.holds Try.pinned (OpenSpec.upto stackAlignsSpec)

/-- 'inqlaw1.StackCuts', WHERE WHAT IT READS IS OF BULK AT MOST 1048576: true; the input reads as it did. -/
def stackCutsUptoRow : OpenClaim := { program := "ytbfhicimjijdeaa", sum := "70c325c28758ba447d48dc776d120ca35fe620572769a010c00d69d8b248a625", func := "inquest/inqlaw1.StackCuts", spec := "stackCuts", inPlace := ["internal/bytealg.IndexByteString"], apart := false, narrowed := true }
def StackCutsUptoSaid : Prop := stackCutsUptoRow.holds Try.pinned (OpenSpec.upto stackCutsSpec)

/-- 'inqlaw1.StackFaults', WHERE WHAT IT READS IS OF BULK AT MOST 1048576: true; the input reads as it did. -/
def stackFaultsUptoRow : OpenClaim := { program := "ytbfhicimjijdeaa", sum := "70c325c28758ba447d48dc776d120ca35fe620572769a010c00d69d8b248a625", func := "inquest/inqlaw1.StackFaults", spec := "stackFaults", inPlace := ["internal/bytealg.IndexByteString"], unfollowed := true, recurses := true, apart := false, narrowed := true }
def StackFaultsUptoSaid : Prop := stackFaultsUptoRow.holds Try.pinned (OpenSpec.upto stackFaultsSpec)

end Rows
end Go.Proofs.Ytbfhicimjijdeaa
