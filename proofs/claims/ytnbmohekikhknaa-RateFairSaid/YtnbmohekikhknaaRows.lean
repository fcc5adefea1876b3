/-
  No cell of these rows narrows 'for every input' (looked for: loops, veiled, ifaces, maps, wideKeys, modest, calm, conditions, laid).
  DERIVED. THE GIVEN ROWS OF THIS SEAT. 7 by the template 'for every input the law returns true; each argument reads behind the call as it read before'; 0 by the template 'total and deterministic' (their statements: YtnbmohekikhknaaTotals.lean).
  GIVEN WITH THE SEED: the statements are not yours to turn. If you find one false, say at which input.
  Laid BY PROGRAM, IN A SANDBOX (cutbox-rows.mjs): the forced cells as the released guide's own fill.sh prints them over the translation e341756dd4fad692… (all of the seat's roots in one cut). By AI agents, Wed Nov 11 2026. No macro, syntax, notation, axiom, sorry.
-/
import Derived.Test.YtnbmohekikhknaaChecked
import GoSem.Claim
import GoSem.ClaimJoined
import GoSem.ClaimMapViews
import Derived.JoinedTies
import Derived.KernelRfl
namespace Go.Proofs.Ytnbmohekikhknaa
/- THE CELL 'sum', in the pinned program and in every row, IS THE sha256 OF THE DUMP (.gsa) THAT YtnbmohekikhknaaProg.lean LOADS. Nothing in Lean hashes anything: it is a label: what it is worth is what the hold of that sum in a sandbox is worth. -/
noncomputable def Try.pinned : Pinned := { name := "ytnbmohekikhknaa", sum := "e341756dd4fad692b8caeef59ae285c89952abc07eea96953c6494ac455053ee", checked := Try.checked }
namespace Rows
def none {H : Type} : Left H := { results := [], args := [] }

/-- 'inqlaw1.RateSamples': WHATEVER THE INPUT: true; the input reads as it did. -/
def rateSamplesSpec : ChangeSpec := { name := "rateSamples", fn := fun _ => fun
  | [d1, d2] => { results := [.lit (.bool true)], args := [d1, d2] }
  | _ => none }
def rateSamplesRow : OpenClaim := { program := "ytnbmohekikhknaa", sum := "e341756dd4fad692b8caeef59ae285c89952abc07eea96953c6494ac455053ee", func := "inquest/inqlaw1.RateSamples", spec := "rateSamples", apart := false }
def RateSamplesSaid : Prop := rateSamplesRow.holds Try.pinned (OpenSpec.ofChange rateSamplesSpec)

/-- ITS FALSE NEIGHBOUR: 'it returns false'. Refute it at one input. -/
def rateSamplesWrong : ChangeSpec := { name := "rateSamples", fn := fun _ => fun
  | [d1, d2] => { results := [.lit (.bool false)], args := [d1, d2] }
  | _ => none }
def RateSamplesWrongFalsely : Prop := rateSamplesRow.holds Try.pinned (OpenSpec.ofChange rateSamplesWrong)

/-- 'inqkeep1.RateNested': WHATEVER THE INPUT: true; the input reads as it did. -/
def rateNestedSpec : ChangeSpec := { name := "rateNested", fn := fun _ => fun
  | [d1, d2, d3] => { results := [.lit (.bool true)], args := [d1, d2, d3] }
  | _ => none }
def rateNestedRow : OpenClaim := { program := "ytnbmohekikhknaa", sum := "e341756dd4fad692b8caeef59ae285c89952abc07eea96953c6494ac455053ee", func := "inquest/inqkeep1.RateNested", spec := "rateNested", apart := false }
def RateNestedSaid : Prop := rateNestedRow.holds Try.pinned (OpenSpec.ofChange rateNestedSpec)

/-- ITS FALSE NEIGHBOUR: 'it returns false'. Refute it at one input. -/
def rateNestedWrong : ChangeSpec := { name := "rateNested", fn := fun _ => fun
  | [d1, d2, d3] => { results := [.lit (.bool false)], args := [d1, d2, d3] }
  | _ => none }
def RateNestedWrongFalsely : Prop := rateNestedRow.holds Try.pinned (OpenSpec.ofChange rateNestedWrong)

/-- 'inqlaw1.RateBuckets': WHATEVER THE INPUT: true; the input reads as it did. -/
def rateBucketsSpec : ChangeSpec := { name := "rateBuckets", fn := fun _ => fun
  | [d1, d2, d3, d4] => { results := [.lit (.bool true)], args := [d1, d2, d3, d4] }
  | _ => none }
def rateBucketsRow : OpenClaim := { program := "ytnbmohekikhknaa", sum := "e341756dd4fad692b8caeef59ae285c89952abc07eea96953c6494ac455053ee", func := "inquest/inqlaw1.RateBuckets", spec := "rateBuckets", apart := false }
def RateBucketsSaid : Prop := rateBucketsRow.holds Try.pinned (OpenSpec.ofChange rateBucketsSpec)

/-- ITS FALSE NEIGHBOUR: 'it returns false'. Refute it at one input. -/
def rateBucketsWrong : ChangeSpec := { name := "rateBuckets", fn := fun _ => fun
  | [d1, d2, d3, d4] => { results := [.lit (.bool false)], args := [d1, d2, d3, d4] }
  | _ => none }
def RateBucketsWrongFalsely : Prop := rateBucketsRow.holds Try.pinned (OpenSpec.ofChange rateBucketsWrong)

/-- 'inqkeep1.RateFair': WHATEVER THE INPUT: true; the input reads as it did. -/
def rateFairSpec : ChangeSpec := { name := "rateFair", fn := fun _ => fun
  | [d1, d2] => { results := [.lit (.bool true)], args := [d1, d2] }
  | _ => none }
def rateFairRow : OpenClaim := { program := "ytnbmohekikhknaa", sum := "e341756dd4fad692b8caeef59ae285c89952abc07eea96953c6494ac455053ee", func := "inquest/inqkeep1.RateFair", spec := "rateFair", apart := false }
def RateFairSaid : Prop := rateFairRow.holds Try.pinned (OpenSpec.ofChange rateFairSpec)

/-- ITS FALSE NEIGHBOUR: 'it returns false'. Refute it at one input. -/
def rateFairWrong : ChangeSpec := { name := "rateFair", fn := fun _ => fun
  | [d1, d2] => { results := [.lit (.bool false)], args := [d1, d2] }
  | _ => none }
def RateFairWrongFalsely : Prop := rateFairRow.holds Try.pinned (OpenSpec.ofChange rateFairWrong)

/-- 'inqkeep1.RatePours': WHATEVER THE INPUT: true; the input reads as it did. -/
def ratePoursSpec : ChangeSpec := { name := "ratePours", fn := fun _ => fun
  | [d1, d2, d3, d4, d5] => { results := [.lit (.bool true)], args := [d1, d2, d3, d4, d5] }
  | _ => none }
def ratePoursRow : OpenClaim := { program := "ytnbmohekikhknaa", sum := "e341756dd4fad692b8caeef59ae285c89952abc07eea96953c6494ac455053ee", func := "inquest/inqkeep1.RatePours", spec := "ratePours", apart := false }
def RatePoursSaid : Prop := ratePoursRow.holds Try.pinned (OpenSpec.ofChange ratePoursSpec)

/-- ITS FALSE NEIGHBOUR: 'it returns false'. Refute it at one input. -/
def ratePoursWrong : ChangeSpec := { name := "ratePours", fn := fun _ => fun
  | [d1, d2, d3, d4, d5] => { results := [.lit (.bool false)], args := [d1, d2, d3, d4, d5] }
  | _ => none }
def RatePoursWrongFalsely : Prop := ratePoursRow.holds Try.pinned (OpenSpec.ofChange ratePoursWrong)

/-- 'inqlaw1.RateShares': WHATEVER THE INPUT: true; the input reads as it did. -/
def rateSharesSpec : ChangeSpec := { name := "rateShares", fn := fun _ => fun
  | [d1, d2, d3] => { results := [.lit (.bool true)], args := [d1, d2, d3] }
  | _ => none }
def rateSharesRow : OpenClaim := { program := "ytnbmohekikhknaa", sum := "e341756dd4fad692b8caeef59ae285c89952abc07eea96953c6494ac455053ee", func := "inquest/inqlaw1.RateShares", spec := "rateShares", inPlace := ["internal/bytealg.IndexByteString"], unfollowed := true, recurses := true, apart := false }
def RateSharesSaid : Prop := rateSharesRow.holds Try.pinned (OpenSpec.ofChange rateSharesSpec)

/-- ITS FALSE NEIGHBOUR: 'it returns false'. Refute it at one input. -/
def rateSharesWrong : ChangeSpec := { name := "rateShares", fn := fun _ => fun
  | [d1, d2, d3] => { results := [.lit (.bool false)], args := [d1, d2, d3] }
  | _ => none }
def RateSharesWrongFalsely : Prop := rateSharesRow.holds Try.pinned (OpenSpec.ofChange rateSharesWrong)

/-- 'inqlaw1.RateSpikes': WHATEVER THE INPUT: true; the input reads as it did. -/
def rateSpikesSpec : ChangeSpec := { name := "rateSpikes", fn := fun _ => fun
  | [d1, d2, d3] => { results := [.lit (.bool true)], args := [d1, d2, d3] }
  | _ => none }
def rateSpikesRow : OpenClaim := { program := "ytnbmohekikhknaa", sum := "e341756dd4fad692b8caeef59ae285c89952abc07eea96953c6494ac455053ee", func := "inquest/inqlaw1.RateSpikes", spec := "rateSpikes", unfollowed := true, recurses := true, apart := false }
def RateSpikesSaid : Prop := rateSpikesRow.holds Try.pinned (OpenSpec.ofChange rateSpikesSpec)

/-- ITS FALSE NEIGHBOUR: 'it returns false'. Refute it at one input. -/
def rateSpikesWrong : ChangeSpec := { name := "rateSpikes", fn := fun _ => fun
  | [d1, d2, d3] => { results := [.lit (.bool false)], args := [d1, d2, d3] }
  | _ => none }
def RateSpikesWrongFalsely : Prop := rateSpikesRow.holds Try.pinned (OpenSpec.ofChange rateSpikesWrong)

/- THE SECOND FORM. 'bulk': how many values and letters a reading holds, each counted each time it is reached (what is shared counts as often as it is met; a slice's spare places count too). A statement '..UptoSaid' is the law's where the arguments, and the package variables that the reading takes, are together of bulk at most 1048576: NARROWER than '..Said'. Prove '..Said' where nothing that the law and all that it calls make is longer than what came in: it says more and counts as full. Else prove '..UptoSaid'. A law counts once. -/
mutual
def uptoBulk {H : Type} : DataW H → Nat
  | .lit (.string bytes) => bytes.length + 1
  | .lit _ => 1
  | .nil => 1
  | .ptr d => uptoBulk d + 1
  | .slice elems spare => uptoBulkAll elems + uptoBulkAll spare + 1
  | .agg parts => uptoBulkAll parts + 1
  | .iface _ d => uptoBulk d + 1
  | .map entries => uptoBulkEntries entries + 1
  | .held _ => 1
def uptoBulkAll {H : Type} : List (DataW H) → Nat
  | [] => 0
  | d :: r => uptoBulk d + uptoBulkAll r
def uptoBulkEntries {H : Type} : List (Lit × DataW H) → Nat
  | [] => 0
  | x :: r => uptoBulkEntry x + uptoBulkEntries r
def uptoBulkEntry {H : Type} : Lit × DataW H → Nat
  | (.string bytes, d) => bytes.length + uptoBulk d + 1
  | (_, d) => uptoBulk d + 1
 end
def uptoSmall : (H : Type) → List (DataW H) → Bool := fun _ ds => decide (uptoBulkAll ds ≤ 1048576)
def OpenSpec.upto (s : _root_.Go.ChangeSpec) : _root_.Go.OpenSpec := { _root_.Go.OpenSpec.ofChange s with cond := some uptoSmall }

/-- 'inqlaw1.RateSamples', WHERE WHAT IT READS IS OF BULK AT MOST 1048576: true; the input reads as it did. -/
def rateSamplesUptoRow : OpenClaim := { program := "ytnbmohekikhknaa", sum := "e341756dd4fad692b8caeef59ae285c89952abc07eea96953c6494ac455053ee", func := "inquest/inqlaw1.RateSamples", spec := "rateSamples", apart := false, narrowed := true }
def RateSamplesUptoSaid : Prop := rateSamplesUptoRow.holds Try.pinned (OpenSpec.upto rateSamplesSpec)

/-- 'inqkeep1.RateNested', WHERE WHAT IT READS IS OF BULK AT MOST 1048576: true; the input reads as it did. -/
def rateNestedUptoRow : OpenClaim := { program := "ytnbmohekikhknaa", sum := "e341756dd4fad692b8caeef59ae285c89952abc07eea96953c6494ac455053ee", func := "inquest/inqkeep1.RateNested", spec := "rateNested", apart := false, narrowed := true }
def RateNestedUptoSaid : Prop := rateNestedUptoRow.holds Try.pinned (OpenSpec.upto rateNestedSpec)

/-- 'inqlaw1.RateBuckets', WHERE WHAT IT READS IS OF BULK AT MOST 1048576: true; the input reads as it did. -/
def rateBucketsUptoRow : OpenClaim := { program := "ytnbmohekikhknaa", sum := "e341756dd4fad692b8caeef59ae285c89952abc07eea96953c6494ac455053ee", func := "inquest/inqlaw1.RateBuckets", spec := "rateBuckets", apart := false, narrowed := true }
def RateBucketsUptoSaid : Prop := rateBucketsUptoRow.holds Try.pinned (OpenSpec.upto rateBucketsSpec)

/-- 'inqkeep1.RateFair', WHERE WHAT IT READS IS OF BULK AT MOST 1048576: true; the input reads as it did. -/
def rateFairUptoRow : OpenClaim := { program := "ytnbmohekikhknaa", sum := "e341756dd4fad692b8caeef59ae285c89952abc07eea96953c6494ac455053ee", func := "inquest/inqkeep1.RateFair", spec := "rateFair", apart := false, narrowed := true }
def RateFairUptoSaid : Prop := rateFairUptoRow.holds Try.pinned (OpenSpec.upto rateFairSpec)

/-- 'inqkeep1.RatePours', WHERE WHAT IT READS IS OF BULK AT MOST 1048576: true; the input reads as it did. -/
def ratePoursUptoRow : OpenClaim := { program := "ytnbmohekikhknaa", sum := "e341756dd4fad692b8caeef59ae285c89952abc07eea96953c6494ac455053ee", func := "inquest/inqkeep1.RatePours", spec := "ratePours", apart := false, narrowed := true }
def RatePoursUptoSaid : Prop := ratePoursUptoRow.holds Try.pinned (OpenSpec.upto ratePoursSpec)

/-- 'inqlaw1.RateShares', WHERE WHAT IT READS IS OF BULK AT MOST 1048576: true; the input reads as it did. -/
def rateSharesUptoRow : OpenClaim := { program := "ytnbmohekikhknaa", sum := "e341756dd4fad692b8caeef59ae285c89952abc07eea96953c6494ac455053ee", func := "inquest/inqlaw1.RateShares", spec := "rateShares", inPlace := ["internal/bytealg.IndexByteString"], unfollowed := true, recurses := true, apart := false, narrowed := true }
def RateSharesUptoSaid : Prop := rateSharesUptoRow.holds Try.pinned (OpenSpec.upto rateSharesSpec)

/-- 'inqlaw1.RateSpikes', WHERE WHAT IT READS IS OF BULK AT MOST 1048576: true; the input reads as it did. -/
def rateSpikesUptoRow : OpenClaim := { program := "ytnbmohekikhknaa", sum := "e341756dd4fad692b8caeef59ae285c89952abc07eea96953c6494ac455053ee", func := "inquest/inqlaw1.RateSpikes", spec := "rateSpikes", unfollowed := true, recurses := true, apart := false, narrowed := true }
def RateSpikesUptoSaid : Prop := rateSpikesUptoRow.holds Try.pinned (OpenSpec.upto rateSpikesSpec)

end Rows
end Go.Proofs.Ytnbmohekikhknaa
