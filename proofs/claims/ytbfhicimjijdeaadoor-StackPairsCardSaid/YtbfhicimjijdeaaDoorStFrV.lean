/- checkFrames and FramesError, by the value that they give. -/
import Derived.Test.YtbfhicimjijdeaaDoorStFrames
namespace Go.Proofs.YtbfhicimjijdeaaDoor
open Go.RowKit
theorem FramesError_v {A : Option Addr} {n cap : Nat} {l : List Frame} {v : Int} (hv : frsErr l = v) (W : World) (hn : n ≤ maxLen) (hl : Sl W W.heap.size Frame.cs 6 A n l) (hf : FramesFit l) :
    Calls Tryd.prog 49 #[.slice A n cap] W fun e w' => e = .returned (.int .i64 v) ∧ Below W.heap.size W w' := by
  subst hv; exact FramesError_any A n cap l W hn hl hf
theorem checkFrames_v {A : Option Addr} {n cap : Nat} {l : List Frame} {v : Int} (hv : frsErr l = v) (W : World) (hn : n ≤ maxLen) (hl : Sl W W.heap.size Frame.cs 6 A n l) (hf : FramesFit l) :
    Calls Tryd.prog 35 #[.slice A n cap] W fun e w' => e = .returned (.int .i64 v) ∧ Below W.heap.size W w' := by
  subst hv; exact checkFrames_any A n cap l W hn hl hf
end Go.Proofs.YtbfhicimjijdeaaDoor
