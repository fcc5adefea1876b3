/- Sums, as the walk has them. No program. -/
import Derived.Test.YtbfhicimjijdeaaDoorMem
import Derived.IntWalk
namespace Go.Proofs.YtbfhicimjijdeaaDoor
open Go.RowKit
/-- What the walk knows of a sum. -/
structure AddNum (a b s : Nat) : Prop where
  e : (a : Int) + (b : Int) = (s : Int)
  w : IntKind.i64.wrap ((a : Int) + (b : Int)) = (s : Int)
  v : IntKind.i64.wrap (s : Int) = (s : Int)
theorem addNum {a b : Nat} (h : a + b ≤ 2000000) : ∃ s, s = a + b ∧ AddNum a b s := by
  have e : (a : Int) + (b : Int) = ((a + b : Nat) : Int) := by omega
  exact ⟨a + b, rfl, e, by rw [e]; exact IntWalk.i64_in _ (by omega), IntWalk.i64_in _ (by omega)⟩
theorem Sl.up' {α : Type} {w w' : World} {B sz n : Nat} {f : α → List Value} {A : Option Addr} {l : List α} (h : Sl w B f sz A n l) (hb : Below B w w') : Sl w' B f sz A n l := h.below hb
end Go.Proofs.YtbfhicimjijdeaaDoor
