/- Cut and Fold where they give an error. -/
import Derived.Test.YtbfhicimjijdeaaDoorStFrV
import Derived.Test.YtbfhicimjijdeaaDoorSlDrop
namespace Go.Proofs.YtbfhicimjijdeaaDoor
open Go.RowKit
set_option linter.unusedVariables false
section
variable (A : Option Addr) (n c : Nat) (l : List Frame) (most : Int) (w : World) (hn : n ≤ maxLen) (hl : Sl w w.heap.size Frame.cs 6 A n l) (hf : FramesFit l)
include hn hl hf
set_option maxHeartbeats 1000000 in
theorem Cut_err {E : Int} (hE : frsErr l = E) (h0 : E ≠ 0) : Calls Tryd.prog 13 #[.slice A n c, .int .i64 most] w fun e w' => e = .returned (.tuple #[.slice none 0 0, .int .i64 0, .int .i64 E]) ∧ Below w.heap.size w w' := by
  have C := hide (checkFrames_v (A := A) (n := n) (cap := c) hE w hn hl hf)
  have h0' : (E == 0) = false := by simpa using h0
  clear hE
  go_enter Tryd.func13, Tryd.ntmps13
  go_wp2_with (go_at_call 35; refine C.out.mono ?_; rintro r w0 ⟨rfl, hB0⟩)
  go_ret3
  exact ⟨rfl, hB0⟩
set_option maxHeartbeats 1000000 in
theorem Cut_range (hE : frsErr l = 0) (hm : outsideB most 1 200 = true) : Calls Tryd.prog 13 #[.slice A n c, .int .i64 most] w fun e w' => e = .returned (.tuple #[.slice none 0 0, .int .i64 0, .int .i64 2]) ∧ Below w.heap.size w w' := by
  have C := hide (checkFrames_v (A := A) (n := n) (cap := c) hE w hn hl hf)
  have O := hide (show ∀ W, Calls Tryd.prog 18 #[.int .i64 most, .int .i64 1, .int .i64 200] W fun e w' => e = .returned (.bool true) ∧ W = w' from fun W => by have := outside_any most 1 200 W; rw [hm] at this; exact this)
  clear hE hm
  go_enter Tryd.func13, Tryd.ntmps13
  go_wp2_with (first | (go_at_call 35; refine C.out.mono ?_; rintro r w0 ⟨rfl, hB0⟩) | (go_at_call 18; refine (O.out _).mono ?_; rintro e w' ⟨rfl, rfl⟩))
  go_ret3
  exact ⟨rfl, hB0⟩
set_option maxHeartbeats 1000000 in
theorem Fold_err {E : Int} (hE : frsErr l = E) (h0 : E ≠ 0) : Calls Tryd.prog 15 #[.slice A n c] w fun e w' => e = .returned (.tuple #[.slice none 0 0, .int .i64 E]) ∧ Below w.heap.size w w' := by
  have C := hide (checkFrames_v (A := A) (n := n) (cap := c) hE w hn hl hf)
  have h0' : (E == 0) = false := by simpa using h0
  clear hE
  go_enter Tryd.func15, Tryd.ntmps15
  go_wp2_with (go_at_call 35; refine C.out.mono ?_; rintro r w0 ⟨rfl, hB0⟩)
  go_ret2
  exact ⟨rfl, hB0⟩
end
end Go.Proofs.YtbfhicimjijdeaaDoor
