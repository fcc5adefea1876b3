/- The arguments of type Bucket and Level, opened. -/
import Derived.Test.YtnbmohekikhknaaRateBkt4
import Derived.Test.YtnbmohekikhknaaRows
import Derived.Lib.SmallJoins
import Derived.ProofKit
namespace Go.Proofs.Ytnbmohekikhknaa
open Go.RowKit Go.ChangeShapes Go.WideShapes Go.Joins
theorem trod_int' {H : Type} {enc : TypeId × Value → H} {w : World} {base : Nat} {spare : Nat → Bool} {held : Bool} {n : Nat} {v : Value} {y : DataW H × List MemPlace}
    (h : DataW.trod enc Try.prog w base spare held n 3 [v] = some y) : ∃ a : Int, v = .int .i64 a := by
  obtain ⟨a, e, _, _⟩ := DataW.trod_int Try.underlying3 h
  simp at e
  exact ⟨a, e⟩
theorem cells_bucket : Try.prog.cellsOf 29 = 3 := by kernel_rfl
theorem cells_level : Try.prog.cellsOf 31 = 3 := by kernel_rfl
set_option maxRecDepth 100000 in
theorem open_bucket {H : Type} {enc : TypeId × Value → H} {w : World} {base b0 : Nat} {spare : Nat → Bool} {held : Bool} {v : Value} {d : DataW H} {p : List MemPlace} {r : Reach}
    (hv : Value.okWide Try.prog w r b0 29 v) (h : DataW.Trod enc Try.prog w base spare held 29 v d p) : ∃ s a e : Int, v = v3 s a e := by
  obtain ⟨c0, c1, c2, y0, y1, y2, m, rfl, _, _, h0, h1, h2⟩ := open_agg3 Try.underlying29 (by kernel_rfl) cells_bucket hv h
  obtain ⟨s, rfl⟩ := trod_int' h0
  obtain ⟨a, rfl⟩ := trod_int' h1
  obtain ⟨e, rfl⟩ := trod_int' h2
  exact ⟨s, a, e, rfl⟩
set_option maxRecDepth 100000 in
theorem open_level {H : Type} {enc : TypeId × Value → H} {w : World} {base b0 : Nat} {spare : Nat → Bool} {held : Bool} {v : Value} {d : DataW H} {p : List MemPlace} {r : Reach}
    (hv : Value.okWide Try.prog w r b0 31 v) (h : DataW.Trod enc Try.prog w base spare held 31 v d p) : ∃ s a e : Int, v = v3 s a e := by
  obtain ⟨c0, c1, c2, y0, y1, y2, m, rfl, _, _, h0, h1, h2⟩ := open_agg3 Try.underlying31 (by kernel_rfl) cells_level hv h
  obtain ⟨s, rfl⟩ := trod_int' h0
  obtain ⟨a, rfl⟩ := trod_int' h1
  obtain ⟨e, rfl⟩ := trod_int' h2
  exact ⟨s, a, e, rfl⟩
end Go.Proofs.Ytnbmohekikhknaa
