/- The law RateKeeps: its arguments opened. -/
import Derived.Test.YtkoijhecahebgaaDoorRateKeeps
import Derived.Test.YtkoijhecahebgaaDoorOpenSl
import Derived.Test.YtkoijhecahebgaaDoorRows
import Derived.Lib.SmallJoins
import Derived.ProofKit
namespace Go.Proofs.YtkoijhecahebgaaDoor
open Go.RowKit Go.ChangeShapes Go.WideShapes Go.Joins
set_option linter.unusedVariables false
theorem el_int {H : Type} {enc : TypeId × Value → H} {w : World} (n : Nat) (cs : List Value) (x : DataW H × List MemPlace)
    (h : DataW.trod enc Tryd.prog w 0 (fun _ => true) true n 3 cs = some x) : ∃ a : Int, cs = ci a ∧ True := by
  obtain ⟨a, e, _, _⟩ := DataW.trod_int Tryd.underlying3 h
  exact ⟨a, e, trivial⟩
set_option maxRecDepth 100000 in
theorem open_ints {H : Type} {enc : TypeId × Value → H} {w : World} {b0 : Nat} {v : Value} {d : DataW H} {p : List MemPlace} {r : Reach}
    (hv : Value.okWide Tryd.prog w r b0 55 v) (h : DataW.Trod enc Tryd.prog w 0 (fun _ => true) true 55 v d p) :
    ∃ (A : Option Addr) (n cap : Nat) (l : List Int), v = .slice A n cap ∧ Sl w w.heap.size ci 1 A n l ∧ n ≤ cap ∧ cap ≤ maxLen ∧ ∀ a ∈ l, True :=
  open_sl ci (fun _ => True) Tryd.underlying55 (by kernel_rfl) (by decide) (fun _ => rfl) (fun n cs x hx => el_int n cs x hx) hv h
theorem trod_int' {H : Type} {enc : TypeId × Value → H} {w : World} {base : Nat} {spare : Nat → Bool} {held : Bool} {n : Nat} {v : Value} {y : DataW H × List MemPlace}
    (h : DataW.trod enc Tryd.prog w base spare held n 3 [v] = some y) : ∃ a : Int, v = .int .i64 a := by
  obtain ⟨a, e, _, _⟩ := DataW.trod_int Tryd.underlying3 h
  simp at e
  exact ⟨a, e⟩
theorem cells_bucket : Tryd.prog.cellsOf 54 = 3 := by kernel_rfl
set_option maxRecDepth 100000 in
theorem open_bucket {H : Type} {enc : TypeId × Value → H} {w : World} {base b0 : Nat} {spare : Nat → Bool} {held : Bool} {v : Value} {d : DataW H} {p : List MemPlace} {r : Reach}
    (hv : Value.okWide Tryd.prog w r b0 54 v) (h : DataW.Trod enc Tryd.prog w base spare held 54 v d p) : ∃ s a e : Int, v = .agg #[.int .i64 s, .int .i64 a, .int .i64 e] := by
  obtain ⟨c0, c1, c2, y0, y1, y2, m, rfl, _, _, h0, h1, h2⟩ := open_agg3 Tryd.underlying54 (by kernel_rfl) cells_bucket hv h
  obtain ⟨s, rfl⟩ := trod_int' h0
  obtain ⟨a, rfl⟩ := trod_int' h1
  obtain ⟨e, rfl⟩ := trod_int' h2
  exact ⟨s, a, e, rfl⟩
namespace rateKeeps
set_option maxRecDepth 100000 in
theorem walk {H : Type} {enc : TypeId × Value → H} {d0 d2 : DataW H} {p0 p2 : List MemPlace} {base : Nat} {W : World}
    (v0 : Value) (k0 : DataW.Trod enc Tryd.prog W 0 (fun _ => true) true 54 v0 d0 p0) (ok0 : Value.okWide Tryd.prog W .any base 54 v0)
    (a1 : Int) (w1 : (Lit.int .i64 a1).wf = true)
    (v2 : Value) (k2 : DataW.Trod enc Tryd.prog W 0 (fun _ => true) true 55 v2 d2 p2) (ok2 : Value.okWide Tryd.prog W .any base 55 v2)
    (z2 : ∀ el sp, d2 = .slice el sp → (el.length + sp.length) * Tryd.prog.bytesOf 3 ≤ reachBytes) :
    Calls Tryd.prog 4 #[v0, .int .i64 a1, v2] W fun e w' => e = .returned (.bool true) ∧ Below W.heap.size W w' := by
  obtain ⟨s, a, e, rfl⟩ := open_bucket ok0 k0
  obtain ⟨A, n, c, l, rfl, hl, hnc, hcm, _⟩ := open_ints ok2 k2
  exact RateKeeps_any s a e a1 A n c l W (Nat.le_trans hnc hcm) hnc hl
end rateKeeps
end Go.Proofs.YtkoijhecahebgaaDoor
