/- The law GroupBooks: its argument opened. -/
import Derived.Test.YtapfcnfmonknjaaGreatDoorGbW
import Derived.Test.YtapfcnfmonknjaaGreatDoorRows
import Derived.LaidMore
import Derived.Lib.SmallJoins
import Derived.ProofKit
import Derived.Deep.Strs
namespace Go.Proofs.YtapfcnfmonknjaaGreatDoor.groupBooks
open Go.RowKit Go.ChangeShapes Go.WideShapes Go.Joins Go.Deep
set_option linter.unusedVariables false
set_option maxRecDepth 100000 in
theorem walk {H : Type} {enc : TypeId × Value → H} {d0 : DataW H} {p0 : List MemPlace} {base : Nat} {W : World}
    (v0 : Value) (k0 : DataW.Trod enc Tryz.prog W 0 (fun _ => true) true 22 v0 d0 p0) (ok0 : Value.okWide Tryz.prog W .any base 22 v0)
    (z0 : ∀ el sp, d0 = .slice el sp → (el.length + sp.length) * Tryz.prog.bytesOf 32 ≤ reachBytes) :
    Calls Tryz.prog 3 #[v0] W fun e w' => e = .returned (.bool true) ∧ Below W.heap.size W w' := by
  obtain ⟨A0, n0, c0, l, rfl, hl, hnc0, hcm0, hf⟩ := Bk.open_deeds ok0 k0
  exact Bk.GroupBooks_any A0 n0 c0 l W (Nat.le_trans hnc0 hcm0) hnc0 hl hf
end Go.Proofs.YtapfcnfmonknjaaGreatDoor.groupBooks
