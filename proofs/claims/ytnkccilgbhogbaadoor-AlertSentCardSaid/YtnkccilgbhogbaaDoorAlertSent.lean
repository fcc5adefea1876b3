/- The law AlertSent. -/
import Derived.Test.YtnkccilgbhogbaaDoorAsT
import Derived.Test.YtnkccilgbhogbaaDoorRows
import Derived.LaidMore
import Derived.Stop.LaidErr
import Derived.MakeChecks
namespace Go.Proofs.YtnkccilgbhogbaaDoor
open Go.RowKit Go.ChangeShapes Go.WideShapes Go.Joins Go.Deep
set_option linter.unusedVariables false
theorem pow10_sent {W : World} (hL : laidMetH Tryd.prog Rows.alertSentRow.laid W) : Lib.TabIs Tryd.prog W "internal/strconv.uint64pow10" .u64 Lib.pow10Tab := by
  rw [MakeChecks.laidMetH_plain _ _ _ (by kernel_rfl)] at hL
  exact Lib.tabIs_of_head (n := 20) (t := 142) (e := 113) (g := 3) (by kernel_rfl) (by kernel_rfl) (by kernel_rfl) (by kernel_rfl) (by kernel_rfl) (by kernel_rfl) (laidMet.tail (laidMet.tail hL))
namespace alertSent
set_option maxRecDepth 100000 in
theorem walk {H : Type} {enc : TypeId × Value → H} {d0 d1 d2 : DataW H} {p0 p1 p2 : List MemPlace} {base : Nat} {W : World}
    (v0 : Value) (k0 : DataW.Trod enc Tryd.prog W 0 (fun _ => true) true 23 v0 d0 p0) (ok0 : Value.okWide Tryd.prog W .any base 23 v0)
    (v1 : Value) (k1 : DataW.Trod enc Tryd.prog W 0 (fun _ => true) true 32 v1 d1 p1) (ok1 : Value.okWide Tryd.prog W .any base 32 v1)
    (z1 : ∀ el sp, d1 = .slice el sp → (el.length + sp.length) * Tryd.prog.bytesOf 51 ≤ reachBytes)
    (v2 : Value) (k2 : DataW.Trod enc Tryd.prog W 0 (fun _ => true) true 48 v2 d2 p2) (ok2 : Value.okWide Tryd.prog W .any base 48 v2)
    (z2 : ∀ el sp, d2 = .slice el sp → (el.length + sp.length) * Tryd.prog.bytesOf 52 ≤ reachBytes)
    (hL : laidMetH Tryd.prog Rows.alertSentRow.laid W) :
    Calls Tryd.prog 4 #[v0, v1, v2] W fun e w' => e = .returned (.bool true) ∧ Below W.heap.size W w' := by
  have ht := pow10_sent hL
  obtain ⟨mo, wa, ag, tr, rfl⟩ := open_plan ok0 k0
  obtain ⟨A1, n1, c1, l1, rfl, hl1, hnc1, hcm1, hf1⟩ := open_ntsR ok1 k1
  obtain ⟨A2, n2, c2, l2, rfl, hl2, hnc2, hcm2, hf2⟩ := open_deeds ok2 k2
  exact AlertSent_any mo wa ag tr A1 n1 c1 l1 A2 n2 c2 l2 W ht (Nat.le_trans hnc1 hcm1) (Nat.le_trans hnc2 hcm2) hnc1 hnc2 hl1 hf1 hl2 hf2
end alertSent
end Go.Proofs.YtnkccilgbhogbaaDoor
