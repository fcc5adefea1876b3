/- The law AlertForgets. -/
import Derived.Test.YtpjfihdbbgencaaDoorAlFor
import Derived.Test.YtpjfihdbbgencaaDoorAlOpn
import Derived.Test.YtpjfihdbbgencaaDoorRows
import Derived.LaidMore
import Derived.Stop.LaidErr
import Derived.MakeChecks
namespace Go.Proofs.YtpjfihdbbgencaaDoor
open Go.RowKit Go.ChangeShapes Go.WideShapes Go.Joins Go.Deep
set_option linter.unusedVariables false
theorem el_int {H : Type} {enc : TypeId × Value → H} {w : World} {base : Nat} {spare : Nat → Bool} {held : Bool} (n : Nat) (cs : List Value) (x : DataW H × List MemPlace)
    (h : DataW.trod enc Tryd.prog w base spare held n 3 cs = some x) : ∃ a : Int, cs = ci a ∧ True := by
  obtain ⟨a, e, _, _⟩ := DataW.trod_int Tryd.underlying3 h
  exact ⟨a, e, trivial⟩
set_option maxRecDepth 100000 in
theorem open_ints {H : Type} {enc : TypeId × Value → H} {w : World} {b0 : Nat} {v : Value} {d : DataW H} {p : List MemPlace} {r : Reach}
    (hv : Value.okWide Tryd.prog w r b0 37 v) (h : DataW.Trod enc Tryd.prog w 0 (fun _ => true) true 37 v d p) :
    ∃ (A : Option Addr) (n cap : Nat) (l : List Int), v = .slice A n cap ∧ Sl w w.heap.size ci 1 A n l ∧ n ≤ cap ∧ cap ≤ maxLen ∧ ∀ a ∈ l, True :=
  open_sl ci (fun _ => True) Tryd.underlying37 (by kernel_rfl) (by decide) (fun _ => rfl) (fun n cs x hx => el_int n cs x hx) hv h
theorem pow10_forgets {W : World} (hL : laidMetH Tryd.prog Rows.alertForgetsRow.laid W) : Lib.TabIs Tryd.prog W "internal/strconv.uint64pow10" .u64 Lib.pow10Tab := by
  rw [MakeChecks.laidMetH_plain _ _ _ (by kernel_rfl)] at hL
  exact Lib.tabIs_of_head (n := 20) (t := 131) (e := 117) (g := 3) (by kernel_rfl) (by kernel_rfl) (by kernel_rfl) (by kernel_rfl) (by kernel_rfl) (by kernel_rfl) (laidMet.tail (laidMet.tail hL))
namespace alertForgets
set_option maxRecDepth 100000 in
theorem walk {H : Type} {enc : TypeId × Value → H} {d0 d1 d2 : DataW H} {p0 p1 p2 : List MemPlace} {base : Nat} {W : World}
    (v0 : Value) (k0 : DataW.Trod enc Tryd.prog W 0 (fun _ => true) true 22 v0 d0 p0) (ok0 : Value.okWide Tryd.prog W .any base 22 v0)
    (z0 : ∀ el sp, d0 = .slice el sp → (el.length + sp.length) * Tryd.prog.bytesOf 56 ≤ reachBytes)
    (v1 : Value) (k1 : DataW.Trod enc Tryd.prog W 0 (fun _ => true) true 37 v1 d1 p1) (ok1 : Value.okWide Tryd.prog W .any base 37 v1)
    (z1 : ∀ el sp, d1 = .slice el sp → (el.length + sp.length) * Tryd.prog.bytesOf 3 ≤ reachBytes)
    (v2 : Value) (k2 : DataW.Trod enc Tryd.prog W 0 (fun _ => true) true 37 v2 d2 p2) (ok2 : Value.okWide Tryd.prog W .any base 37 v2)
    (z2 : ∀ el sp, d2 = .slice el sp → (el.length + sp.length) * Tryd.prog.bytesOf 3 ≤ reachBytes)
    (hL : laidMetH Tryd.prog Rows.alertForgetsRow.laid W) :
    Calls Tryd.prog 5 #[v0, v1, v2] W fun e w' => e = .returned (.bool true) ∧ Below W.heap.size W w' := by
  have ht := pow10_forgets hL
  obtain ⟨A0, n0, c0, l, rfl, hl, hnc0, hcm0, hf⟩ := open_rules ok0 k0
  obtain ⟨A1, n1, c1, l1, rfl, hl1, hnc1, hcm1, _⟩ := open_ints ok1 k1
  obtain ⟨A2, n2, c2, l2, rfl, hl2, hnc2, hcm2, _⟩ := open_ints ok2 k2
  by_cases hE : rlErr l = 0
  · exact AlertForgets_ok A0 A1 A2 n0 c0 n1 c1 n2 c2 l l1 l2 W ht (Nat.le_trans hnc0 hcm0) (Nat.le_trans hnc1 hcm1) (Nat.le_trans hnc2 hcm2) hnc1 hl hf hl1 hl2 hE
  · exact AlertForgets_bad A0 A1 A2 n0 c0 n1 c1 n2 c2 l W ht (Nat.le_trans hnc0 hcm0) hl hf hE
end alertForgets
end Go.Proofs.YtpjfihdbbgencaaDoor
