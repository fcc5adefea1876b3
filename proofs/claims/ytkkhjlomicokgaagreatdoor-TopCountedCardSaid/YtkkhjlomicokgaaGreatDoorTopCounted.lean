/- The law TopCounted: its arguments opened. -/
import Derived.Test.YtkkhjlomicokgaaGreatDoorTcW
import Derived.Test.YtkkhjlomicokgaaGreatDoorGtOpn
import Derived.Test.YtkkhjlomicokgaaGreatDoorRows
import Derived.LaidMore
import Derived.Stop.LaidErr
import Derived.MakeChecks
namespace Go.Proofs.YtkkhjlomicokgaaGreatDoor
open Go.RowKit Go.ChangeShapes Go.WideShapes Go.Joins Go.Deep
set_option linter.unusedVariables false
theorem el_int {H : Type} {enc : TypeId × Value → H} {w : World} (n : Nat) (cs : List Value) (x : DataW H × List MemPlace)
    (h : DataW.trod enc Tryz.prog w 0 (fun _ => true) true n 3 cs = some x) : ∃ a : Int, cs = ci a ∧ True := by
  obtain ⟨a, e, _, _⟩ := DataW.trod_int Tryz.underlying3 h
  exact ⟨a, e, trivial⟩
set_option maxRecDepth 100000 in
theorem open_ints {H : Type} {enc : TypeId × Value → H} {w : World} {b0 : Nat} {v : Value} {d : DataW H} {p : List MemPlace} {r : Reach}
    (hv : Value.okWide Tryz.prog w r b0 24 v) (h : DataW.Trod enc Tryz.prog w 0 (fun _ => true) true 24 v d p) :
    ∃ (A : Option Addr) (n cap : Nat) (l : List Int), v = .slice A n cap ∧ Sl w w.heap.size ci 1 A n l ∧ n ≤ cap ∧ cap ≤ maxLen ∧ ∀ a ∈ l, True :=
  open_sl ci (fun _ => True) Tryz.underlying24 (by kernel_rfl) (by decide) (fun _ => rfl) (fun n cs x hx => el_int n cs x hx) hv h
theorem el_strs {H : Type} {enc : TypeId × Value → H} {w : World} (n : Nat) (cs : List Value) (x : DataW H × List MemPlace)
    (h : DataW.trod enc Tryz.prog w 0 (fun _ => true) true n 9 cs = some x) : ∃ a : ByteArray, cs = Bk.ss a ∧ a.size ≤ maxLen := by
  obtain ⟨a, e, _, hs⟩ := DataW.trod_string Tryz.underlying9 h
  exact ⟨a, e, hs⟩
set_option maxRecDepth 100000 in
theorem open_prints {H : Type} {enc : TypeId × Value → H} {w : World} {b0 : Nat} {v : Value} {d : DataW H} {p : List MemPlace} {r : Reach}
    (hv : Value.okWide Tryz.prog w r b0 23 v) (h : DataW.Trod enc Tryz.prog w 0 (fun _ => true) true 23 v d p) :
    ∃ (A : Option Addr) (n cap : Nat) (l : List ByteArray), v = .slice A n cap ∧ Sl w w.heap.size Bk.ss 1 A n l ∧ n ≤ cap ∧ cap ≤ maxLen ∧ ∀ a ∈ l, a.size ≤ maxLen :=
  open_sl Bk.ss (fun a => a.size ≤ maxLen) Tryz.underlying23 (by kernel_rfl) (by decide) (fun _ => rfl) (fun n cs x hx => el_strs n cs x hx) hv h
theorem pow10_counted {W : World} (hL : laidMetH Tryz.prog Rows.topCountedRow.laid W) : Lib.TabIs Tryz.prog W "internal/strconv.uint64pow10" .u64 Lib.pow10Tab := by
  rw [MakeChecks.laidMetH_plain _ _ _ (by kernel_rfl)] at hL
  exact Lib.tabIs_of_head (n := 20) (t := 201) (e := 130) (g := 3) (by kernel_rfl) (by kernel_rfl) (by kernel_rfl) (by kernel_rfl) (by kernel_rfl) (by kernel_rfl) (laidMet.tail (laidMet.tail hL))
namespace topCounted
set_option maxRecDepth 100000 in
theorem walk {H : Type} {enc : TypeId × Value → H} {d0 d1 d2 : DataW H} {p0 p1 p2 : List MemPlace} {base : Nat} {W : World}
    (v0 : Value) (k0 : DataW.Trod enc Tryz.prog W 0 (fun _ => true) true 22 v0 d0 p0) (ok0 : Value.okWide Tryz.prog W .any base 22 v0)
    (z0 : ∀ el sp, d0 = .slice el sp → (el.length + sp.length) * Tryz.prog.bytesOf 67 ≤ reachBytes)
    (v1 : Value) (k1 : DataW.Trod enc Tryz.prog W 0 (fun _ => true) true 23 v1 d1 p1) (ok1 : Value.okWide Tryz.prog W .any base 23 v1)
    (z1 : ∀ el sp, d1 = .slice el sp → (el.length + sp.length) * Tryz.prog.bytesOf 9 ≤ reachBytes)
    (v2 : Value) (k2 : DataW.Trod enc Tryz.prog W 0 (fun _ => true) true 24 v2 d2 p2) (ok2 : Value.okWide Tryz.prog W .any base 24 v2)
    (z2 : ∀ el sp, d2 = .slice el sp → (el.length + sp.length) * Tryz.prog.bytesOf 3 ≤ reachBytes)
    (hL : laidMetH Tryz.prog Rows.topCountedRow.laid W) :
    Calls Tryz.prog 3 #[v0, v1, v2] W fun e w' => e = .returned (.bool true) ∧ Below W.heap.size W w' := by
  have ht := pow10_counted hL
  obtain ⟨A0, n0, c0, l, rfl, hl, hnc0, hcm0, hf⟩ := open_quotas ok0 k0
  obtain ⟨A1, n1, c1, l1, rfl, hl1, hnc1, hcm1, hf1⟩ := open_prints ok1 k1
  obtain ⟨A2, n2, c2, l2, rfl, hl2, hnc2, hcm2, _⟩ := open_ints ok2 k2
  by_cases hE : newE l [] 0 = 0
  · exact Bk.TopCounted_ok A0 A1 A2 n0 c0 n1 c1 n2 c2 l l1 l2 W ht (Nat.le_trans hnc0 hcm0) (Nat.le_trans hnc1 hcm1) hnc1 (Nat.le_trans hnc2 hcm2) hl hf hl1 hf1 hl2 hE
  · exact Bk.TopCounted_bad A0 A1 A2 n0 c0 n1 c1 n2 c2 l W ht (Nat.le_trans hnc0 hcm0) hl hf hE
end topCounted
end Go.Proofs.YtkkhjlomicokgaaGreatDoor
