/- The law GroupUndone: its arguments opened. -/
import Derived.Test.YtmogfmpcfdlpfaaDoorGuW
import Derived.Test.YtmogfmpcfdlpfaaDoorOpenSl
import Derived.Test.YtmogfmpcfdlpfaaDoorRows
import Derived.LaidMore
import Derived.Lib.SmallJoins
import Derived.ProofKit
import Derived.Deep.Strs
namespace Go.Proofs.YtmogfmpcfdlpfaaDoor
open Go.RowKit Go.ChangeShapes Go.WideShapes Go.Joins Go.Deep
set_option linter.unusedVariables false
theorem el_strs {H : Type} {enc : TypeId × Value → H} {w : World} (n : Nat) (cs : List Value) (x : DataW H × List MemPlace)
    (h : DataW.trod enc Tryd.prog w 0 (fun _ => true) true n 9 cs = some x) : ∃ a : ByteArray, cs = Bk.sb a ∧ a.size ≤ maxLen := by
  obtain ⟨a, e, _, hs⟩ := DataW.trod_string Tryd.underlying9 h
  exact ⟨a, e, hs⟩
set_option maxRecDepth 100000 in
theorem open_prints {H : Type} {enc : TypeId × Value → H} {w : World} {b0 : Nat} {v : Value} {d : DataW H} {p : List MemPlace} {r : Reach}
    (hv : Value.okWide Tryd.prog w r b0 22 v) (h : DataW.Trod enc Tryd.prog w 0 (fun _ => true) true 22 v d p) :
    ∃ (A : Option Addr) (n cap : Nat) (l : List ByteArray), v = .slice A n cap ∧ Sl w w.heap.size Bk.sb 1 A n l ∧ n ≤ cap ∧ cap ≤ maxLen ∧ ∀ a ∈ l, a.size ≤ maxLen :=
  open_sl Bk.sb (fun a => a.size ≤ maxLen) Tryd.underlying22 (by kernel_rfl) (by decide) (fun _ => rfl) (fun n cs x hx => el_strs n cs x hx) hv h
namespace groupUndone
set_option maxRecDepth 100000 in
theorem walk {H : Type} {enc : TypeId × Value → H} {d0 d3 : DataW H} {p0 p3 : List MemPlace} {base : Nat} {W : World}
    (v0 : Value) (k0 : DataW.Trod enc Tryd.prog W 0 (fun _ => true) true 22 v0 d0 p0) (ok0 : Value.okWide Tryd.prog W .any base 22 v0)
    (z0 : ∀ el sp, d0 = .slice el sp → (el.length + sp.length) * Tryd.prog.bytesOf 9 ≤ reachBytes)
    (a1 : Int) (w1 : (Lit.int .i64 a1).wf = true) (a2 : Int) (w2 : (Lit.int .i64 a2).wf = true)
    (v3 : Value) (k3 : DataW.Trod enc Tryd.prog W 0 (fun _ => true) true 22 v3 d3 p3) (ok3 : Value.okWide Tryd.prog W .any base 22 v3)
    (z3 : ∀ el sp, d3 = .slice el sp → (el.length + sp.length) * Tryd.prog.bytesOf 9 ≤ reachBytes) :
    Calls Tryd.prog 4 #[v0, .int .i64 a1, .int .i64 a2, v3] W fun e w' => e = .returned (.bool true) ∧ Below W.heap.size W w' := by
  obtain ⟨A0, n0, c0, l, rfl, hl, hnc0, hcm0, hf⟩ := open_prints ok0 k0
  obtain ⟨A3, n3, c3, l3, rfl, hl3, hnc3, hcm3, hf3⟩ := open_prints ok3 k3
  exact Bk.GroupUndone_any A0 n0 c0 l a1 a2 A3 n3 c3 l3 W (Nat.le_trans hnc0 hcm0) hnc0 (Nat.le_trans hnc3 hcm3) hl hf hl3 hf3
end groupUndone
end Go.Proofs.YtmogfmpcfdlpfaaDoor
