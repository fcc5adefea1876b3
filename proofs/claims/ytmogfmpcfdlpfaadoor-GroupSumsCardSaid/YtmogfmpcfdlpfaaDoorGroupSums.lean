/- The law GroupSums: its arguments opened. -/
import Derived.Test.YtmogfmpcfdlpfaaDoorGsW
import Derived.Test.YtmogfmpcfdlpfaaDoorOpenSl
import Derived.Test.YtmogfmpcfdlpfaaDoorRows
import Derived.Laws.IdiomArrays
import Derived.LaidMore
import Derived.Lib.SmallJoins
import Derived.ProofKit
import Derived.Deep.Strs
namespace Go.Proofs.YtmogfmpcfdlpfaaDoor.Bk
open Go.RowKit Go.ChangeShapes Go.WideShapes Go.Joins Go.Deep
set_option linter.unusedVariables false
theorem el_strs2 {H : Type} {enc : TypeId × Value → H} {w : World} (n : Nat) (cs : List Value) (x : DataW H × List MemPlace)
    (h : DataW.trod enc Tryd.prog w 0 (fun _ => true) true n 9 cs = some x) : ∃ a : ByteArray, cs = sb2 a ∧ a.size ≤ maxLen := by
  obtain ⟨a, e, _, hs⟩ := DataW.trod_string Tryd.underlying9 h
  exact ⟨a, e, hs⟩
set_option maxRecDepth 100000 in
theorem open_prints2 {H : Type} {enc : TypeId × Value → H} {w : World} {b0 : Nat} {v : Value} {d : DataW H} {p : List MemPlace} {r : Reach}
    (hv : Value.okWide Tryd.prog w r b0 22 v) (h : DataW.Trod enc Tryd.prog w 0 (fun _ => true) true 22 v d p) :
    ∃ (A : Option Addr) (n cap : Nat) (l : List ByteArray), v = .slice A n cap ∧ Sl w w.heap.size sb2 1 A n l ∧ n ≤ cap ∧ cap ≤ maxLen ∧ ∀ a ∈ l, a.size ≤ maxLen :=
  open_sl sb2 (fun a => a.size ≤ maxLen) Tryd.underlying22 (by kernel_rfl) (by decide) (fun _ => rfl) (fun n cs x hx => el_strs2 n cs x hx) hv h
theorem el_t3 {H : Type} {enc : TypeId × Value → H} {w : World} (n : Nat) (cs : List Value) (x : DataW H × List MemPlace)
    (h : DataW.trod enc Tryd.prog w 0 (fun _ => true) true n 30 cs = some x) : ∃ a : T3, cs = T3.cs a ∧ True := by
  have hl : cs.length = 3 := by
    obtain ⟨_, _, _, _, hl, _⟩ := DataW.trod_array Tryd.underlying30 h
    exact hl.trans (by kernel_rfl)
  match cs, hl with
  | [c0, c1, c2], _ =>
    obtain ⟨y0, y1, y2, m, _, h0, h1, h2⟩ := trod_array3 Tryd.underlying30 (by kernel_rfl) h
    obtain ⟨a, e0, _, _⟩ := DataW.trod_int Tryd.underlying3 h0
    obtain ⟨b, e1, _, _⟩ := DataW.trod_int Tryd.underlying3 h1
    obtain ⟨c, e2, _, _⟩ := DataW.trod_int Tryd.underlying3 h2
    simp at e0 e1 e2
    exact ⟨⟨a, b, c⟩, by simp [e0, e1, e2, T3.cs], trivial⟩
set_option maxRecDepth 100000 in
theorem open_t3 {H : Type} {enc : TypeId × Value → H} {w : World} {b0 : Nat} {v : Value} {d : DataW H} {p : List MemPlace} {r : Reach}
    (hv : Value.okWide Tryd.prog w r b0 23 v) (h : DataW.Trod enc Tryd.prog w 0 (fun _ => true) true 23 v d p) :
    ∃ (A : Option Addr) (n cap : Nat) (l : List T3), v = .slice A n cap ∧ Sl w w.heap.size T3.cs 3 A n l ∧ n ≤ cap ∧ cap ≤ maxLen ∧ ∀ a ∈ l, True :=
  open_sl T3.cs (fun _ => True) Tryd.underlying23 (by kernel_rfl) (by decide) (fun _ => rfl) (fun n cs x hx => el_t3 n cs x hx) hv h
end Go.Proofs.YtmogfmpcfdlpfaaDoor.Bk
namespace Go.Proofs.YtmogfmpcfdlpfaaDoor.groupSums
open Go.RowKit Go.ChangeShapes Go.WideShapes Go.Joins Go.Deep
set_option linter.unusedVariables false
set_option maxRecDepth 100000 in
theorem walk {H : Type} {enc : TypeId × Value → H} {d0 d1 : DataW H} {p0 p1 : List MemPlace} {base : Nat} {W : World}
    (v0 : Value) (k0 : DataW.Trod enc Tryd.prog W 0 (fun _ => true) true 22 v0 d0 p0) (ok0 : Value.okWide Tryd.prog W .any base 22 v0)
    (z0 : ∀ el sp, d0 = .slice el sp → (el.length + sp.length) * Tryd.prog.bytesOf 9 ≤ reachBytes)
    (v1 : Value) (k1 : DataW.Trod enc Tryd.prog W 0 (fun _ => true) true 23 v1 d1 p1) (ok1 : Value.okWide Tryd.prog W .any base 23 v1)
    (z1 : ∀ el sp, d1 = .slice el sp → (el.length + sp.length) * Tryd.prog.bytesOf 30 ≤ reachBytes) :
    Calls Tryd.prog 3 #[v0, v1] W fun e w' => e = .returned (.bool true) ∧ Below W.heap.size W w' := by
  obtain ⟨A0, n0, c0, l, rfl, hl, hnc0, hcm0, hf⟩ := Bk.open_prints2 ok0 k0
  obtain ⟨A1, n1, c1, l1, rfl, hl1, hnc1, hcm1, _⟩ := Bk.open_t3 ok1 k1
  exact Bk.GroupSums_any A0 n0 c0 l A1 n1 c1 l1 W (Nat.le_trans hnc0 hcm0) hnc0 (Nat.le_trans hnc1 hcm1) hnc1 hl hf hl1
end Go.Proofs.YtmogfmpcfdlpfaaDoor.groupSums
