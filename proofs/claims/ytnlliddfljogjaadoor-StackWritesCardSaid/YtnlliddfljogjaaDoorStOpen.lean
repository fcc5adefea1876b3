/- The arguments of type []Frame and []Run, opened. -/
import Derived.Test.YtnlliddfljogjaaDoorOpenSl
import Derived.Test.YtnlliddfljogjaaDoorStFrame
import Derived.Lib.SmallJoins
import Derived.ProofKit
import Derived.Deep.Strs
namespace Go.Proofs.YtnlliddfljogjaaDoor
open Go.RowKit Go.ChangeShapes Go.WideShapes Go.Joins Go.Deep
theorem k_string : Tryd.prog.cellsOf 9 = 1 := by kernel_rfl
theorem k_int : Tryd.prog.cellsOf 3 = 1 := by kernel_rfl
theorem k_bool : Tryd.prog.cellsOf 4 = 1 := by kernel_rfl
set_option maxRecDepth 100000 in
theorem el_frame {H : Type} {enc : TypeId × Value → H} {w : World} {base : Nat} {spare : Nat → Bool} {held : Bool} (n : Nat) (cs : List Value) (x : DataW H × List MemPlace)
    (h : DataW.trod enc Tryd.prog w base spare held n 35 cs = some x) : ∃ a : Frame, cs = a.cs ∧ a.fit := by
  obtain ⟨ys, m, _, rfl, hl, hlen, hf⟩ := DataW.trod_struct Tryd.underlying35 h
  obtain ⟨c0, c1, c2, c3, c4, c5, rfl⟩ : ∃ c0 c1 c2 c3 c4 c5, cs = [c0, c1, c2, c3, c4, c5] := by
    have : cs.length = 6 := hl.trans (by kernel_rfl)
    match cs, this with
    | [c0, c1, c2, c3, c4, c5], _ => exact ⟨c0, c1, c2, c3, c4, c5, rfl⟩
  match ys, hlen with
  | [y0, y1, y2, y3, y4, y5], _ =>
    have h0 := hf 0 _ rfl
    have h1 := hf 1 _ rfl
    have h2 := hf 2 _ rfl
    have h3 := hf 3 _ rfl
    have h4 := hf 4 _ rfl
    have h5 := hf 5 _ rfl
    simp [k_int, k_string, k_bool] at h0 h1 h2 h3 h4 h5
    obtain ⟨a, e0, _, s0⟩ := DataW.trod_string Tryd.underlying9 h0
    obtain ⟨b, e1, _, s1⟩ := DataW.trod_string Tryd.underlying9 h1
    obtain ⟨c, e2, _, s2⟩ := DataW.trod_string Tryd.underlying9 h2
    obtain ⟨d, e3, _, _⟩ := DataW.trod_int Tryd.underlying3 h3
    obtain ⟨f, e4, _, _⟩ := DataW.trod_int Tryd.underlying3 h4
    obtain ⟨g, e5, _⟩ := DataW.trod_bool Tryd.underlying4 h5
    simp at e0 e1 e2 e3 e4 e5
    exact ⟨⟨a, b, c, d, f, g⟩, by simp [e0, e1, e2, e3, e4, e5, Frame.cs], s0, s1, s2⟩
set_option maxRecDepth 100000 in
theorem open_frames {H : Type} {enc : TypeId × Value → H} {w : World} {b0 : Nat} {v : Value} {d : DataW H} {p : List MemPlace} {r : Reach}
    (hv : Value.okWide Tryd.prog w r b0 31 v) (h : DataW.Trod enc Tryd.prog w 0 (fun _ => true) true 31 v d p) :
    ∃ (A : Option Addr) (n cap : Nat) (l : List Frame), v = .slice A n cap ∧ Sl w w.heap.size Frame.cs 6 A n l ∧ n ≤ cap ∧ cap ≤ maxLen ∧ ∀ a ∈ l, a.fit :=
  open_sl Frame.cs (fun a => a.fit) Tryd.underlying31 (by kernel_rfl) (by decide) (fun _ => rfl) (fun n cs x hx => el_frame n cs x hx) hv h
end Go.Proofs.YtnlliddfljogjaaDoor
