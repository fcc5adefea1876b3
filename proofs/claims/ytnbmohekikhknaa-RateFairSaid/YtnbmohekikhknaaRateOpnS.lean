/- The arguments of type []Share and []int, opened. -/
import Derived.Test.YtnbmohekikhknaaOpenSl
import Derived.Test.YtnbmohekikhknaaRateErr
import Derived.Lib.SmallJoins
import Derived.ProofKit
namespace Go.Proofs.Ytnbmohekikhknaa
open Go.RowKit Go.ChangeShapes Go.WideShapes Go.Joins
set_option maxRecDepth 100000 in
theorem el_share {H : Type} {enc : TypeId × Value → H} {w : World} {base : Nat} {spare : Nat → Bool} {held : Bool} (n : Nat) (cs : List Value) (x : DataW H × List MemPlace)
    (h : DataW.trod enc Try.prog w base spare held n 51 cs = some x) : ∃ a : Share, cs = a.cs ∧ a.key.size ≤ maxLen := by
  obtain ⟨y0, y1, m, rfl, hl, h0, h1⟩ := trod_struct2 Try.underlying51 h
  obtain ⟨c0, c1, rfl⟩ : ∃ c0 c1, cs = [c0, c1] := by
    have : cs.length = 2 := hl.trans (by kernel_rfl)
    match cs, this with
    | [c0, c1], _ => exact ⟨c0, c1, rfl⟩
  have k0 : Try.prog.cellsOf 9 = 1 := by kernel_rfl
  have k1 : Try.prog.cellsOf 3 = 1 := by kernel_rfl
  simp [k0, k1] at h0 h1
  obtain ⟨s, e, _, hs⟩ := DataW.trod_string Try.underlying9 h0
  obtain ⟨a, f, _, _⟩ := DataW.trod_int Try.underlying3 h1
  simp at e f
  exact ⟨⟨s, a⟩, by simp [e, f, Share.cs], hs⟩
theorem el_int {H : Type} {enc : TypeId × Value → H} {w : World} {base : Nat} {spare : Nat → Bool} {held : Bool} (n : Nat) (cs : List Value) (x : DataW H × List MemPlace)
    (h : DataW.trod enc Try.prog w base spare held n 3 cs = some x) : ∃ a : Int, cs = ci a ∧ True := by
  obtain ⟨a, e, _, _⟩ := DataW.trod_int Try.underlying3 h
  exact ⟨a, e, trivial⟩
set_option maxRecDepth 100000 in
theorem open_shares {H : Type} {enc : TypeId × Value → H} {w : World} {b0 : Nat} {v : Value} {d : DataW H} {p : List MemPlace} {r : Reach}
    (hv : Value.okWide Try.prog w r b0 46 v) (h : DataW.Trod enc Try.prog w 0 (fun _ => true) true 46 v d p) :
    ∃ (A : Option Addr) (n cap : Nat) (l : List Share), v = .slice A n cap ∧ Sl w w.heap.size Share.cs 2 A n l ∧ n ≤ cap ∧ cap ≤ maxLen ∧ ∀ a ∈ l, a.key.size ≤ maxLen :=
  open_sl Share.cs (fun a => a.key.size ≤ maxLen) Try.underlying46 (by kernel_rfl) (by decide) (fun _ => rfl) (fun n cs x hx => el_share n cs x hx) hv h
set_option maxRecDepth 100000 in
theorem open_ints {H : Type} {enc : TypeId × Value → H} {w : World} {b0 : Nat} {v : Value} {d : DataW H} {p : List MemPlace} {r : Reach}
    (hv : Value.okWide Try.prog w r b0 56 v) (h : DataW.Trod enc Try.prog w 0 (fun _ => true) true 56 v d p) :
    ∃ (A : Option Addr) (n cap : Nat) (l : List Int), v = .slice A n cap ∧ Sl w w.heap.size ci 1 A n l ∧ n ≤ cap ∧ cap ≤ maxLen ∧ ∀ a ∈ l, True :=
  open_sl ci (fun _ => True) Try.underlying56 (by kernel_rfl) (by decide) (fun _ => rfl) (fun n cs x hx => el_int n cs x hx) hv h
end Go.Proofs.Ytnbmohekikhknaa
