/- Walk of the reference's bytesIn. -/
import Derived.Test.YtnkccilgbhogbaaDoorBase
import Derived.Test.YtnkccilgbhogbaaDoorShelf
import Derived.Lib.IndexAny
namespace Go.Proofs.YtnkccilgbhogbaaDoor
open Go.RowKit
/-- What stands in the blocks below a call's own is as it was. -/
theorem bcell {W w1 : World} (hb : Below W.heap.size W w1) : (∀ b o, b < W.heap.size → w1.cell? ⟨b, o, none⟩ = W.cell? ⟨b, o, none⟩) ∧ (∀ b o, b < W.heap.size → w1.frozen? ⟨b, o, none⟩ = W.frozen? ⟨b, o, none⟩) :=
  ⟨fun b o h => hb.cell (p := ⟨b, o, none⟩) h, fun b o h => hb.frozen (p := ⟨b, o, none⟩) h⟩
theorem bthen {W w w1 : World} (hw : Below W.heap.size W w1) (h : Below w.heap.size w W) (hB : w.heap.size ≤ W.heap.size) : Below w.heap.size w w1 := h.trans (hw.mono hB)
def outsideB (n lo hi : Int) : Bool := decide (n < lo) || decide (hi < n)
theorem not_lt_bool (a b : Int) : (!decide (a < b)) = decide (b ≤ a) := by rw [← decide_not]; exact decide_eq_decide.2 (by omega)
theorem in_any (n lo hi : Int) (w : World) :
    Calls Tryd.prog 25 #[.int .i64 n, .int .i64 lo, .int .i64 hi] w fun e w' => e = .returned (.bool (!outsideB n lo hi)) ∧ w = w' := by
  go_enter Tryd.func25, Tryd.ntmps25
  go_wp2
  all_goals go_ret
  all_goals (exact ⟨ret_bool (by simp [outsideB, not_lt_bool, *]), rfl⟩)
theorem all_take_snoc (s : ByteArray) (p : UInt8 → Bool) (k : Nat) (h : k < s.size) : (s.data.toList.take (k + 1)).all p = ((s.data.toList.take k).all p && p s[k]) := by
  rw [take_snoc s k h]; simp
theorem all_take_false (s : ByteArray) (p : UInt8 → Bool) (k : Nat) (h : k < s.size) (hp : p s[k] = false) : s.data.toList.all p = false := by
  rw [List.all_eq_false]
  exact ⟨s[k], by rw [show s[k] = s.data.toList[k]'(by simpa using h) from rfl]; exact List.getElem_mem _, by simp [hp]⟩
/-- What bytesIn says. -/
def bytesInB (s : ByteArray) (low : Nat) (without : List UInt8) : Bool := s.data.toList.all fun c => decide (low ≤ c.toNat) && decide (c.toNat ≤ 126) && !without.contains c
theorem indexByte_neg (l : List UInt8) (c : UInt8) (h : l.contains c = false) : Lib.indexByte l c < 0 := by
  have := Lib.contains_iff_indexByte l c
  rw [h] at this
  simpa using this.symm
theorem indexByte_nonneg (l : List UInt8) (c : UInt8) (h : l.contains c = true) : 0 ≤ Lib.indexByte l c := by
  have := Lib.contains_iff_indexByte l c
  rw [h] at this
  simpa using this.symm
end Go.Proofs.YtnkccilgbhogbaaDoor
