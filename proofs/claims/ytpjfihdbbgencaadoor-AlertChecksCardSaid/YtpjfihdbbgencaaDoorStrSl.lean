/- slices.Contains over a row of strings. -/
import Derived.Test.YtpjfihdbbgencaaDoorMem
import Derived.Test.YtpjfihdbbgencaaDoorShelf
namespace Go.Proofs.YtpjfihdbbgencaaDoor
open Go.RowKit
theorem sl_strs {w : World} {B n b o : Nat} {l : List ByteArray} (hl : Sl w B cs 1 (some ⟨b, o, none⟩) n l) : ∀ j, j < l.length → w.cell? ⟨b, o + j, none⟩ = some (.string (l.getD j ByteArray.empty)) := by
  intro j hj
  obtain ⟨b', o', e, _, hc⟩ := hl.cells (by have := hl.len; omega)
  simp only [Option.some.injEq, Addr.mk.injEq] at e
  obtain ⟨rfl, rfl, _⟩ := e
  have h1 : l[j]? = some l[j] := List.getElem?_eq_getElem hj
  have := hc j l[j] h1 0 _ rfl
  simpa [h1] using this
theorem Contains_str (A : Option Addr) (n c : Nat) (l : List ByteArray) (x : ByteArray) (w : World) (hn : n ≤ maxLen) (hl : Sl w w.heap.size cs 1 A n l) :
    Calls Tryd.prog 32 #[.slice A n c, .string x] w fun e w' => e = .returned (.bool (Go.Lib.containsS l x)) ∧ w' = w := by
  unfold maxLen at hn
  have hln := hl.len
  by_cases h0 : n = 0
  · subst h0
    obtain rfl : l = [] := List.eq_nil_of_length_eq_zero hln
    exact Tryd.slices_Contains_string_empty A c x w
  · obtain ⟨b, o, rfl, _, _⟩ := hl.cells (by omega)
    have h := Tryd.slices_Contains_string b o n c l x w (by omega) hn (sl_strs hl)
    rwa [show l.take n = l from take_len l (by omega)] at h
end Go.Proofs.YtpjfihdbbgencaaDoor
