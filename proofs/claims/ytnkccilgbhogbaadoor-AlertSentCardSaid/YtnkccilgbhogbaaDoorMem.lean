/- What a slice in memory reads as: a Lean list, each element laid out in a fixed number of cells. No program. -/
import Derived.Test.YtnkccilgbhogbaaDoorBase
import Derived.Laws.OwnMore
import Derived.Deep.Draws
namespace Go.Proofs.YtnkccilgbhogbaaDoor
open Go.RowKit
/-- The slice value with address A and length n reads, in w and below block B, as the list l; element a takes the cells `f a` (sz of them). -/
structure Sl {α : Type} (w : World) (B : Nat) (f : α → List Value) (sz : Nat) (A : Option Addr) (n : Nat) (l : List α) : Prop where
  len : l.length = n
  cells : 0 < n → ∃ b o, A = some ⟨b, o, none⟩ ∧ b < B ∧ ∀ i a, l[i]? = some a → ∀ j v, (f a)[j]? = some v → w.cell? ⟨b, o + i * sz + j, none⟩ = some v
section
variable {α : Type} {w w' : World} {B B' sz n : Nat} {f : α → List Value} {A : Option Addr} {l : List α}
theorem Sl.nil (w : World) (B : Nat) (f : α → List Value) (sz : Nat) (A : Option Addr) : Sl w B f sz A 0 [] := ⟨rfl, fun h => absurd h (by omega)⟩
theorem Sl.below (h : Sl w B f sz A n l) (hb : Below B w w') : Sl w' B f sz A n l := by
  refine ⟨h.len, fun hn => ?_⟩
  obtain ⟨b, o, e, hlt, hc⟩ := h.cells hn
  exact ⟨b, o, e, hlt, fun i a ha j v hv => (hb.cell (p := ⟨b, o + i * sz + j, none⟩) hlt).trans (hc i a ha j v hv)⟩
theorem Sl.more (h : Sl w B f sz A n l) (hB : B ≤ B') : Sl w B' f sz A n l := by
  refine ⟨h.len, fun hn => ?_⟩
  obtain ⟨b, o, e, hlt, hc⟩ := h.cells hn
  exact ⟨b, o, e, by omega, hc⟩
/-- Element k of a list that has one, and where its cells lie. -/
theorem Sl.at_ (h : Sl w B f sz A n l) {k : Nat} (hk : k < n) :
    ∃ b o a, A = some ⟨b, o, none⟩ ∧ b < B ∧ l[k]? = some a ∧ ∀ j v, (f a)[j]? = some v → w.cell? ⟨b, o + k * sz + j, none⟩ = some v := by
  obtain ⟨b, o, e, hlt, hc⟩ := h.cells (by omega)
  have hl : k < l.length := by have := h.len; omega
  exact ⟨b, o, l[k], e, hlt, List.getElem?_eq_getElem hl, hc k _ (List.getElem?_eq_getElem hl)⟩
end
/-- The cells of an integer. -/
def ci (n : Int) : List Value := [.int .i64 n]
/-- The cells of a string. -/
def cs (s : ByteArray) : List Value := [.string s]
theorem take_succ_get {α : Type} {l : List α} {k : Nat} {a : α} (h : l[k]? = some a) : l.take (k + 1) = l.take k ++ [a] := by
  have hk : k < l.length := (List.getElem?_eq_some_iff.1 h).1
  rw [List.take_succ_eq_append_getElem hk]
  congr 1
  rw [List.getElem?_eq_getElem hk] at h
  simpa using h
theorem take_len {α : Type} (l : List α) {k : Nat} (h : l.length ≤ k) : l.take k = l := List.take_of_length_le h
end Go.Proofs.YtnkccilgbhogbaaDoor
