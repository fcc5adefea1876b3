/- A slice's rest, and its beginning, as lists. No program. -/
import Derived.Test.YtnkccilgbhogbaaDoorMem
namespace Go.Proofs.YtnkccilgbhogbaaDoor
open Go.RowKit
section
variable {α : Type} {w w' : World} {B sz n i : Nat} {f : α → List Value} {l : List α}
theorem Sl.drop {b o : Nat} (h : Sl w B f sz (some ⟨b, o, none⟩) n l) (hi : i ≤ n) : Sl w B f sz (some ⟨b, o + i * sz, none⟩) (n - i) (l.drop i) := by
  refine ⟨by rw [List.length_drop, h.len], fun h0 => ?_⟩
  obtain ⟨b', o', e, hlt, hc⟩ := h.cells (by omega)
  simp only [Option.some.injEq, Addr.mk.injEq] at e
  obtain ⟨rfl, rfl, _⟩ := e
  refine ⟨b, o + i * sz, rfl, hlt, fun k a ha j v hv => ?_⟩
  have := hc (i + k) a (by rw [List.getElem?_drop] at ha; exact ha) j v hv
  rwa [show o + (i + k) * sz + j = o + i * sz + k * sz + j by rw [Nat.add_mul]; omega] at this
theorem Sl.first {A : Option Addr} (h : Sl w B f sz A n l) (hi : i ≤ n) : Sl w B f sz A i (l.take i) := by
  refine ⟨by rw [List.length_take, h.len]; omega, fun h0 => ?_⟩
  obtain ⟨b, o, e, hlt, hc⟩ := h.cells (by omega)
  refine ⟨b, o, e, hlt, fun k a ha j v hv => hc k a ?_ j v hv⟩
  rw [List.getElem?_take] at ha
  split at ha
  · exact ha
  · cases ha
theorem Sl.up {A : Option Addr} (h : Sl w w.heap.size f sz A n l) (hb : Below w.heap.size w w') : Sl w' w'.heap.size f sz A n l := (h.below hb).more hb.size
theorem flatMap_at (hf : ∀ a, (f a).length = sz) : ∀ (l : List α) (j : Nat) (u : Value), (l.flatMap f)[j]? = some u → ∃ i a r, j = i * sz + r ∧ l[i]? = some a ∧ (f a)[r]? = some u := by
  intro l
  induction l with
  | nil => intro j u h; simp at h
  | cons x l ih =>
    intro j u h
    rw [List.flatMap_cons] at h
    by_cases hj : j < (f x).length
    · rw [List.getElem?_append_left hj] at h
      exact ⟨0, x, j, by omega, rfl, h⟩
    · rw [List.getElem?_append_right (by omega)] at h
      obtain ⟨i, a, r, h1, h2, h3⟩ := ih _ _ h
      refine ⟨i + 1, a, r, ?_, by simpa using h2, h3⟩
      have := hf x
      rw [Nat.succ_mul]
      omega
/-- A slice's cells in a row, as an append's source wants them. -/
theorem Sl.news {b o : Nat} (hf : ∀ a, (f a).length = sz) (h : Sl w B f sz (some ⟨b, o, none⟩) n l) : ∀ j u, (l.flatMap f)[j]? = some u → w.cell? ((⟨b, o, none⟩ : Addr).add j) = some u := by
  intro j u hu
  obtain ⟨i, a, r, rfl, ha, hr⟩ := flatMap_at hf l j u hu
  have hi : i < l.length := (List.getElem?_eq_some_iff.1 ha).1
  obtain ⟨b', o', e, hlt, hc⟩ := h.cells (by have := h.len; omega)
  simp only [Option.some.injEq, Addr.mk.injEq] at e
  obtain ⟨rfl, rfl, _⟩ := e
  have e2 : ((⟨b, o, none⟩ : Addr).add (i * sz + r)) = ⟨b, o + i * sz + r, none⟩ := by
    unfold Addr.add; split
    · rename_i e; rw [Nat.add_assoc, e]; rfl
    · simp; omega
  rw [e2]
  exact hc i a ha r u hr
theorem flatMap_len (hf : ∀ a, (f a).length = sz) (l : List α) : (l.flatMap f).length = l.length * sz := by
  induction l with
  | nil => simp
  | cons x l ih => rw [List.flatMap_cons, List.length_append, ih, hf, List.length_cons, Nat.succ_mul]; omega
end
end Go.Proofs.YtnkccilgbhogbaaDoor
