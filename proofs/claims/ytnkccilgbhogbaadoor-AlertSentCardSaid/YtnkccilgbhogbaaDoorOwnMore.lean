/- Owned rows and blocks of one's own, while other things happen. No program. -/
import Derived.Test.YtnkccilgbhogbaaDoorOwn
import Derived.Test.YtnkccilgbhogbaaDoorSlDrop
import Derived.OneCell
namespace Go.Proofs.YtnkccilgbhogbaaDoor
open Go.RowKit
section
variable {w w' : World} {base sz n : Nat} {e : TypeId} {v : Value} {xs : List Value}
theorem own_below (h : w.ownsRow base e sz v n xs) (hB : Below w.heap.size w w') : w'.ownsRow base e sz v n xs := by
  refine ⟨h.1, ?_⟩
  rcases h.2 with h0 | ⟨g, cap, cur, h1, h2, h3, h4⟩
  · exact .inl h0
  · exact .inr ⟨g, cap, cur, h1, h2, (hB.block g (lt_of_block h3)).trans h3, h4⟩
theorem block_below {b : Nat} {o : Obj} (h : w.heap[b]? = some o) (hB : Below w.heap.size w w') : w'.heap[b]? = some o := (hB.block b (lt_of_block h)).trans h
theorem own_other' {B : Nat} {cs : Array Value} {ty : TypeId} {fr : Nat × Nat} (h : w.ownsRow base e sz v n xs) (hb : w.heap[B]? = some (.cells cs ty fr)) (hne : e ≠ ty) : v.ownBlock ≠ some B := by
  rcases h.2 with ⟨rfl, _⟩ | ⟨g, cap, cur, rfl, _, hh, _⟩
  · simp [Value.ownBlock]
  · intro e
    simp [Value.ownBlock] at e
    subst e
    rw [hh] at hb
    simp at hb
    exact hne hb.2.1
/-- An owned row does not lie in a block that was not there when the row was. -/
theorem own_before {B : Nat} (h : w.ownsRow base e sz v n xs) (hB : w.heap.size ≤ B) : v.ownBlock ≠ some B := fun e => by have := (h.lt B e).2; omega
theorem block_cell {b : Nat} {cs : Array Value} {ty : TypeId} {fr : Nat × Nat} (h : w.heap[b]? = some (.cells cs ty fr)) (i : Nat) : w.cell? ⟨b, i, none⟩ = cs[i]? := by simp [World.cell?, h]
theorem block_free {b : Nat} {cs : Array Value} {ty : TypeId} (h : w.heap[b]? = some (.cells cs ty (0, 0))) (i : Nat) : w.frozen? ⟨b, i, none⟩ = false := by simp [World.frozen?, h]
theorem block_set {b i : Nat} {cs : Array Value} {ty : TypeId} {fr : Nat × Nat} (h : w.heap[b]? = some (.cells cs ty fr)) (u : Value) : (w.setCell ⟨b, i, none⟩ u).heap[b]? = some (.cells (cs.setIfInBounds i u) ty fr) := by
  simp [World.setCell, Array.getElem?_modify, h]
theorem block_set_other {b : Nat} {o : Obj} (h : w.heap[b]? = some o) (a : Addr) (u : Value) (hne : b ≠ a.block) : (w.setCell a u).heap[b]? = some o := (heap_setCell_other w a b u hne).trans h
end
theorem below_set {B : Nat} {a w : World} (h : Below B a w) {b i : Nat} (hb : B ≤ b) (u : Value) : Below B a (w.setCell ⟨b, i, none⟩ u) := h.setCell hb u
end Go.Proofs.YtnkccilgbhogbaaDoor
