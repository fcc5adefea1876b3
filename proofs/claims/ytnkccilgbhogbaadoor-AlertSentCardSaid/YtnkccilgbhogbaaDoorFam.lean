/- A region that draws its order, whose operations read and whose calls make memory of their own: one walk of the text's order, over all worlds that hold the same listed cells. -/
import Derived.Test.YtnkccilgbhogbaaDoorBase
import Derived.RegionTactic
import Derived.BigRegion
import Derived.Deep.QuietTactic
import Derived.BigQuiet
import Derived.Deep.DeepCutAuto
import Derived.Deep.RegionWith
namespace Go.Proofs.YtnkccilgbhogbaaDoor
open Go.RowKit
/-- The listed cells hold the listed values. -/
def Cells (L : List (Addr × Value)) (w : World) : Prop := ∀ p ∈ L, w.cell? p.1 = some p.2
theorem Cells.nil (w : World) : Cells [] w := fun p hp => by cases hp
theorem Cells.cons {a : Addr} {v : Value} {L : List (Addr × Value)} {w : World} (h : w.cell? a = some v) (hL : Cells L w) : Cells ((a, v) :: L) w := fun p hp => by
  rcases List.mem_cons.1 hp with rfl | hp
  · exact h
  · exact hL p hp
theorem Cells.below {L : List (Addr × Value)} {w w' : World} (h : Cells L w) (hb : Below w.heap.size w w') : Cells L w' := fun p hp =>
  (hb.cell (World.block_lt_of_cell? w p.1 (h p hp))).trans (h p hp)
theorem Cells.head {a : Addr} {v : Value} {L : List (Addr × Value)} {w : World} (h : Cells ((a, v) :: L) w) : w.cell? a = some v := h (a, v) (List.mem_cons_self ..)
theorem Cells.tail {a : Addr} {v : Value} {L : List (Addr × Value)} {w : World} (h : Cells ((a, v) :: L) w) : Cells L w := fun p hp => h p (List.mem_cons_of_mem _ hp)
theorem below_drewN {B : Nat} {a w : World} (h : Below B a w) (n : Nat) : Below B a (w.drewN n) := ⟨h.os, h.tape, h.output, h.size, h.block⟩
/-- The worlds that hold the listed cells and are, below w0's end, as w0 was: a family that calls do not leave. -/
theorem fam (L : List (Addr × Value)) (w0 w : World) (hL : Cells L w) (hB : Below w0.heap.size w0 w) : ∃ (I : Type) (F : I → World),
    (∃ i, w.drew = F i) ∧ (∀ i, Cells L (F i)) ∧ (∀ i, Below w0.heap.size w0 (F i)) ∧ ∀ i w', Below (F i).heap.size (F i) w' → ∃ j, w' = F j :=
  ⟨{ w' : World // Cells L w' ∧ Below w0.heap.size w0 w' }, Subtype.val, ⟨⟨w.drew, hL, hB.drew⟩, rfl⟩, fun i => i.2.1, fun i => i.2.2,
    fun i w' h => ⟨⟨w', i.2.1.below h, i.2.2.trans (h.mono i.2.2.size)⟩, rfl⟩⟩
theorem wp_region_fam {P : Program} {I : Type} (F : I → World) {id : Nat} {Q : Exit → Act → World → Prop} {a : Act} {w : World} {l : List Oper} (hi : ∃ i, w.drew = F i)
    (hm : P.follows .mixedOrders = true) (hB : Region.lexB .any l.toArray = true)
    (h : wpQuiet P l.toArray (fun w' => ∃ i, w' = F i) (fun a' => ∀ w', (∃ i, w' = F i) → Q .normal a' w') l a) : (Code.region id l.toArray true).wp P Q a w :=
  wp_region_quiet (C := fun w' => ∃ i, w' = F i) hm hB hi (by simpa using h)
end Go.Proofs.YtnkccilgbhogbaaDoor
