/- Small lemmas without a program, used by all texts of this seat. -/
import Derived.Handy
import Derived.WalkLawsBesides
import Derived.Lib.Hide
import Derived.WalkSpells
namespace Go.Proofs.YtnkccilgbhogbaaDoor
open Go.RowKit
theorem take_snoc (s : ByteArray) (k : Nat) (h : k < s.size) : s.data.toList.take (k + 1) = s.data.toList.take k ++ [s[k]] := by
  rw [List.take_succ_eq_append_getElem (by simpa using h)]; rfl
theorem take_all (s : ByteArray) (k : Nat) (h : ¬ k < s.size) : s.data.toList.take k = s.data.toList := List.take_of_length_le (by simp; omega)
theorem ret_int {k : IntKind} {a b : Int} (h : a = b) : Ending.returned (.int k a) = .returned (.int k b) := by rw [h]
theorem ret_bool {a b : Bool} (h : a = b) : Ending.returned (.bool a) = .returned (.bool b) := by rw [h]
theorem hide {p : Prop} (h : p) : Hid p := h
/-- A cell that is there stays, and stays writable, behind a new block; a store into it goes beneath that block. -/
theorem cell_keep (w : World) (a : Addr) (o : Obj) (h : (w.cell? a).isSome = true) : (w.alloc o).cell? a = w.cell? a := by
  obtain ⟨u, hu⟩ := Option.isSome_iff_exists.1 h
  exact World.cell?_alloc_lt _ _ _ (World.block_lt_of_cell? w a hu)
theorem frozen_keep (w : World) (a : Addr) (o : Obj) (h : (w.cell? a).isSome = true) : (w.alloc o).frozen? a = w.frozen? a := by
  obtain ⟨u, hu⟩ := Option.isSome_iff_exists.1 h
  exact World.frozen?_alloc_old _ _ _ (Nat.ne_of_lt (World.block_lt_of_cell? w a hu))
theorem setCell_keep (w : World) (n i : Nat) (v : Value) (o : Obj) (h : (w.cell? ⟨n, i, none⟩).isSome = true) : (w.alloc o).setCell ⟨n, i, none⟩ v = (w.setCell ⟨n, i, none⟩ v).alloc o := by
  obtain ⟨u, hu⟩ := Option.isSome_iff_exists.1 h
  exact World.setCell_alloc_past (w := w) _ _ _ _ (World.block_lt_of_cell? w _ hu)
attribute [go_sem] cell_keep frozen_keep setCell_keep
end Go.Proofs.YtnkccilgbhogbaaDoor
