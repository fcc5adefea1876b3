/- Lines gathered in a list of strings, and the first loops of the reference's Written (printed by gen_wt.py). -/
import Derived.Test.YtnlliddfljogjaaDoorStWrite
namespace Go.Proofs.YtnlliddfljogjaaDoor
open Go.RowKit
set_option linter.unusedVariables false
def linesL (ws : List ByteArray) : List UInt8 := ws.flatMap fun s => s.data.toList ++ [10]
theorem lines_snoc (ws : List ByteArray) (s : ByteArray) : linesL (ws ++ [s]) = linesL ws ++ (s.data.toList ++ [10]) := by simp [linesL]
theorem lines_two (ws : List ByteArray) (s t : ByteArray) : linesL (ws ++ [s, t]) = linesL ws ++ (s.data.toList ++ [10] ++ t.data.toList ++ [10]) := by simp [linesL]
theorem lines_len (ws : List ByteArray) : ws.length ≤ (linesL ws).length := by
  induction ws with
  | nil => simp [linesL]
  | cons s ws ih =>
    have : linesL (s :: ws) = (s.data.toList ++ [10]) ++ linesL ws := by simp [linesL]
    rw [this, List.length_append, List.length_append, List.length_cons, List.length_singleton]
    omega
theorem sumL_lines (ws : List ByteArray) : sumL ws ≤ (linesL ws).length := by
  induction ws with
  | nil => simp [linesL, sumL]
  | cons s ws ih =>
    have h1 : linesL (s :: ws) = (s.data.toList ++ [10]) ++ linesL ws := by simp [linesL]
    have h2 : sumL (s :: ws) = s.size + sumL ws := by simp [sumL]
    rw [h1, h2, List.length_append, List.length_append, ← size_of rfl, List.length_singleton]
    omega
theorem join_tail (ws : List ByteArray) : ((ws ++ [(⟨#[]⟩ : ByteArray)]).flatMap fun y => 10 :: y.data.toList) = 10 :: linesL ws := by
  induction ws with
  | nil => simp [linesL]
  | cons s ws ih =>
    rw [List.cons_append, List.flatMap_cons, ih]
    have : linesL (s :: ws) = (s.data.toList ++ [10]) ++ linesL ws := by simp [linesL]
    rw [this]; simp
theorem join_lines (ws : List ByteArray) : joinL 10 (ws ++ [⟨#[]⟩]) = linesL ws := by
  cases ws with
  | nil => simp [joinL, linesL]
  | cons s ws =>
    rw [List.cons_append, joinL, join_tail]
    simp [linesL]
theorem push_out {B : Nat} {S : TypeId} {w0 wp w1 : World} {v v1 : Value} {ws : List ByteArray} {s : ByteArray} {o : Obj} (HB : Below B w0 wp) (hB : B ≤ wp.heap.size) (HO : wp.ownsRow B S 1 v ws.length (ws.flatMap cs))
    (hg : (wp.alloc o).grownBy w1 v.ownBlock) (hown : w1.ownsRow B S 1 v1 (ws.length + 1) (ws.flatMap cs ++ [.string s])) : Below B w0 w1 ∧ w1.ownsRow B S 1 v1 (ws ++ [s]).length ((ws ++ [s]).flatMap cs) :=
  ⟨(HB.alloc hB o).grown hg (by simp; omega) (fun j hj => (HO.lt j hj).1), by simpa [cs] using hown⟩
theorem push_out2 {B : Nat} {S : TypeId} {w0 wp w1 : World} {v v1 : Value} {ws : List ByteArray} {s t : ByteArray} {o : Obj} (HB : Below B w0 wp) (hB : B ≤ wp.heap.size) (HO : wp.ownsRow B S 1 v ws.length (ws.flatMap cs))
    (hg : (wp.alloc o).grownBy w1 v.ownBlock) (hown : w1.ownsRow B S 1 v1 (ws.length + 2) (ws.flatMap cs ++ [.string s, .string t])) : Below B w0 w1 ∧ w1.ownsRow B S 1 v1 (ws ++ [s, t]).length ((ws ++ [s, t]).flatMap cs) :=
  ⟨(HB.alloc hB o).grown hg (by simp; omega) (fun j hj => (HO.lt j hj).1), by simpa [cs] using hown⟩
theorem push_keep {B b : Nat} {S ty : TypeId} {wp w1 : World} {v : Value} {n : Nat} {xs : List Value} {c : Array Value} {o : Obj} (HO : wp.ownsRow B S 1 v n xs) (hb : wp.heap[b]? = some (.cells c ty (0, 0))) (hne : S ≠ ty)
    (hg : (wp.alloc o).grownBy w1 v.ownBlock) : w1.heap[b]? = some (.cells c ty (0, 0)) :=
  (hg.block b (lt_of_block (block_below hb ((Below.refl _ _).alloc (Nat.le_refl _) o))) (fun e => own_other' HO hb hne e.symm)).trans (block_below hb ((Below.refl _ _).alloc (Nat.le_refl _) o))
/-- What stays in the worlds that a call leaves: the row of lines, what lies below B, a block. -/
structure OutAt (B : Nat) (v : Value) (ws : List ByteArray) (w0 : World) (g : Nat) (o : Obj) (w : World) : Prop where
  own : w.ownsRow B 9 1 v ws.length (ws.flatMap cs)
  be : Below B w0 w
  bx : w.heap[g]? = some o
theorem OutAt.below {B g : Nat} {v : Value} {ws : List ByteArray} {w0 w w' : World} {o : Obj} (h : OutAt B v ws w0 g o w) (hB : B ≤ w0.heap.size) (hw : Below w.heap.size w w') : OutAt B v ws w0 g o w' :=
  ⟨own_below h.own hw, h.be.trans (hw.mono (Nat.le_trans hB h.be.size)), block_below h.bx hw⟩
theorem ofam {B g : Nat} {v : Value} {ws : List ByteArray} {w0 w : World} {o : Obj} (h : OutAt B v ws w0 g o w) (hB : B ≤ w0.heap.size) : ∃ (I : Type) (F : I → World),
    (∃ i, w.drew = F i) ∧ (∀ i, OutAt B v ws w0 g o (F i)) ∧ ∀ i w', Below (F i).heap.size (F i) w' → ∃ j, w' = F j :=
  ⟨{ w' : World // OutAt B v ws w0 g o w' }, Subtype.val, ⟨⟨w.drew, h.below hB ((Below.refl _ _).drew)⟩, rfl⟩, fun i => i.2, fun i w' hw => ⟨⟨w', i.2.below hB hw⟩, rfl⟩⟩
theorem bang_app (x : Frame) : bangS (x.mod ++ x.fn) = bangX x := by
  unfold bangS bangX
  rw [ByteArray.data_append, Array.toList_append, Bool.or_comm]
  rw [Bool.eq_iff_iff]
  simp
end Go.Proofs.YtnlliddfljogjaaDoor
