/- The reference's mangler in memory: its list of types is a row of its own. -/
import Derived.Test.YtmloohicgdemfaaDoorNmRfI
import Derived.Test.YtmloohicgdemfaaDoorNmMgH
import Derived.Test.YtmloohicgdemfaaDoorRowSet
namespace Go.Proofs.YtmloohicgdemfaaDoor
open Go.RowKit
set_option linter.unusedVariables false
set_option linter.unusedSimpArgs false
theorem tyin_len {w : World} {B k : Nat} {t : Ty} {cs : List Value} (h : TyIn w B k t cs) : cs.length = 3 := by
  cases k with
  | zero => exact h.elim
  | succ k =>
    obtain ⟨A, n, c, A', n', c', rfl, _⟩ := h
    rfl
/-- Rows of types: the cells, one behind the other. -/
structure Rows3 (w : World) (B k : Nat) (d : List Ty) (css : List (List Value)) : Prop where
  len : css.length = d.length
  in_ : ∀ (i : Nat) (t : Ty) (cs : List Value), d[i]? = some t → css[i]? = some cs → TyIn w B k t cs
theorem Rows3.nil (w : World) (B k : Nat) : Rows3 w B k [] [] := ⟨rfl, fun i t cs h => by simp at h⟩
theorem Rows3.all3 {w : World} {B k : Nat} {d : List Ty} {css : List (List Value)} (h : Rows3 w B k d css) : ∀ cs ∈ css, cs.length = 3 := fun cs hcs => by
  obtain ⟨i, hi, rfl⟩ := List.mem_iff_getElem.1 hcs
  exact tyin_len (h.in_ i _ _ (List.getElem?_eq_getElem (by rw [← h.len]; exact hi)) (List.getElem?_eq_getElem hi))
theorem Rows3.below {w w' : World} {B k : Nat} {d : List Ty} {css : List (List Value)} (h : Rows3 w B k d css) (hb : Below B w w') : Rows3 w' B k d css := ⟨h.len, fun i t cs h1 h2 => (h.in_ i t cs h1 h2).below hb⟩
theorem Rows3.snoc {w : World} {B k : Nat} {d : List Ty} {css : List (List Value)} (h : Rows3 w B k d css) {t : Ty} {cs : List Value} (ht : TyIn w B k t cs) : Rows3 w B k (d ++ [t]) (css ++ [cs]) := by
  refine ⟨by simp [h.len], fun i x c h1 h2 => ?_⟩
  by_cases hi : i < d.length
  · rw [List.getElem?_append_left hi] at h1
    rw [List.getElem?_append_left (by rw [h.len]; exact hi)] at h2
    exact h.in_ i x c h1 h2
  · by_cases e : i = d.length
    · subst e
      simp at h1
      rw [List.getElem?_append_right (by rw [h.len]; exact Nat.le_refl _), h.len] at h2
      simp at h2
      subst h1 h2
      exact ht
    · rw [List.getElem?_eq_none (by simp; omega)] at h1; cases h1
theorem flat3_get : ∀ (css : List (List Value)), (∀ cs ∈ css, cs.length = 3) → ∀ (i j : Nat) (cs : List Value) (v : Value), css[i]? = some cs → cs[j]? = some v → css.flatten[i * 3 + j]? = some v
  | [], _, i, j, cs, v, h, _ => by simp at h
  | c :: css, hl, 0, j, cs, v, h, hv => by
    simp at h
    subst h
    have hj := (List.getElem?_eq_some_iff.1 hv).1
    rw [List.flatten_cons, List.getElem?_append_left (by omega)]
    simpa using hv
  | c :: css, hl, i + 1, j, cs, v, h, hv => by
    have h3 := hl c (by simp)
    rw [List.flatten_cons, List.getElem?_append_right (by omega), h3, show (i + 1) * 3 + j - 3 = i * 3 + j by omega]
    exact flat3_get css (fun x hx => hl x (by simp [hx])) i j cs v (by simpa using h) hv
theorem flat3_len : ∀ (css : List (List Value)), (∀ cs ∈ css, cs.length = 3) → css.flatten.length = css.length * 3
  | [], _ => rfl
  | c :: css, hl => by
    rw [List.flatten_cons, List.length_append, hl c (by simp), flat3_len css (fun x hx => hl x (by simp [hx])), List.length_cons]
    omega
/-- The mangler of the reference in block r. -/
structure RgS (B r k : Nat) (d : List Ty) (w : World) : Prop where
  st : ∃ (v : Value) (css : List (List Value)), w.heap[r]? = some (.cells #[v] 54 (0, 0)) ∧ w.ownsRow B 64 3 v d.length css.flatten ∧ Rows3 w B k d css
  hB : B ≤ r
  len : d.length ≤ 1000
theorem RgS.below {B r k : Nat} {d : List Ty} {w w' : World} (h : RgS B r k d w) (hBw : B ≤ w.heap.size) (hb : Below w.heap.size w w') : RgS B r k d w' := by
  obtain ⟨⟨v, css, h1, h2, h3⟩, h4, h5⟩ := h
  exact ⟨⟨v, css, block_below h1 hb, own_below h2 hb, h3.below (hb.mono hBw)⟩, h4, h5⟩
/-- The list, read. -/
theorem RgS.tys {B r k : Nat} {d : List Ty} {w : World} (h : RgS B r k d w) (hBw : B ≤ w.heap.size) : ∃ A c, w.cell? ⟨r, 0, none⟩ = some (.slice A d.length c) ∧ Tys w w.heap.size k A d.length d := by
  obtain ⟨⟨v, css, h1, h2, h3⟩, h4, h5⟩ := h
  obtain ⟨A, c, rfl⟩ := own_sl h2
  refine ⟨A, c, block_cell h1 0, rfl, fun hn => ?_⟩
  obtain ⟨g, cap, cur, hv, hbg, hg, _⟩ := own_blk h2 hn
  simp only [Value.slice.injEq, true_and] at hv
  obtain ⟨rfl, rfl⟩ := hv
  refine ⟨g, 0, rfl, lt_of_block hg, fun i t ht => ?_⟩
  have hi : i < css.length := by rw [h3.len]; exact (List.getElem?_eq_some_iff.1 ht).1
  refine ⟨css[i], (h3.in_ i t _ ht (List.getElem?_eq_getElem hi)).more hBw, fun j u hu => ?_⟩
  rw [Nat.zero_add]
  exact own_cell h2 (i * 3 + j) u (flat3_get css h3.all3 i j _ u (List.getElem?_eq_getElem hi) hu)
/-- The block of the list. -/
def RowB (r : Nat) (w : World) (j : Nat) : Prop := ∃ v, w.heap[r]? = some (.cells #[v] 54 (0, 0)) ∧ v.ownBlock = some j
/-- What a walk of the reference's mangler does. -/
structure RgR (B r k : Nat) (d : List Ty) (w w' : World) : Prop where
  st : RgS B r k d w'
  be : Below B w w'
  kept : ∀ j o, w.heap[j]? = some o → j ≠ r → ¬ RowB r w j → w'.heap[j]? = some o
  row : ∀ j, RowB r w' j → RowB r w j ∨ w.heap.size ≤ j
theorem RgR.refl {B r k : Nat} {d : List Ty} {w : World} (h : RgS B r k d w) : RgR B r k d w w := ⟨h, Below.refl _ _, fun _ _ h _ _ => h, fun _ h => .inl h⟩
theorem RgR.trans {B r k : Nat} {d d' : List Ty} {w w1 w2 : World} (h : RgR B r k d w w1) (h' : RgR B r k d' w1 w2) : RgR B r k d' w w2 := by
  refine ⟨h'.st, h.be.trans h'.be, fun j o e h1 h2 => h'.kept j o (h.kept j o e h1 h2) h1 (fun h3 => ?_), fun j h3 => ?_⟩
  · rcases h.row j h3 with h4 | h4
    · exact h2 h4
    · have := lt_of_block e; omega
  · rcases h'.row j h3 with h4 | h4
    · exact h.row j h4
    · have := h.be.size; exact .inr (by omega)
theorem RgS.lt {B r k : Nat} {d : List Ty} {w : World} (h : RgS B r k d w) : r < w.heap.size := by
  obtain ⟨⟨v, css, h1, h2, h3⟩, h4, h5⟩ := h
  exact lt_of_block h1
theorem RgR.of_below {B r k : Nat} {d : List Ty} {w w' : World} (h : RgS B r k d w) (hBw : B ≤ w.heap.size) (hb : Below w.heap.size w w') : RgR B r k d w w' := by
  refine ⟨h.below hBw hb, hb.mono hBw, fun j o e _ _ => block_below e hb, fun j ⟨v, h1, h2⟩ => .inl ⟨v, ?_, h2⟩⟩
  rw [hb.block r h.lt] at h1
  exact h1
theorem RgR.below {B r k : Nat} {d : List Ty} {w w1 w2 : World} (h : RgR B r k d w w1) (hBw : B ≤ w.heap.size) (hb : Below w1.heap.size w1 w2) : RgR B r k d w w2 := h.trans (RgR.of_below h.st (Nat.le_trans hBw h.be.size) hb)
/-- A block that is new stays through a walk. -/
theorem RgR.new {B r k j : Nat} {d : List Ty} {w w' : World} {o : Obj} (h : RgR B r k d w w') (e : w.heap[j]? = some o) (h1 : j ≠ r) (h2 : ¬ RowB r w j) : w'.heap[j]? = some o := h.kept j o e h1 h2
theorem rowB_lt {B r k j : Nat} {d : List Ty} {w : World} (h : RgS B r k d w) (hr : RowB r w j) : j < w.heap.size := by
  obtain ⟨⟨v, css, h1, h2, h3⟩, h4, h5⟩ := h
  obtain ⟨v', e1, e2⟩ := hr
  rw [h1] at e1
  simp only [Option.some.injEq, Obj.cells.injEq, Array.mk.injEq, List.cons.injEq, and_true, true_and] at e1
  subst e1
  exact (h2.lt _ e2).2
end Go.Proofs.YtmloohicgdemfaaDoor
