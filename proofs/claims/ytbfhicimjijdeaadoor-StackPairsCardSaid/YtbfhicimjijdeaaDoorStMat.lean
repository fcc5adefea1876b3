/- A table of integers in memory: a row of rows, all of the call's own. No program. -/
import Derived.Test.YtbfhicimjijdeaaDoorProg
import Derived.Test.YtbfhicimjijdeaaDoorOwnMore
namespace Go.Proofs.YtbfhicimjijdeaaDoor
open Go.RowKit
set_option linter.unusedVariables false
def nilV : Value := .slice none 0 0
def hdr (m1 g : Nat) : Value := .slice (some ⟨g, 0, none⟩) m1 m1
def rowV (m1 : Nat) (f : Nat → Nat) : List Value := (List.range m1).map fun j => .int .i64 (f j : Nat)
theorem own_block {w : World} {base sz n g : Nat} {e : TypeId} {xs : List Value} (h : w.ownsRow base e sz (.slice (some ⟨g, 0, none⟩) n n) n xs) : w.heap[g]? = some (.cells xs.toArray e (0, 0)) ∧ base ≤ g := by
  rcases h.2 with ⟨h0, _⟩ | ⟨g', cap, cur, h1, h2, h3, h4, h5, h6, h7⟩
  · cases h0
  · simp only [Value.slice.injEq, Option.some.injEq, Addr.mk.injEq, and_true, true_and] at h1
    obtain ⟨rfl, rfl⟩ := h1
    refine ⟨?_, h2⟩
    rw [h3, ← h7, ← h6, List.take_of_length_le (by simp)]
/-- A table that is being made: k rows are there. -/
structure MatP (w : World) (B bm : Nat) (gs : List Nat) (n1 m1 : Nat) : Prop where
  le : gs.length ≤ n1
  nd : gs.Nodup
  nb : bm ∉ gs
  lo : ∀ g ∈ gs, B ≤ g
  lob : B ≤ bm
  out : w.heap[bm]? = some (.cells (gs.map (hdr m1) ++ List.replicate (n1 - gs.length) nilV).toArray 87 (0, 0))
  row : ∀ g ∈ gs, w.heap[g]? = some (.cells (rowV m1 fun _ => 0).toArray 3 (0, 0))
/-- A table that is made. -/
structure Mat (w : World) (B bm : Nat) (gs : List Nat) (n1 m1 : Nat) (T : Nat → Nat → Nat) : Prop where
  len : gs.length = n1
  nd : gs.Nodup
  nb : bm ∉ gs
  lo : ∀ g ∈ gs, B ≤ g
  lob : B ≤ bm
  out : w.heap[bm]? = some (.cells (gs.map (hdr m1)).toArray 87 (0, 0))
  row : ∀ (i g : Nat), gs[i]? = some g → w.heap[g]? = some (.cells (rowV m1 (T i)).toArray 3 (0, 0))
def upd (T : Nat → Nat → Nat) (i j v : Nat) : Nat → Nat → Nat := fun r s => if r = i ∧ s = j then v else T r s
theorem upd_same (T : Nat → Nat → Nat) (i j v : Nat) : upd T i j v i j = v := by simp [upd]
theorem upd_other {T : Nat → Nat → Nat} {i j v r s : Nat} (h : ¬ (r = i ∧ s = j)) : upd T i j v r s = T r s := by simp [upd, h]
section
variable {w w' : World} {B bm n1 m1 : Nat} {gs : List Nat} {T : Nat → Nat → Nat}
theorem Mat.below (h : Mat w B bm gs n1 m1 T) (hB : Below w.heap.size w w') : Mat w' B bm gs n1 m1 T :=
  ⟨h.len, h.nd, h.nb, h.lo, h.lob, block_below h.out hB, fun i g hi => block_below (h.row i g hi) hB⟩
theorem Mat.head (h : Mat w B bm gs n1 m1 T) {i g : Nat} (hi : gs[i]? = some g) : w.cell? ⟨bm, i, none⟩ = some (.slice (some ⟨g, 0, none⟩) m1 m1) := by
  rw [block_cell h.out]; simp [hi, hdr]
theorem Mat.cell (h : Mat w B bm gs n1 m1 T) {i g j : Nat} (hi : gs[i]? = some g) (hj : j < m1) : w.cell? ⟨g, j, none⟩ = some (.int .i64 (T i j : Nat)) := by
  rw [block_cell (h.row i g hi)]; simp [rowV, hj]
theorem Mat.free (h : Mat w B bm gs n1 m1 T) {i g : Nat} (hi : gs[i]? = some g) (j : Nat) : w.frozen? ⟨g, j, none⟩ = false := block_free (h.row i g hi) j
theorem Mat.get (h : Mat w B bm gs n1 m1 T) {i : Nat} (hi : i < n1) : ∃ g, gs[i]? = some g := ⟨gs[i]'(by rw [h.len]; exact hi), List.getElem?_eq_getElem _⟩
theorem Mat.ge (h : Mat w B bm gs n1 m1 T) {i g : Nat} (hi : gs[i]? = some g) : B ≤ g := h.lo g (List.mem_of_getElem? hi)
theorem row_set (m1 : Nat) (f : Nat → Nat) (j v : Nat) : (rowV m1 f).set j (.int .i64 (v : Nat)) = rowV m1 (fun s => if s = j then v else f s) := by
  apply List.ext_getElem?
  intro s
  rw [List.getElem?_set]
  by_cases hs : s < m1
  · by_cases e : j = s
    · subst e; simp [rowV, hs]
    · rw [if_neg e]; simp [rowV, hs, show ¬ s = j from fun e2 => e e2.symm]
  · by_cases e : j = s
    · subst e; simp [rowV, hs]
    · rw [if_neg e]; simp [rowV, hs]
theorem Mat.set (h : Mat w B bm gs n1 m1 T) {i g j : Nat} (hi : gs[i]? = some g) (v : Nat) : Mat (w.setCell ⟨g, j, none⟩ (.int .i64 (v : Nat))) B bm gs n1 m1 (upd T i j v) := by
  refine ⟨h.len, h.nd, h.nb, h.lo, h.lob, block_set_other h.out _ _ (fun e => h.nb (by rw [e]; exact List.mem_of_getElem? hi)), fun r g' hr => ?_⟩
  by_cases e : r = i
  · subst e
    obtain rfl : g' = g := by rw [hi] at hr; exact (Option.some.inj hr).symm
    have := block_set (i := j) (h.row r g' hr) (.int .i64 (v : Nat))
    rw [this]
    have e2 : (rowV m1 (upd T r j v r)) = (rowV m1 (T r)).set j (.int .i64 (v : Nat)) := by
      rw [row_set]; congr 1; funext s; simp [upd]
    rw [e2]; simp
  · have hne : g' ≠ g := by
      rintro rfl
      have h1 : i < gs.length := (List.getElem?_eq_some_iff.1 hi).1
      exact e ((List.getElem?_inj (by rw [← hr] at hi; exact (List.getElem?_eq_some_iff.1 hr).1) h.nd).1 (hr.trans hi.symm))
    have := block_set_other (h.row r g' hr) ⟨g, j, none⟩ (.int .i64 (v : Nat)) hne
    rw [this]
    have e2 : rowV m1 (upd T i j v r) = rowV m1 (T r) := by congr 1; funext s; simp [upd, e]
    rw [e2]
theorem Mat.mono {B' : Nat} (h : Mat w B bm gs n1 m1 T) {T' : Nat → Nat → Nat} (hT : ∀ r s, r < n1 → s < m1 → T r s = T' r s) : Mat w B bm gs n1 m1 T' := by
  refine ⟨h.len, h.nd, h.nb, h.lo, h.lob, h.out, fun i g hi => ?_⟩
  rw [h.row i g hi]
  have e : rowV m1 (T i) = rowV m1 (T' i) := by
    apply List.map_congr_left
    intro j hj
    rw [hT i j (by rw [← h.len]; exact (List.getElem?_eq_some_iff.1 hi).1) (List.mem_range.1 hj)]
  rw [e]
theorem MatP.start (hb : B ≤ bm) (h : w.heap[bm]? = some (.cells (List.replicate n1 nilV).toArray 87 (0, 0))) : MatP w B bm [] n1 m1 :=
  ⟨Nat.zero_le _, List.nodup_nil, by simp, by simp, hb, by simpa using h, by simp⟩
theorem MatP.below (h : MatP w B bm gs n1 m1) (hB : Below w.heap.size w w') : MatP w' B bm gs n1 m1 :=
  ⟨h.le, h.nd, h.nb, h.lo, h.lob, block_below h.out hB, fun g hg => block_below (h.row g hg) hB⟩
theorem MatP.lt (h : MatP w B bm gs n1 m1) : bm < w.heap.size := lt_of_block h.out
theorem MatP.cell (h : MatP w B bm gs n1 m1) (hk : gs.length < n1) : w.cell? ⟨bm, gs.length, none⟩ = some (.slice none 0 0) := by
  rw [block_cell h.out]
  simp only [List.getElem?_toArray]
  rw [List.getElem?_append_right (by simp)]
  simp only [List.length_map, Nat.sub_self]
  rw [List.getElem?_replicate, if_pos (by omega)]
  rfl
theorem MatP.free (h : MatP w B bm gs n1 m1) (j : Nat) : w.frozen? ⟨bm, j, none⟩ = false := block_free h.out j
theorem MatP.step (h : MatP w B bm gs n1 m1) (hk : gs.length < n1) {g : Nat} (hg : w.heap.size ≤ g) (hB : Below w.heap.size w w') (hr : w'.heap[g]? = some (.cells (rowV m1 fun _ => 0).toArray 3 (0, 0))) (hBg : B ≤ g) :
    MatP (w'.setCell ⟨bm, gs.length, none⟩ (hdr m1 g)) B bm (gs ++ [g]) n1 m1 := by
  have hlt := h.lt
  have hgs : ∀ g' ∈ gs, g' < w.heap.size := fun g' hg' => lt_of_block (h.row g' hg')
  refine ⟨by simp; omega, ?_, ?_, ?_, h.lob, ?_, ?_⟩
  · rw [List.nodup_append]
    refine ⟨h.nd, by simp, fun x hx y hy => ?_⟩
    rw [List.mem_singleton] at hy
    have := hgs x hx
    omega
  · intro e
    rcases List.mem_append.1 e with e | e
    · exact h.nb e
    · rw [List.mem_singleton] at e; omega
  · intro x hx
    rcases List.mem_append.1 hx with hx | hx
    · exact h.lo x hx
    · rw [List.mem_singleton] at hx; omega
  · rw [block_set (block_below h.out hB)]
    congr 1
    simp only [List.setIfInBounds_toArray, List.map_append, List.map_cons, List.map_nil, List.length_append, List.length_singleton]
    congr 2
    rw [List.set_append_right _ _ (by simp)]
    rw [show gs.length - (gs.map (hdr m1)).length = 0 by simp, show n1 - gs.length = (n1 - (gs.length + 1)) + 1 by omega, List.replicate_succ]
    simp
  · intro x hx
    have hne : x ≠ bm := by
      rintro rfl
      rcases List.mem_append.1 hx with hx | hx
      · exact h.nb hx
      · rw [List.mem_singleton] at hx; omega
    rcases List.mem_append.1 hx with hx | hx
    · exact block_set_other (block_below (h.row x hx) hB) _ _ hne
    · rw [List.mem_singleton] at hx; subst hx; exact block_set_other hr _ _ hne
theorem MatP.done (h : MatP w B bm gs n1 m1) (hk : gs.length = n1) : Mat w B bm gs n1 m1 (fun _ _ => 0) := by
  refine ⟨hk, h.nd, h.nb, h.lo, h.lob, ?_, fun i g hi => h.row g (List.mem_of_getElem? hi)⟩
  have := h.out
  rw [hk] at this
  simpa using this
end
end Go.Proofs.YtbfhicimjijdeaaDoor
