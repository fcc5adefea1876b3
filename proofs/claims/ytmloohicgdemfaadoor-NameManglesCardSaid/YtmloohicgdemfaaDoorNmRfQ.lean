/- The reference's mangler: the last type of its list, written over. -/
import Derived.Test.YtmloohicgdemfaaDoorNmRfP
namespace Go.Proofs.YtmloohicgdemfaaDoor
open Go.RowKit
set_option linter.unusedVariables false
set_option linter.unusedSimpArgs false
def tyZero : Ty := ⟨0, [], []⟩
theorem tyZero_in (w : World) (B k : Nat) : TyIn w B (k + 1) tyZero [.int .i64 0, .slice none 0 0, .slice none 0 0] := ⟨none, 0, 0, none, 0, 0, rfl, Nat.le_refl _, by unfold maxLen; omega, Nat.le_refl _, by unfold maxLen; omega, SlP.nil _ _ _ _ _, SlP.nil _ _ _ _ _⟩
theorem set3 {F : List Value} {n : Nat} {x0 x1 x2 c0 c1 c2 : Value} (h : F.length = n) : (((F ++ [x0, x1, x2]).set n c0).set (n + 1) c1).set (n + 2) c2 = F ++ [c0, c1, c2] := by
  subst h
  rw [List.set_append_right _ _ (Nat.le_refl _), List.set_append_right _ _ (by omega), List.set_append_right _ _ (by omega)]
  simp
/-- The last one of the list is written over, cell by cell. -/
theorem rg_set {B r k n : Nat} {d : List Ty} {w : World} {g cap : Nat} {css : List (List Value)} {x0 x1 x2 c0 c1 c2 : Value} {t : Ty} (hBw : B ≤ w.heap.size) (hB : B ≤ r) (hn : n = d.length) (hln : d.length + 1 ≤ 1000) (h1 : w.heap[r]? = some (.cells #[.slice (some ⟨g, 0, none⟩) (n + 1) cap] 54 (0, 0)))
    (h2 : w.ownsRow B 64 3 (.slice (some ⟨g, 0, none⟩) (n + 1) cap) (n + 1) (css.flatten ++ [x0, x1, x2])) (h3 : Rows3 w B k d css) (ht : TyIn w B k t [c0, c1, c2]) :
    RgR B r k (d ++ [t]) w (((w.setCell ⟨g, n * 3, none⟩ c0).setCell ⟨g, n * 3 + 1, none⟩ c1).setCell ⟨g, n * 3 + 2, none⟩ c2) := by
  obtain ⟨hBg, hgl⟩ := h2.lt g rfl
  have hfl : css.flatten.length = n * 3 := by rw [flat3_len css h3.all3, h3.len, hn]
  have o3 := own_set (own_set (own_set h2 (n * 3) c0) (n * 3 + 1) c1) (n * 3 + 2) c2
  rw [set3 hfl] at o3
  have hne : (Value.slice (some ⟨g, 0, none⟩) (n + 1) cap).ownBlock ≠ some r := own_other' h2 h1 (by decide)
  have hgr : g ≠ r := fun e => hne (by subst e; rfl)
  have hbe : Below B w (((w.setCell ⟨g, n * 3, none⟩ c0).setCell ⟨g, n * 3 + 1, none⟩ c1).setCell ⟨g, n * 3 + 2, none⟩ c2) := below_set (below_set (below_set (Below.refl _ _) hBg _) hBg _) hBg _
  have ho : ∀ j o, w.heap[j]? = some o → j ≠ g → (((w.setCell ⟨g, n * 3, none⟩ c0).setCell ⟨g, n * 3 + 1, none⟩ c1).setCell ⟨g, n * 3 + 2, none⟩ c2).heap[j]? = some o := fun j o e hj =>
    block_set_other (block_set_other (block_set_other e _ _ hj) _ _ hj) _ _ hj
  have h1' := ho r _ h1 (fun e => hgr e.symm)
  refine ⟨⟨⟨_, css ++ [[c0, c1, c2]], h1', ?_, (h3.below hbe).snoc (ht.below hbe)⟩, hB, by simp; omega⟩, hbe, fun j o e hj hrow => ho j o e (fun e' => hrow ⟨_, h1, by subst e'; rfl⟩), fun j hj => ?_⟩
  · subst hn
    have : (d ++ [t]).length = d.length + 1 := by simp
    rw [this, List.flatten_append]
    simpa using o3
  · obtain ⟨u, hu, hub⟩ := hj
    rw [h1'] at hu
    simp at hu
    subst hu
    exact .inl ⟨_, h1, hub⟩
end Go.Proofs.YtmloohicgdemfaaDoor
