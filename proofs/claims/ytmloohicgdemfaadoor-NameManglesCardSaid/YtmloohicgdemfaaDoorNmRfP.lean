/- The reference's mangler: one type more in its list. -/
import Derived.Test.YtmloohicgdemfaaDoorNmRfW
namespace Go.Proofs.YtmloohicgdemfaaDoor
open Go.RowKit
set_option linter.unusedVariables false
set_option linter.unusedSimpArgs false
theorem rg_push {B r k : Nat} {d : List Ty} {w2 wx w3 : World} {v v' : Value} {css : List (List Value)} {cs : List Value} {t : Ty} (hBw : B ≤ w2.heap.size) (hB : B ≤ r) (hln : d.length + 1 ≤ 1000) (h1 : w2.heap[r]? = some (.cells #[v] 54 (0, 0))) (h2 : w2.ownsRow B 64 3 v d.length css.flatten) (h3 : Rows3 w2 B k d css) (ht : TyIn w2 B k t cs)
    (hb : Below w2.heap.size w2 wx) (ho : w3.ownsRow B 64 3 v' (d.length + 1) (css.flatten ++ cs)) (hg : wx.grownBy w3 v.ownBlock) (hv : v'.ownBlock = v.ownBlock ∨ v'.ownBlock = some wx.heap.size) : RgR B r k (d ++ [t]) w2 (w3.setCell ⟨r, 0, none⟩ v') := by
  have hr := lt_of_block h1
  have hne : v.ownBlock ≠ some r := own_other' h2 h1 (by decide)
  have h1x := block_below h1 hb
  have h13 : w3.heap[r]? = some (.cells #[v] 54 (0, 0)) := (hg.block r (lt_of_block h1x) (fun e => hne e.symm)).trans h1x
  have hne3 : v'.ownBlock ≠ some r := own_other' ho h13 (by decide)
  have hb3 : Below B w2 w3 := (hb.mono hBw).grown hg (Nat.le_trans hBw hb.size) (fun j hj => (h2.lt j hj).1)
  have hset := block_set h13 (i := 0) v'
  have hbe : Below B w2 (w3.setCell ⟨r, 0, none⟩ v') := hb3.setCell (p := ⟨r, 0, none⟩) hB _
  refine ⟨⟨⟨v', css ++ [cs], hset, ?_, (h3.below hbe).snoc (ht.below hbe)⟩, hB, by simp; omega⟩, hbe, fun j o e hj hrow => ?_, fun j hj => ?_⟩
  · have := ownsRow_setCell_other ho (a := ⟨r, 0, none⟩) hne3 v'
    simpa using this
  · have e1 := block_below e hb
    have e2 := (hg.block j (lt_of_block e1) (fun he => hrow ⟨v, h1, he.symm⟩)).trans e1
    exact block_set_other e2 _ _ hj
  · obtain ⟨u, hu, hub⟩ := hj
    rw [hset] at hu
    simp at hu
    subst hu
    rcases hv with he | he
    · exact .inl ⟨v, h1, he.symm.trans hub⟩
    · rw [he] at hub
      have := hb.size
      exact .inr (by simp at hub; omega)
end Go.Proofs.YtmloohicgdemfaaDoor
