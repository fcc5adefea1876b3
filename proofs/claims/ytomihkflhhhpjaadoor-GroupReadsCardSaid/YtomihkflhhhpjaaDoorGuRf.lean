/- The reference's reading of rules: the memory of ruleRead. -/
import Derived.Test.YtomihkflhhhpjaaDoorGuRs
namespace Go.Proofs.YtomihkflhhhpjaaDoor
open Go.RowKit
set_option linter.unusedVariables false
set_option linter.unusedSimpArgs false
/-- ruleRead's memory: the result's box rz, the rule's box b with cells c1, c2, two rows of its own. -/
structure RF (rz b : Nat) (w0 : World) (c1 c2 v1 : Value) (ms : List Mt) (v2 : Value) (ac : List Ac) (w : World) : Prop where
  rz : w.heap[rz]? = some (.cells #[.slice none 0 0, .slice none 0 0] 44 (0, 0))
  bb : w.heap[b]? = some (.cells #[c1, c2] 44 (0, 0))
  r1 : w.ownsRow w0.heap.size 53 3 v1 ms.length (ms.flatMap Mt.cs)
  r2 : w.ownsRow w0.heap.size 56 3 v2 ac.length (ac.flatMap Ac.cs)
  be : Below w0.heap.size w0 w
section
variable {rz b : Nat} {w0 w w' : World} {c1 c2 v1 v2 : Value} {ms : List Mt} {ac : List Ac}
theorem RF.below (h : RF rz b w0 c1 c2 v1 ms v2 ac w) (hb : Below w.heap.size w w') : RF rz b w0 c1 c2 v1 ms v2 ac w' :=
  ⟨block_below h.rz hb, block_below h.bb hb, own_below h.r1 hb, own_below h.r2 hb, h.be.trans (hb.mono h.be.size)⟩
theorem RF.set1 (h : RF rz b w0 c1 c2 v1 ms v2 ac w) (hB : w0.heap.size ≤ b) (h2 : rz ≠ b) (u : Value) : RF rz b w0 u c2 v1 ms v2 ac (w.setCell ⟨b, 0, none⟩ u) :=
  ⟨block_set_other h.rz ⟨b, 0, none⟩ _ h2, block_set h.bb u, ownsRow_setCell_other h.r1 (a := ⟨b, 0, none⟩) (own_other' h.r1 h.bb (by decide)) _, ownsRow_setCell_other h.r2 (a := ⟨b, 0, none⟩) (own_other' h.r2 h.bb (by decide)) _, below_set h.be hB u⟩
theorem RF.set2 (h : RF rz b w0 c1 c2 v1 ms v2 ac w) (hB : w0.heap.size ≤ b) (h2 : rz ≠ b) (u : Value) : RF rz b w0 c1 u v1 ms v2 ac (w.setCell ⟨b, 1, none⟩ u) :=
  ⟨block_set_other h.rz ⟨b, 1, none⟩ _ h2, block_set h.bb u, ownsRow_setCell_other h.r1 (a := ⟨b, 1, none⟩) (own_other' h.r1 h.bb (by decide)) _, ownsRow_setCell_other h.r2 (a := ⟨b, 1, none⟩) (own_other' h.r2 h.bb (by decide)) _, below_set h.be hB u⟩
theorem RF.grow1 (h : RF rz b w0 c1 c2 v1 ms v2 ac w) (hg : w.grownBy w' v1.ownBlock) {v1' : Value} {m : Mt} (ho : w'.ownsRow w0.heap.size 53 3 v1' (ms.length + 1) (ms.flatMap Mt.cs ++ m.cs)) : RF rz b w0 c1 c2 v1' (ms ++ [m]) v2 ac w' :=
  ⟨grown_at hg h.rz (own_other' h.r1 h.rz (by decide)), grown_at hg h.bb (own_other' h.r1 h.bb (by decide)),
    by rw [List.flatMap_append, List.length_append]; simpa using ho, h.r2.kept hg (own_apart h.r1 h.r2 (by decide)), h.be.grown hg h.be.size (fun k hk => (h.r1.lt k hk).1)⟩
theorem RF.grow2 (h : RF rz b w0 c1 c2 v1 ms v2 ac w) (hg : w.grownBy w' v2.ownBlock) {v2' : Value} {m : Ac} (ho : w'.ownsRow w0.heap.size 56 3 v2' (ac.length + 1) (ac.flatMap Ac.cs ++ m.cs)) : RF rz b w0 c1 c2 v1 ms v2' (ac ++ [m]) w' :=
  ⟨grown_at hg h.rz (own_other' h.r2 h.rz (by decide)), grown_at hg h.bb (own_other' h.r2 h.bb (by decide)),
    h.r1.kept hg (own_apart h.r2 h.r1 (by decide)), by rw [List.flatMap_append, List.length_append]; simpa using ho, h.be.grown hg h.be.size (fun k hk => (h.r2.lt k hk).1)⟩
/-- The answer is laid out. -/
theorem RF.ret (h : RF rz b w0 c1 c2 v1 ms v2 ac w) (hB : w0.heap.size ≤ rz) (u1 u2 : Value) {wf : World} (hwf : (w.setCell ⟨rz, 0, none⟩ u1).setCell ⟨rz, 1, none⟩ u2 = wf) :
    Below w0.heap.size w0 wf ∧ wf.ownsRow w0.heap.size 53 3 v1 ms.length (ms.flatMap Mt.cs) ∧ wf.ownsRow w0.heap.size 56 3 v2 ac.length (ac.flatMap Ac.cs) ∧ wf.heap[rz]? = some (.cells #[u1, u2] 44 (0, 0)) := by
  subst hwf
  have e1 := own_other' h.r1 h.rz (by decide)
  have e2 := own_other' h.r2 h.rz (by decide)
  exact ⟨below_set (below_set h.be hB _) hB _, ownsRow_setCell_other (ownsRow_setCell_other h.r1 (a := ⟨rz, 0, none⟩) e1 _) (a := ⟨rz, 1, none⟩) e1 _, ownsRow_setCell_other (ownsRow_setCell_other h.r2 (a := ⟨rz, 0, none⟩) e2 _) (a := ⟨rz, 1, none⟩) e2 _, block_set (block_set h.rz _) _⟩
end
end Go.Proofs.YtomihkflhhhpjaaDoor
