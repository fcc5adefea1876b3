/- Tallies in their order: one list. -/
import Derived.Test.YtkoijhecahebgaaDoorGtTal
namespace Go.Proofs.YtkoijhecahebgaaDoor
set_option linter.unusedVariables false
def srtT (l : List Tl) : List Tl := l.mergeSort fun x y => decide (cmpT x y ≤ 0)
theorem srtT_perm (l : List Tl) : (srtT l).Perm l := List.mergeSort_perm _ _
theorem srtT_sorted (l : List Tl) : (srtT l).Pairwise fun x y => ¬ cmpT y x < 0 := by
  have h := cmpT_ord
  have h1 : (srtT l).Pairwise fun x y => decide (cmpT x y ≤ 0) = true :=
    List.pairwise_mergeSort (fun a b c h1 h2 => decide_eq_true (h.le a b c (of_decide_eq_true h1) (of_decide_eq_true h2))) (fun a b => by
      have a1 := h.anti a b; have a2 := h.anti b a
      by_cases e : cmpT a b ≤ 0
      · simp [e]
      · have : cmpT b a ≤ 0 := by omega
        simp [this]) l
  refine h1.imp fun {x y} hxy => ?_
  have := of_decide_eq_true hxy
  have := h.anti y x
  omega
theorem srtT_of {l m : List Tl} (hp : m.Perm l) (hn : (l.map Tl.tag).Nodup) (hs : m.Pairwise fun x y => ¬ cmpT y x < 0) : m = srtT l := by
  have hp2 : m.Perm (srtT l) := hp.trans (srtT_perm l).symm
  refine sorted_one cmpT_ord Tl.tag (fun x y h => cmpT_zero h) m (srtT l) hp2 ?_ hs (srtT_sorted l)
  exact (hp.map Tl.tag).nodup_iff.2 hn
end Go.Proofs.YtkoijhecahebgaaDoor
