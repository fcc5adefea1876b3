/- What fair rates keep. No program. -/
import Derived.Test.YtnbmohekikhknaaRateSrch
namespace Go.Proofs.Ytnbmohekikhknaa
def keepOf (low came : Int) : Int := if low < came then low * 1000000 / came else 1000000
theorem rateOf_eq (low : Int) (x : Share) : rateOf low x = ⟨x.key, keepOf low x.came⟩ := rfl
theorem keepOf_bd {low c : Int} (h0 : 0 ≤ low) : 0 ≤ keepOf low c ∧ keepOf low c ≤ 1000000 := by
  unfold keepOf
  split
  · rename_i h
    have : low * 1000000 ≤ 1000000 * c := by omega
    exact ⟨Int.ediv_nonneg (by omega) (by omega), Int.ediv_le_of_le_mul (by omega) this⟩
  · omega
theorem keepOf_anti {low c d : Int} (h0 : 0 ≤ low) (h : c ≤ d) : keepOf low d ≤ keepOf low c := by
  by_cases h1 : low < c
  · have h2 : low < d := by omega
    unfold keepOf
    rw [if_pos h1, if_pos h2]
    have q0 : 0 ≤ low * 1000000 / d := Int.ediv_nonneg (by omega) (by omega)
    have q1 : low * 1000000 / d * c ≤ low * 1000000 / d * d := Int.mul_le_mul_of_nonneg_left h q0
    have q2 : d * (low * 1000000 / d) ≤ low * 1000000 := Int.mul_ediv_self_le (by omega)
    exact Int.le_ediv_of_mul_le (by omega) (by rw [Int.mul_comm] at q2; omega)
  · rw [show keepOf low c = 1000000 by unfold keepOf; rw [if_neg h1]]
    exact (keepOf_bd h0).2
/-- What is kept of one: no more than came, and than the line. -/
theorem kept_le {low c : Int} (h0 : 0 ≤ low) (hc : 0 ≤ c) : 0 ≤ c * keepOf low c ∧ c * keepOf low c ≤ c * 1000000 ∧ c * keepOf low c / 1000000 ≤ mn c low := by
  have hk := keepOf_bd (c := c) h0
  refine ⟨Int.mul_nonneg hc hk.1, Int.mul_le_mul_of_nonneg_left hk.2 hc, ?_⟩
  unfold keepOf mn
  split
  · rename_i h
    rw [if_neg (by omega)]
    have : c * (low * 1000000 / c) ≤ low * 1000000 := Int.mul_ediv_self_le (by omega)
    omega
  · split <;> omega
def keptSum (low : Int) (l : List Share) : Int := l.foldl (fun s x => s + x.came * keepOf low x.came / 1000000) 0
theorem keptSum_snoc (low : Int) (l : List Share) (x : Share) : keptSum low (l ++ [x]) = keptSum low l + x.came * keepOf low x.came / 1000000 := by simp [keptSum]
theorem keptSum_le (l : List Share) (low : Int) (h0 : 0 ≤ low) : InRange l → 0 ≤ keptSum low l ∧ keptSum low l ≤ sumMin l low := by
  refine snoc_ind' (P := fun l => InRange l → 0 ≤ keptSum low l ∧ keptSum low l ≤ sumMin l low) (fun _ => ⟨Int.le_refl 0, Int.le_refl 0⟩) (fun l x ih h => ?_) l
  obtain ⟨h1, h2⟩ := ih fun y hy => h y (List.mem_append_left _ hy)
  have hx := h x (by simp)
  obtain ⟨k0, k1, k2⟩ := kept_le (c := x.came) h0 hx.1
  rw [keptSum_snoc, sumMin_snoc]
  omega
theorem ratesOf_get {l : List Share} {most : Int} {k : Nat} {x : Share} {y : RateK} (hx : l[k]? = some x) (hy : (ratesOf l most)[k]? = some y) : y = ⟨x.key, keepOf (lineOf l most) x.came⟩ := by
  rw [ratesOf, List.getElem?_map, hx] at hy
  exact (Option.some.inj hy).symm
end Go.Proofs.Ytnbmohekikhknaa
