/- Bounds on runs. No program. -/
import Derived.Test.YtbfhicimjijdeaaDoorStRuns
namespace Go.Proofs.YtbfhicimjijdeaaDoor
open Go.RowKit
theorem longs_snoc (l : List RunT) (x : RunT) : longs (l ++ [x]) = longs l + x.long.toNat := by simp [longs]
theorem longs_sum (l : List RunT) : (∀ x ∈ l, runOk x = true) → (longs l : Int) = sumLong l := by
  refine run_ind (P := fun l => (∀ x ∈ l, runOk x = true) → (longs l : Int) = sumLong l) (fun _ => rfl) (fun l x ih h => ?_) l
  have h1 := ih fun y hy => h y (List.mem_append_left _ hy)
  obtain ⟨e, _⟩ := (runOk_iff x).1 (h x (by simp))
  rw [longs_snoc, sumLong_snoc]
  omega
theorem sumLong_append (a b : List RunT) : sumLong (a ++ b) = sumLong a + sumLong b := by
  refine run_ind (P := fun b => sumLong (a ++ b) = sumLong a + sumLong b) (by simp [sumLong]) (fun l x ih => ?_) b
  rw [← List.append_assoc, sumLong_snoc, sumLong_snoc, ih]; omega
theorem sumLong_take_le (l : List RunT) (k : Nat) (h : ∀ x ∈ l, runOk x = true) : sumLong (l.take k) ≤ sumLong l := by
  have e := sumLong_append (l.take k) (l.drop k)
  rw [List.take_append_drop] at e
  have := (sums_bd (l.drop k) fun x hx => h x (List.mem_of_mem_drop hx)).1
  omega
theorem rep_len (t g : Nat) (l : List Frame) : ((List.replicate t (l.take g)).flatten).length ≤ t * g := by
  induction t with
  | zero => simp
  | succ t ih => rw [replicate_more, List.length_append, Nat.succ_mul]; have := List.length_take_le g l; omega
theorem unfL_len (l : List Frame) (rs : List RunT) : (∀ x ∈ rs, runOk x = true) → ((unfL l rs).length : Int) ≤ total rs := by
  refine run_ind (P := fun rs => (∀ x ∈ rs, runOk x = true) → ((unfL l rs).length : Int) ≤ total rs) (fun _ => by simp [unfL, total]) (fun rs x ih h => ?_) rs
  have h1 := ih fun y hy => h y (List.mem_append_left _ hy)
  obtain ⟨e, f⟩ := (runOk_iff x).1 (h x (by simp))
  have h2 := rep_len x.times.toNat x.long.toNat (l.drop (longs rs))
  rw [unfL_snoc, List.length_append, total_snoc]
  have h3 : ((x.times.toNat * x.long.toNat : Nat) : Int) = x.long * x.times := by
    rw [Int.natCast_mul, Int.toNat_of_nonneg (by omega), Int.toNat_of_nonneg (by omega), Int.mul_comm]
  omega
end Go.Proofs.YtbfhicimjijdeaaDoor
