/- What Fold makes of frames: the plain law. No program. -/
import Derived.Test.YtbfhicimjijdeaaDoorStTimes
import Derived.Test.YtbfhicimjijdeaaDoorStRuns
namespace Go.Proofs.YtbfhicimjijdeaaDoor
open Go.RowKit
/-- The best run of at most so many frames, at the beginning. -/
def bestUp (l : List Frame) : Nat → Nat × Nat
  | 0 => (1, 1)
  | g + 1 => if 2 ≤ timesOf l (g + 1) ∧ ((bestUp l g).2 = 1 ∨ (bestUp l g).1 * (bestUp l g).2 < (g + 1) * timesOf l (g + 1)) then (g + 1, timesOf l (g + 1)) else bestUp l g
def bestOf (l : List Frame) : Nat × Nat := bestUp l (l.length / 2)
theorem bestUp_bd (l : List Frame) (h : 1 ≤ l.length) : ∀ g, 2 * g ≤ l.length → 1 ≤ (bestUp l g).1 ∧ 1 ≤ (bestUp l g).2 ∧ (bestUp l g).1 * (bestUp l g).2 ≤ l.length := by
  intro g
  induction g with
  | zero => intro _; exact ⟨Nat.le_refl _, Nat.le_refl _, h⟩
  | succ g ih =>
    intro hg
    rw [bestUp]
    split
    · obtain ⟨h1, h2⟩ := timesOf_bd (l := l) (g := g + 1) (by omega) (by omega)
      exact ⟨Nat.succ_pos _, h1, by rw [Nat.mul_comm]; exact h2⟩
    · exact ih (by omega)
theorem bestOf_bd {l : List Frame} (h : 1 ≤ l.length) : 1 ≤ (bestOf l).1 ∧ 1 ≤ (bestOf l).2 ∧ (bestOf l).1 * (bestOf l).2 ≤ l.length := bestUp_bd l h _ (by omega)
theorem mul_le {a b n : Nat} (h1 : 1 ≤ a) (h2 : 1 ≤ b) (h : a * b ≤ n) : a ≤ n ∧ b ≤ n := by
  have e1 : a * 1 ≤ a * b := Nat.mul_le_mul_left _ h2
  have e2 : 1 * b ≤ a * b := Nat.mul_le_mul_right _ h1
  omega
/-- A run more. -/
def pushRun (out : List RunT) (b : RunT) : List RunT :=
  match out.getLast? with
  | some r => if r.times = 1 ∧ b.times = 1 then out.dropLast ++ [⟨r.frm, r.long + 1, r.times⟩] else out ++ [b]
  | none => [b]
theorem pushRun_nil (b : RunT) : pushRun [] b = [b] := rfl
theorem pushRun_join (o : List RunT) (r b : RunT) (h1 : r.times = 1) (h2 : b.times = 1) : pushRun (o ++ [r]) b = o ++ [⟨r.frm, r.long + 1, r.times⟩] := by
  rw [pushRun, List.getLast?_concat]; simp [h1, h2]
theorem pushRun_new (o : List RunT) (r b : RunT) (h : ¬ (r.times = 1 ∧ b.times = 1)) : pushRun (o ++ [r]) b = o ++ [r] ++ [b] := by
  rw [pushRun, List.getLast?_concat]; simp only; rw [if_neg h]
theorem pushRun_many (o : List RunT) (b : RunT) (h : ¬ b.times = 1) : pushRun o b = o ++ [b] := by
  rw [pushRun]
  split
  · rw [if_neg (fun e => h e.2)]
  · rename_i e; rw [List.getLast?_eq_none_iff] at e; rw [e]; rfl
def nextAt (l : List Frame) (k : Nat) : Nat := k + (bestOf (l.drop k)).1 * (bestOf (l.drop k)).2
def foldW (l : List Frame) : Nat → Nat → List RunT → List RunT
  | 0, _, out => out
  | f + 1, k, out => if k < l.length then foldW l f (nextAt l k) (pushRun out ⟨k, (bestOf (l.drop k)).1, (bestOf (l.drop k)).2⟩) else out
/-- The runs of frames. -/
def foldL (l : List Frame) : List RunT := foldW l l.length 0 []
theorem nextAt_bd {l : List Frame} {k : Nat} (h : k < l.length) : k + 1 ≤ nextAt l k ∧ nextAt l k ≤ l.length := by
  obtain ⟨h1, h2, h3⟩ := bestOf_bd (l := l.drop k) (by rw [List.length_drop]; omega)
  have h4 := Nat.mul_le_mul h1 h2
  rw [List.length_drop] at h3
  unfold nextAt
  omega
theorem foldW_more (l : List Frame) : ∀ (f f' k : Nat) (out : List RunT), l.length - k ≤ f → l.length - k ≤ f' → foldW l f k out = foldW l f' k out := by
  intro f
  induction f with
  | zero =>
    intro f' k out h1 h2
    cases f' with
    | zero => rfl
    | succ f' => rw [foldW, foldW, if_neg (by omega)]
  | succ f ih =>
    intro f' k out h1 h2
    cases f' with
    | zero => rw [foldW, foldW, if_neg (by omega)]
    | succ f' =>
      rw [foldW, foldW]
      by_cases h : k < l.length
      · have := nextAt_bd h
        rw [if_pos h, if_pos h, ih f' _ _ (by omega) (by omega)]
      · rw [if_neg h, if_neg h]
theorem foldW_step {l : List Frame} {k : Nat} {out : List RunT} (h : k < l.length) :
    foldW l (l.length - k) k out = foldW l (l.length - nextAt l k) (nextAt l k) (pushRun out ⟨k, (bestOf (l.drop k)).1, (bestOf (l.drop k)).2⟩) := by
  have hb := nextAt_bd h
  rw [show l.length - k = (l.length - k - 1) + 1 by omega, foldW, if_pos h]
  exact foldW_more l _ _ _ _ (by omega) (by omega)
theorem foldW_end {l : List Frame} {k f : Nat} {out : List RunT} (h : ¬ k < l.length) : foldW l f k out = out := by
  cases f with
  | zero => rfl
  | succ f => rw [foldW, if_neg h]
/-- The bounds of runs that are being collected. -/
def RunsIn (out : List RunT) (k : Nat) : Prop := out.length ≤ k ∧ ∀ r ∈ out, 1 ≤ r.long ∧ r.long ≤ k ∧ 1 ≤ r.times ∧ r.times ≤ k
theorem runsIn_push {out : List RunT} {k k' : Nat} {b : RunT} (h : RunsIn out k) (hk : k + 1 ≤ k') (h1 : 1 ≤ b.long ∧ b.long ≤ k') (h2 : 1 ≤ b.times ∧ b.times ≤ k') : RunsIn (pushRun out b) k' := by
  obtain ⟨hl, hr⟩ := h
  rw [pushRun]
  split
  · rename_i r e
    have hne : out ≠ [] := by intro e2; rw [e2] at e; cases e
    have hm : r ∈ out := List.mem_of_getLast? e
    split
    · refine ⟨by rw [List.length_append, List.length_dropLast, List.length_singleton]; have := List.length_pos_iff.2 hne; omega, fun x hx => ?_⟩
      rcases List.mem_append.1 hx with hx | hx
      · obtain ⟨a, b, c, d⟩ := hr x (List.dropLast_subset _ hx); omega
      · rw [List.mem_singleton] at hx; subst hx; obtain ⟨a, b, c, d⟩ := hr r hm; simp only; omega
    · refine ⟨by rw [List.length_append, List.length_singleton]; omega, fun x hx => ?_⟩
      rcases List.mem_append.1 hx with hx | hx
      · obtain ⟨a, b, c, d⟩ := hr x hx; omega
      · rw [List.mem_singleton] at hx; subst hx; omega
  · refine ⟨by simp; omega, fun x hx => ?_⟩
    rw [List.mem_singleton] at hx; subst hx; omega
end Go.Proofs.YtbfhicimjijdeaaDoor
