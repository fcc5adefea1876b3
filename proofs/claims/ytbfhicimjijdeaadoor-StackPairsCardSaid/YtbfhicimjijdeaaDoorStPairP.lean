/- Pairs of frames: what StackPairs asks, the plain law. No program. -/
import Derived.Test.YtbfhicimjijdeaaDoorStAlL
namespace Go.Proofs.YtbfhicimjijdeaaDoor
open Go.RowKit
set_option linter.unusedVariables false
theorem al_refl (x : Frame) : al x x = true := by simp [al]
theorem al_symm (x y : Frame) : al x y = al y x := by
  rw [Bool.eq_iff_iff]
  simp only [al, Bool.and_eq_true, decide_eq_true_eq]
  constructor <;> rintro ⟨h1, h2, h3⟩ <;> exact ⟨h1.symm, h2.symm, h3.symm⟩
theorem fst_no {x : Frame} : ∀ {bs : List Frame} {t : Nat} {z : Frame}, fst x bs = none → bs[t]? = some z → al x z = false := by
  intro bs
  induction bs with
  | nil => intro t z _ h; simp at h
  | cons y ys ih =>
    intro t z h hz
    rw [fst] at h
    split at h
    · cases h
    · rename_i ha
      cases t with
      | zero => simp at hz; subst hz; simpa using ha
      | succ t => exact ih (by simpa using h) (by simpa using hz)
theorem pr_length : ∀ (l : List Frame) (i : Nat) (bs : List Frame) (k : Nat), (pr l i bs k).length = lcs l bs := by
  intro l
  induction l with
  | nil => intro i bs k; rfl
  | cons x xs ih =>
    intro i bs k
    cases e : fst x bs with
    | none =>
      rw [pr_none e, ih]
      exact (row_fails (i := i) (k := k) fun t z hz h => by rw [fst_no e hz] at h; exact absurd h.1 (by simp)).1
    | some d =>
      obtain ⟨y, hy, ha, hno⟩ := fst_spec e
      by_cases h : lcs xs (bs.drop (d + 1)) + 1 = lcs (x :: xs) bs
      · rw [pr_take e h, List.length_cons, ih, h]
      · rw [pr_skip e h, ih]
        refine (row_fails (i := i) (k := k) fun t z hz h2 => ?_).1
        have hdt : d ≤ t := by
          rcases Nat.lt_or_ge t d with hlt | hge
          · have := hno t z hlt hz; rw [this] at h2; exact absurd h2.1 (by simp)
          · exact hge
        have h3 := lcs_hit x xs bs d y hy ha
        have h4 := lcs_drop xs (bs.drop (d + 1)) (t - d)
        rw [List.drop_drop, show d + 1 + (t - d) = t + 1 by omega] at h4
        omega
theorem lcs_symm : ∀ (a b : List Frame), lcs a b = lcs b a := by
  intro a
  induction a with
  | nil => intro b; rw [lcs_nil]; rfl
  | cons x xs iha =>
    intro b
    induction b with
    | nil => rw [lcs_nil]; rfl
    | cons y ys ihb =>
      have e1 := iha (y :: ys)
      have e2 := iha ys
      rw [lcs_cons, lcs_cons, al_symm y x, e1, e2, ihb]
      split <;> omega
theorem lcs_self : ∀ (a : List Frame), lcs a a = a.length := by
  intro a
  induction a with
  | nil => rfl
  | cons x xs ih =>
    have h := (lcs_le (x :: xs) (x :: xs)).1
    rw [lcs_cons, if_pos (al_refl x)] at h ⊢
    simp only [List.length_cons] at h ⊢
    omega
theorem pr_in : ∀ (l : List Frame) (i : Nat) (bs : List Frame) (k : Nat) (p : Nat × Nat), p ∈ pr l i bs k → i ≤ p.1 ∧ k ≤ p.2 ∧ ∃ x y, l[p.1 - i]? = some x ∧ bs[p.2 - k]? = some y ∧ al x y = true := by
  intro l
  induction l with
  | nil => intro i bs k p h; cases h
  | cons x xs ih =>
    intro i bs k p h
    have low : p ∈ pr xs (i + 1) bs k → i ≤ p.1 ∧ k ≤ p.2 ∧ ∃ x' y, (x :: xs)[p.1 - i]? = some x' ∧ bs[p.2 - k]? = some y ∧ al x' y = true := by
      intro h
      obtain ⟨h1, h2, x', y, h3, h4, h5⟩ := ih _ _ _ _ h
      exact ⟨by omega, h2, x', y, by rw [show p.1 - i = p.1 - (i + 1) + 1 by omega, List.getElem?_cons_succ]; exact h3, h4, h5⟩
    cases e : fst x bs with
    | none => rw [pr_none e] at h; exact low h
    | some d =>
      by_cases h2 : lcs xs (bs.drop (d + 1)) + 1 = lcs (x :: xs) bs
      · rw [pr_take e h2] at h
        rcases List.mem_cons.1 h with rfl | h
        · obtain ⟨y, hy, ha, _⟩ := fst_spec e
          exact ⟨Nat.le_refl _, Nat.le_add_right _ _, x, y, by simp, by simpa using hy, ha⟩
        · obtain ⟨h1, h2, x', y, h3, h4, h5⟩ := ih _ _ _ _ h
          rw [List.getElem?_drop] at h4
          exact ⟨by omega, by omega, x', y, by rw [show p.1 - i = p.1 - (i + 1) + 1 by omega, List.getElem?_cons_succ]; exact h3, by rw [show p.2 - k = d + 1 + (p.2 - (k + d + 1)) by omega]; exact h4, h5⟩
      · rw [pr_skip e h2] at h; exact low h
theorem pr_rise : ∀ (l : List Frame) (i : Nat) (bs : List Frame) (k : Nat), List.Pairwise (fun p q : Nat × Nat => p.1 < q.1 ∧ p.2 < q.2) (pr l i bs k) := by
  intro l
  induction l with
  | nil => intro i bs k; exact List.Pairwise.nil
  | cons x xs ih =>
    intro i bs k
    cases e : fst x bs with
    | none => rw [pr_none e]; exact ih _ _ _
    | some d =>
      by_cases h2 : lcs xs (bs.drop (d + 1)) + 1 = lcs (x :: xs) bs
      · rw [pr_take e h2]
        refine List.Pairwise.cons (fun q hq => ?_) (ih _ _ _)
        have := pr_in _ _ _ _ _ hq
        exact ⟨by simp only; omega, by simp only; omega⟩
      · rw [pr_skip e h2]; exact ih _ _ _
theorem pairs_len (a b : List Frame) : (pairsL a b).length = lcs a b := pr_length _ _ _ _
theorem pairs_at {a b : List Frame} {t : Nat} {p : Nat × Nat} (h : (pairsL a b)[t]? = some p) : ∃ x y, a[p.1]? = some x ∧ b[p.2]? = some y ∧ al x y = true := by
  obtain ⟨_, _, x, y, h1, h2, h3⟩ := pr_in _ _ _ _ _ (List.mem_of_getElem? h)
  exact ⟨x, y, by simpa using h1, by simpa using h2, h3⟩
theorem pairs_rise {a b : List Frame} {t : Nat} {q p : Nat × Nat} (hq : (pairsL a b)[t]? = some q) (hp : (pairsL a b)[t + 1]? = some p) : q.1 < p.1 ∧ q.2 < p.2 := by
  have h := List.pairwise_iff_getElem.1 (pr_rise a 0 b 0)
  rw [pairsL] at hq hp
  obtain ⟨h1, e1⟩ := List.getElem?_eq_some_iff.1 hq
  obtain ⟨h2, e2⟩ := List.getElem?_eq_some_iff.1 hp
  have := h t (t + 1) h1 h2 (by omega)
  rw [e1, e2] at this
  exact this
end Go.Proofs.YtbfhicimjijdeaaDoor
