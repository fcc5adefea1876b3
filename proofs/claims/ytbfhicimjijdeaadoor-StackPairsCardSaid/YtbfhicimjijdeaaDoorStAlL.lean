/- Pairs of frames that are alike: the plain law. No program. -/
import Derived.Test.YtbfhicimjijdeaaDoorStFrame
namespace Go.Proofs.YtbfhicimjijdeaaDoor
open Go.RowKit
set_option linter.unusedVariables false
def al (x y : Frame) : Bool := decide (x.mod = y.mod) && (decide (x.fn = y.fn) && decide (x.file = y.file))
def lcsRow (x : Frame) (f : List Frame → Nat) : List Frame → Nat
  | [] => 0
  | y :: ys => if al x y then max (max (f (y :: ys)) (lcsRow x f ys)) (f ys + 1) else max (f (y :: ys)) (lcsRow x f ys)
/-- The most pairs of two rows. -/
def lcs : List Frame → List Frame → Nat
  | [], _ => 0
  | x :: xs, bs => lcsRow x (lcs xs) bs
theorem lcs_nil (l : List Frame) : lcs l [] = 0 := by cases l <;> rfl
theorem lcs_cons (x : Frame) (xs : List Frame) (y : Frame) (ys : List Frame) : lcs (x :: xs) (y :: ys) = if al x y then max (max (lcs xs (y :: ys)) (lcs (x :: xs) ys)) (lcs xs ys + 1) else max (lcs xs (y :: ys)) (lcs (x :: xs) ys) := rfl
theorem lcs_right (l : List Frame) (y : Frame) (ys : List Frame) : lcs l ys ≤ lcs l (y :: ys) := by
  cases l with
  | nil => exact Nat.le_refl _
  | cons x xs => rw [lcs_cons]; split <;> omega
theorem lcs_left (x : Frame) (xs bs : List Frame) : lcs xs bs ≤ lcs (x :: xs) bs := by
  cases bs with
  | nil => rw [lcs_nil]; omega
  | cons y ys => rw [lcs_cons]; split <;> omega
theorem lcs_drop (l : List Frame) : ∀ (bs : List Frame) (d : Nat), lcs l (bs.drop d) ≤ lcs l bs := by
  intro bs
  induction bs with
  | nil => intro d; simp
  | cons y ys ih =>
    intro d
    cases d with
    | zero => exact Nat.le_refl _
    | succ d => exact Nat.le_trans (ih d) (lcs_right l y ys)
theorem lcs_hit (x : Frame) (xs : List Frame) : ∀ (bs : List Frame) (d : Nat) (y : Frame), bs[d]? = some y → al x y = true → lcs xs (bs.drop (d + 1)) + 1 ≤ lcs (x :: xs) bs := by
  intro bs
  induction bs with
  | nil => intro d y h; simp at h
  | cons z zs ih =>
    intro d y h ha
    cases d with
    | zero =>
      simp at h; subst h
      rw [lcs_cons, if_pos ha]
      simp only [List.drop_succ_cons, List.drop_zero]
      omega
    | succ d =>
      have := ih d y (by simpa using h) ha
      simp only [List.drop_succ_cons]
      exact Nat.le_trans this (lcs_right _ _ _)
theorem lcs_row (x : Frame) (xs : List Frame) : ∀ (bs : List Frame), lcs (x :: xs) bs = lcs xs bs ∨ ∃ d y, bs[d]? = some y ∧ al x y = true ∧ lcs xs (bs.drop (d + 1)) + 1 = lcs (x :: xs) bs := by
  intro bs
  induction bs with
  | nil => exact .inl (by rw [lcs_nil, lcs_nil])
  | cons z zs ih =>
    have h1 := lcs_left x xs (z :: zs)
    by_cases e : lcs (x :: xs) (z :: zs) = lcs xs (z :: zs)
    · exact .inl e
    right
    by_cases e2 : lcs (x :: xs) (z :: zs) = lcs (x :: xs) zs
    · rcases ih with h | ⟨d, y, hy, ha, h⟩
      · have := lcs_right xs z zs; omega
      · exact ⟨d + 1, y, by simpa using hy, ha, by simp only [List.drop_succ_cons]; omega⟩
    · rw [lcs_cons] at e e2 ⊢
      by_cases ha : al x z = true
      · rw [if_pos ha] at e e2 ⊢
        exact ⟨0, z, rfl, ha, by simp only [List.drop_succ_cons, List.drop_zero]; omega⟩
      · rw [if_neg ha] at e e2; omega
/-- The first one that is alike. -/
def fst (x : Frame) : List Frame → Option Nat
  | [] => none
  | y :: ys => if al x y then some 0 else (fst x ys).map (· + 1)
theorem fst_some {x : Frame} : ∀ {bs : List Frame} {d : Nat} {y : Frame}, bs[d]? = some y → al x y = true → (∀ t z, t < d → bs[t]? = some z → al x z = false) → fst x bs = some d := by
  intro bs
  induction bs with
  | nil => intro d y h; simp at h
  | cons z zs ih =>
    intro d y h ha hno
    cases d with
    | zero => simp at h; subst h; rw [fst, if_pos ha]
    | succ d =>
      rw [fst, if_neg (by rw [hno 0 z (by omega) rfl]; decide), ih (by simpa using h) ha (fun t w ht hw => hno (t + 1) w (by omega) (by simpa using hw))]
      rfl
theorem fst_none {x : Frame} : ∀ {bs : List Frame}, (∀ z ∈ bs, al x z = false) → fst x bs = none := by
  intro bs
  induction bs with
  | nil => intro _; rfl
  | cons z zs ih => intro h; rw [fst, if_neg (by rw [h z (by simp)]; decide), ih fun w hw => h w (by simp [hw])]; rfl
theorem fst_spec {x : Frame} : ∀ {bs : List Frame} {d : Nat}, fst x bs = some d → ∃ y, bs[d]? = some y ∧ al x y = true ∧ ∀ t z, t < d → bs[t]? = some z → al x z = false := by
  intro bs
  induction bs with
  | nil => intro d h; cases h
  | cons z zs ih =>
    intro d h
    rw [fst] at h
    split at h
    · rename_i ha
      cases h
      exact ⟨z, rfl, ha, fun t w ht => by omega⟩
    · rename_i ha
      obtain ⟨d', e, rfl⟩ := Option.map_eq_some_iff.1 h
      obtain ⟨y, h1, h2, h3⟩ := ih e
      refine ⟨y, by simpa using h1, h2, fun t w ht hw => ?_⟩
      cases t with
      | zero => simp at hw; subst hw; simpa using ha
      | succ t => exact h3 t w (by omega) (by simpa using hw)
def pr : List Frame → Nat → List Frame → Nat → List (Nat × Nat)
  | [], _, _, _ => []
  | x :: xs, i, bs, k => match fst x bs with
    | none => pr xs (i + 1) bs k
    | some d => if lcs xs (bs.drop (d + 1)) + 1 = lcs (x :: xs) bs then (i, k + d) :: pr xs (i + 1) (bs.drop (d + 1)) (k + d + 1) else pr xs (i + 1) bs k
/-- The pairs of two rows. -/
def pairsL (a b : List Frame) : List (Nat × Nat) := pr a 0 b 0
theorem pr_none {x : Frame} {xs bs : List Frame} {i k : Nat} (h : fst x bs = none) : pr (x :: xs) i bs k = pr xs (i + 1) bs k := by rw [pr, h]
theorem pr_take {x : Frame} {xs bs : List Frame} {i k d : Nat} (h : fst x bs = some d) (e : lcs xs (bs.drop (d + 1)) + 1 = lcs (x :: xs) bs) : pr (x :: xs) i bs k = (i, k + d) :: pr xs (i + 1) (bs.drop (d + 1)) (k + d + 1) := by rw [pr, h]; simp only; rw [if_pos e]
theorem pr_skip {x : Frame} {xs bs : List Frame} {i k d : Nat} (h : fst x bs = some d) (e : ¬ lcs xs (bs.drop (d + 1)) + 1 = lcs (x :: xs) bs) : pr (x :: xs) i bs k = pr xs (i + 1) bs k := by rw [pr, h]; simp only; rw [if_neg e]
theorem pr_zero : ∀ (l : List Frame) (i : Nat) (bs : List Frame) (k : Nat), lcs l bs = 0 → pr l i bs k = [] := by
  intro l
  induction l with
  | nil => intro i bs k _; rfl
  | cons x xs ih =>
    intro i bs k h
    have h1 := lcs_left x xs bs
    cases e : fst x bs with
    | none => rw [pr_none e]; exact ih _ _ _ (by omega)
    | some d =>
      obtain ⟨y, hy, ha, _⟩ := fst_spec e
      have := lcs_hit x xs bs d y hy ha
      omega
/-- A row of the search in which nothing is found. -/
theorem row_fails {x : Frame} {xs bs : List Frame} {i k : Nat} (h : ∀ t z, bs[t]? = some z → ¬ (al x z = true ∧ lcs xs (bs.drop (t + 1)) + 1 = lcs (x :: xs) bs)) : lcs xs bs = lcs (x :: xs) bs ∧ pr (x :: xs) i bs k = pr xs (i + 1) bs k := by
  refine ⟨?_, ?_⟩
  · rcases lcs_row x xs bs with e | ⟨d, y, hy, ha, e⟩
    · exact e.symm
    · exact absurd ⟨ha, e⟩ (h d y hy)
  · cases e : fst x bs with
    | none => exact pr_none e
    | some d =>
      obtain ⟨y, hy, ha, _⟩ := fst_spec e
      exact pr_skip e fun e2 => h d y hy ⟨ha, e2⟩
/-- The first place of a row at which the search ends. -/
theorem row_hits {x y : Frame} {xs bs : List Frame} {i k d : Nat} (hy : bs[d]? = some y) (ha : al x y = true) (e : lcs xs (bs.drop (d + 1)) + 1 = lcs (x :: xs) bs)
    (h : ∀ t z, t < d → bs[t]? = some z → ¬ (al x z = true ∧ lcs xs (bs.drop (t + 1)) + 1 = lcs (x :: xs) bs)) : pr (x :: xs) i bs k = (i, k + d) :: pr xs (i + 1) (bs.drop (d + 1)) (k + d + 1) := by
  refine pr_take (fst_some hy ha fun t z ht hz => ?_) e
  cases hx : al x z
  · rfl
  · exfalso
    have h1 := h t z ht hz
    have h2 := lcs_hit x xs bs t z hz hx
    have h3 := lcs_drop xs (bs.drop (t + 1)) (d - t)
    rw [List.drop_drop, show t + 1 + (d - t) = d + 1 by omega] at h3
    exact h1 ⟨hx, by omega⟩
theorem lcs_le : ∀ (l bs : List Frame), lcs l bs ≤ l.length ∧ lcs l bs ≤ bs.length := by
  intro l
  induction l with
  | nil => intro bs; exact ⟨Nat.le_refl _, Nat.zero_le _⟩
  | cons x xs ih =>
    intro bs
    induction bs with
    | nil => rw [lcs_nil]; exact ⟨Nat.zero_le _, Nat.le_refl _⟩
    | cons y ys ih2 =>
      have h1 := ih (y :: ys)
      have h2 := ih ys
      simp only [List.length_cons] at *
      rw [lcs_cons]
      split <;> omega
end Go.Proofs.YtbfhicimjijdeaaDoor
