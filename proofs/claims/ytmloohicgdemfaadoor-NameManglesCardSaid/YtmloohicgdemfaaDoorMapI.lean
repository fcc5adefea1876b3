/- A map from strings to their places in a list. No program. -/
import Derived.Test.YtmloohicgdemfaaDoorMapB
namespace Go.Proofs.YtmloohicgdemfaaDoor
open Go.RowKit Go.Maps
/-- The map that has each of ks at its place, from place i on. -/
def idxFrom (D : DataW Unit) : Nat → List (List UInt8) → DataW Unit
  | _, [] => D
  | i, s :: ks => idxFrom (D.put (.string s) (.lit (.int .i64 i))) (i + 1) ks
def idxD (ks : List (List UInt8)) : DataW Unit := idxFrom (.map []) 0 ks
theorem idxFrom_snoc : ∀ (ks : List (List UInt8)) (D : DataW Unit) (i : Nat) (s : List UInt8), idxFrom D i (ks ++ [s]) = (idxFrom D i ks).put (.string s) (.lit (.int .i64 ((i + ks.length : Nat) : Int)))
  | [], D, i, s => by simp [idxFrom]
  | x :: ks, D, i, s => by
    rw [List.cons_append, idxFrom, idxFrom_snoc ks, idxFrom, List.length_cons, show i + 1 + ks.length = i + (ks.length + 1) by omega]
theorem idxD_snoc (ks : List (List UInt8)) (s : List UInt8) : idxD (ks ++ [s]) = (idxD ks).put (.string s) (.lit (.int .i64 (ks.length : Nat))) := by
  unfold idxD; rw [idxFrom_snoc, Nat.zero_add]
theorem isMap_idxD (ks : List (List UInt8)) : IsMap (idxD ks) :=
  snoc_ind (P := fun ks => IsMap (idxD ks)) isMap_empty (fun l x ih => by rw [idxD_snoc]; exact ih.put _ _) ks
theorem idxD_has (ks : List (List UInt8)) (s : List UInt8) : Maps.has (idxD ks) (.string s) = ks.contains s := by
  refine snoc_ind (P := fun ks => Maps.has (idxD ks) (.string s) = ks.contains s) rfl (fun l x ih => ?_) ks
  rw [idxD_snoc]
  by_cases h : s = x
  · subst h
    rw [has_put_same (isMap_idxD l) (show WideAt.IsKeyLit (Lit.string s) from trivial)]
    simp
  · rw [has_put_other (by intro e; injection e with e; exact h e), ih]
    simp [h]
theorem idxD_at (ks : List (List UInt8)) (s : List UInt8) (z : DataW Unit) (hn : ks.Nodup) : ∀ i, ks[i]? = some s → (idxD ks).atKey (.string s) z = .lit (.int .i64 (i : Nat)) := by
  revert hn
  refine snoc_ind (P := fun ks => ks.Nodup → ∀ i, ks[i]? = some s → (idxD ks).atKey (.string s) z = .lit (.int .i64 (i : Nat))) (fun _ i h => by simp at h) (fun l x ih hn i hi => ?_) ks
  rw [idxD_snoc]
  rw [List.nodup_append] at hn
  by_cases h : s = x
  · subst h
    rw [atKey_put_same (isMap_idxD l) (show WideAt.IsKeyLit (Lit.string s) from trivial)]
    by_cases hl : i < l.length
    · rw [List.getElem?_append_left hl] at hi
      exact absurd rfl (hn.2.2 s (List.mem_of_getElem? hi) s (by simp))
    · by_cases hl2 : i = l.length
      · subst hl2; rfl
      · rw [List.getElem?_eq_none (by simp; omega)] at hi; cases hi
  · rw [atKey_put_other (by intro e; injection e with e; exact h e)]
    refine ih hn.1 i ?_
    by_cases hl : i < l.length
    · rwa [List.getElem?_append_left hl] at hi
    · by_cases hl2 : i = l.length
      · subst hl2; simp at hi; exact absurd hi.symm h
      · rw [List.getElem?_eq_none (by simp; omega)] at hi; cases hi
end Go.Proofs.YtmloohicgdemfaaDoor
