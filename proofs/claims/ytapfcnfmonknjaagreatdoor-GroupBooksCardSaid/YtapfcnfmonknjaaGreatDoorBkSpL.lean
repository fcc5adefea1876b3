/- What Split answers: plain law. -/
import Derived.Test.YtapfcnfmonknjaaGreatDoorBkUn
namespace Go.Proofs.YtapfcnfmonknjaaGreatDoor.Bk
open Go.RowKit Go.Maps Go.Sort
set_option linter.unusedVariables false
def leO (x : List UInt8) : Option (List UInt8) → Bool
  | none => false
  | some y => decide (x ≤ y)
def spLoop (all : List (List UInt8)) : Option (List UInt8) → List (List UInt8) → Int
  | _, [] => 0
  | prev, x :: r => if x ∉ all then 7 else if leO x prev = true then 5 else spLoop all (some x) r
/-- The error that Split answers (7: none, 5: order, 1: form). -/
def spE (all ps : List (List UInt8)) : Int := if all = [] ∨ ps = [] then 7 else if spLoop all none ps ≠ 0 then spLoop all none ps else if ps.length = all.length then 1 else 0
def prevO (ps : List (List UInt8)) (j : Nat) : Option (List UInt8) := if j = 0 then none else ps[j - 1]?
theorem drop_at {ps : List (List UInt8)} {j : Nat} {x : List UInt8} (h : ps[j]? = some x) : ps.drop j = x :: ps.drop (j + 1) := by
  have hj := (List.getElem?_eq_some_iff.1 h).1
  rw [List.drop_eq_getElem_cons hj, (List.getElem?_eq_some_iff.1 h).2]
theorem good_drop {all ps : List (List UInt8)} : ∀ j : Nat, j ≤ ps.length → (∀ s ∈ ps.take j, s ∈ all) → (ps.take j).Pairwise (· < ·) → spLoop all none ps = spLoop all (prevO ps j) (ps.drop j)
  | 0, _, _, _ => rfl
  | j + 1, hj, hin, hpw => by
    obtain ⟨x, hx⟩ : ∃ x, ps[j]? = some x := ⟨_, List.getElem?_eq_getElem (by omega)⟩
    rw [take_succ_get hx] at hin hpw
    rw [List.pairwise_append] at hpw
    rw [good_drop j (by omega) (fun s hs => hin s (List.mem_append_left _ hs)) hpw.1, drop_at hx]
    have hxa : x ∈ all := hin x (by simp)
    have hle : leO x (prevO ps j) = false := by
      unfold prevO
      by_cases h0 : j = 0
      · rw [if_pos h0]; rfl
      · rw [if_neg h0]
        obtain ⟨y, hy⟩ : ∃ y, ps[j - 1]? = some y := ⟨_, List.getElem?_eq_getElem (by omega)⟩
        rw [hy]
        have hym : y ∈ ps.take j := List.mem_of_getElem? (i := j - 1) (by rw [List.getElem?_take, if_pos (by omega)]; exact hy)
        have h9 := hpw.2.2 y hym x (by simp)
        exact decide_eq_false (fun h => (List.not_lt.2 h) h9)
    show spLoop all (prevO ps j) (x :: ps.drop (j + 1)) = _
    rw [spLoop, if_neg (by simpa using hxa), if_neg (by rw [hle]; decide)]
    rw [show prevO ps (j + 1) = some x by unfold prevO; rw [if_neg (by omega)]; exact hx]
theorem spE_loop {all ps : List (List UInt8)} (h1 : all ≠ []) (h2 : ps ≠ []) {e : Int} (he : spLoop all none ps = e) (h0 : e ≠ 0) : spE all ps = e := by
  rw [spE, if_neg (by rintro (h | h); exact h1 h; exact h2 h), if_pos (by rw [he]; exact h0), he]
theorem spE_end {all ps : List (List UInt8)} (h1 : all ≠ []) (h2 : ps ≠ []) (h0 : spLoop all none ps = 0) : spE all ps = if ps.length = all.length then 1 else 0 := by
  rw [spE, if_neg (by rintro (h | h); exact h1 h; exact h2 h), if_neg (by rw [h0]; simp)]
theorem loop_none {all ps : List (List UInt8)} {j : Nat} {x : List UInt8} (hx : ps[j]? = some x) (hin : ∀ s ∈ ps.take j, s ∈ all) (hpw : (ps.take j).Pairwise (· < ·)) (hno : x ∉ all) : spLoop all none ps = 7 := by
  rw [good_drop j (by have := (List.getElem?_eq_some_iff.1 hx).1; omega) hin hpw, drop_at hx, spLoop, if_pos hno]
theorem loop_order {all ps : List (List UInt8)} {j : Nat} {x y : List UInt8} (hx : ps[j]? = some x) (hin : ∀ s ∈ ps.take j, s ∈ all) (hpw : (ps.take j).Pairwise (· < ·)) (hxa : x ∈ all) (h0 : 0 < j) (hy : ps[j - 1]? = some y) (hle : x ≤ y) : spLoop all none ps = 5 := by
  rw [good_drop j (by have := (List.getElem?_eq_some_iff.1 hx).1; omega) hin hpw, drop_at hx, spLoop, if_neg (by simpa using hxa), if_pos]
  unfold prevO
  rw [if_neg (by omega), hy]
  exact decide_eq_true hle
theorem loop_end {all ps : List (List UInt8)} (hin : ∀ s ∈ ps, s ∈ all) (hpw : ps.Pairwise (· < ·)) : spLoop all none ps = 0 := by
  have h := good_drop (all := all) (ps := ps) ps.length (Nat.le_refl _) (by rw [List.take_length]; exact hin) (by rw [List.take_length]; exact hpw)
  rw [h, List.drop_length]
  rfl
end Go.Proofs.YtapfcnfmonknjaaGreatDoor.Bk
