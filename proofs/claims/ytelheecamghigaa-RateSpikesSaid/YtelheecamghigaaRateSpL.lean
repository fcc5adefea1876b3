/- Rows of numbers that are sorted by swaps, and what a spike is. No program. -/
import Derived.Test.YtelheecamghigaaMem
import Derived.Sort.Row
namespace Go.Proofs.Ytelheecamghigaa
open Go.RowKit
set_option linter.unusedVariables false
/-- The first n of a row. -/
def lst (f : Nat → Int) (n : Nat) : List Int := (List.range n).map f
theorem lst_len (f : Nat → Int) (n : Nat) : (lst f n).length = n := by simp [lst]
theorem lst_get (f : Nat → Int) {n j : Nat} (h : j < n) : (lst f n)[j]? = some (f j) := by simp [lst, h]
def swp (f : Nat → Int) (k : Nat) : Nat → Int := fun j => if j = k + 1 then f k else if j = k then f (k + 1) else f j
theorem range_split (a m : Nat) : List.range (a + (2 + m)) = List.range a ++ ([a, a + 1] ++ (List.range m).map (fun x => a + (2 + x))) := by
  rw [List.range_add, List.range_add]
  simp [List.range_succ]
theorem lst_swap (f : Nat → Int) (k n : Nat) (h : k + 1 < n) : (lst (swp f k) n).Perm (lst f n) := by
  obtain ⟨m, rfl⟩ : ∃ m, n = k + (2 + m) := ⟨n - k - 2, by omega⟩
  unfold lst
  rw [range_split]
  simp only [List.map_append, List.map_cons, List.map_nil, List.map_map]
  have h1 : (List.range k).map (swp f k) = (List.range k).map f := List.map_congr_left fun j hj => by
    have : j < k := by simpa using hj
    unfold swp; rw [if_neg (by omega), if_neg (by omega)]
  have h2 : (List.range m).map (swp f k ∘ fun x => k + (2 + x)) = (List.range m).map (f ∘ fun x => k + (2 + x)) := List.map_congr_left fun j hj => by
    simp only [Function.comp]
    unfold swp; rw [if_neg (by omega), if_neg (by omega)]
  rw [h1, h2, show swp f k k = f (k + 1) by unfold swp; rw [if_neg (by omega), if_pos rfl], show swp f k (k + 1) = f k by unfold swp; rw [if_pos rfl]]
  exact List.Perm.append_left _ (List.Perm.append_right _ (List.Perm.swap _ _ _))
/-- The first i are sorted. -/
def Srt (f : Nat → Int) (i : Nat) : Prop := ∀ p q, p ≤ q → q < i → f p ≤ f q
/-- The first i + 1 are sorted but for number k, which is no greater than those behind it. -/
def Ins (f : Nat → Int) (i k : Nat) : Prop := (∀ p q, p ≤ q → q ≤ i → p ≠ k → q ≠ k → f p ≤ f q) ∧ ∀ q, k < q → q ≤ i → f k ≤ f q
theorem Ins.start {f : Nat → Int} {i : Nat} (h : Srt f i) : Ins f i i := ⟨fun p q h1 h2 h3 h4 => h p q h1 (by omega), fun q h1 h2 => by omega⟩
theorem Ins.step {f : Nat → Int} {i k : Nat} (h : Ins f i (k + 1)) (hk : k + 1 ≤ i) (hlt : f (k + 1) < f k) : Ins (swp f k) i k := by
  have e1 : swp f k (k + 1) = f k := by unfold swp; rw [if_pos rfl]
  have e2 : swp f k k = f (k + 1) := by unfold swp; rw [if_neg (by omega), if_pos rfl]
  have e3 : ∀ j, j ≠ k → j ≠ k + 1 → swp f k j = f j := fun j h1 h2 => by unfold swp; rw [if_neg h2, if_neg h1]
  refine ⟨fun p q h1 h2 h3 h4 => ?_, fun q h1 h2 => ?_⟩
  · by_cases hp : p = k + 1
    · subst hp
      by_cases hq : q = k + 1
      · subst hq; exact Int.le_refl _
      · rw [e1, e3 q h4 hq]; exact h.1 k q (by omega) h2 (by omega) hq
    · rw [e3 p h3 hp]
      by_cases hq : q = k + 1
      · subst hq; rw [e1]; exact h.1 p k (by omega) (by omega) hp (by omega)
      · rw [e3 q h4 hq]; exact h.1 p q h1 h2 hp hq
  · rw [e2]
    by_cases hq : q = k + 1
    · subst hq; rw [e1]; omega
    · rw [e3 q (by omega) hq]; exact h.2 q (by omega) h2
theorem Ins.done {f : Nat → Int} {i k : Nat} (h : Ins f i k) (hk : k ≤ i) (hge : ∀ m, k = m + 1 → f m ≤ f k) : Srt f (i + 1) := by
  intro p q h1 h2
  by_cases hp : p = k
  · subst hp
    by_cases hq : q = p
    · subst hq; exact Int.le_refl _
    · exact h.2 q (by omega) (by omega)
  · by_cases hq : q = k
    · subst hq
      obtain ⟨m, rfl⟩ : ∃ m, q = m + 1 := ⟨q - 1, by omega⟩
      exact Int.le_trans (h.1 p m (by omega) (by omega) hp (by omega)) (hge m rfl)
    · exact h.1 p q h1 (by omega) hp hq
theorem sorted_eq : ∀ (l1 l2 : List Int), l1.Perm l2 → l1.Pairwise (· ≤ ·) → l2.Pairwise (· ≤ ·) → l1 = l2
  | [], l2, h, _, _ => (List.Perm.nil_eq h)
  | a :: l1, [], h, _, _ => by have := h.length_eq; simp at this
  | a :: l1, b :: l2, h, h1, h2 => by
    have ha : a ∈ b :: l2 := h.subset (List.mem_cons_self ..)
    have hb : b ∈ a :: l1 := h.symm.subset (List.mem_cons_self ..)
    have hab : a = b := by
      have k1 : b ≤ a := by
        rcases List.mem_cons.1 ha with e | e
        · omega
        · exact (List.pairwise_cons.1 h2).1 a e
      have k2 : a ≤ b := by
        rcases List.mem_cons.1 hb with e | e
        · omega
        · exact (List.pairwise_cons.1 h1).1 b e
      omega
    subst hab
    rw [sorted_eq l1 l2 (List.perm_cons _ |>.1 h) (List.pairwise_cons.1 h1).2 (List.pairwise_cons.1 h2).2]
/-- The numbers in order. -/
def srt (zs : List Int) : List Int := zs.mergeSort fun x y => decide (x ≤ y)
theorem srt_pairwise (zs : List Int) : (srt zs).Pairwise (· ≤ ·) := by
  have := List.pairwise_mergeSort (le := fun x y : Int => decide (x ≤ y)) (fun a b c h1 h2 => by simp at *; omega) (fun a b => by simp; omega) zs
  simpa [srt] using this
theorem srt_perm (zs : List Int) : (srt zs).Perm zs := List.mergeSort_perm _ _
theorem Srt.eq {f : Nat → Int} {n : Nat} {zs : List Int} (h : Srt f n) (hp : (lst f n).Perm zs) : lst f n = srt zs := by
  refine sorted_eq _ _ (hp.trans (srt_perm zs).symm) ?_ (srt_pairwise zs)
  rw [List.pairwise_iff_getElem]
  intro i j hi hj hij
  simp only [lst, List.getElem_map, List.getElem_range]
  exact h i j (by omega) (by simpa [lst] using hj)
theorem srt_len (zs : List Int) : (srt zs).length = zs.length := (srt_perm zs).length_eq
theorem srt_mem {zs : List Int} {P : Int → Prop} (h : ∀ x ∈ zs, P x) {j : Nat} {x : Int} (hx : (srt zs)[j]? = some x) : P x := h x ((srt_perm zs).subset (List.mem_of_getElem? hx))
/-- A row of numbers in a block. -/
def IR (w : World) (g n : Nat) (f : Nat → Int) : Prop := ∀ j, j < n → w.cell? ⟨g, j, none⟩ = some (.int .i64 (f j)) ∧ w.frozen? ⟨g, j, none⟩ = false
theorem IR.set {w : World} {g n k : Nat} {f f' : Nat → Int} (h : IR w g n f) (hk : k < n) (x : Int) (hx : f' k = x) (ho : ∀ j, j ≠ k → f' j = f j) : IR (w.setCell ⟨g, k, none⟩ (.int .i64 x)) g n f' := by
  intro j hj
  refine ⟨?_, by rw [World.frozen?_setCell]; exact (h j hj).2⟩
  by_cases e : j = k
  · subst e; rw [hx]; exact World.cell?_setCell_same' _ _ _ (by rw [(h j hj).1]; rfl)
  · rw [World.cell?_setCell_other w ⟨g, k, none⟩ ⟨g, j, none⟩ _ (by intro e2; injection e2 with _ e3; exact e e3.symm), ho j e]; exact (h j hj).1
theorem IR.congr {w : World} {g n : Nat} {f f' : Nat → Int} (h : IR w g n f) (hf : ∀ j, j < n → f j = f' j) : IR w g n f' := fun j hj => by rw [← hf j hj]; exact h j hj
/-- What the error of a spike is. -/
def spErr (l : List Int) (p q : Int) : Int :=
  if l.length < 2 then 7 else if 1000 < l.length then 4 else if ∃ x ∈ l, x < 0 ∨ 1000000000 < x then 2 else if (p < 0 ∨ 100000 < p) ∨ (q < 0 ∨ 1000000000 < q) then 2 else 0
/-- The number in the middle of those before the last one. -/
def midOf (l : List Int) : Int := ((srt l.dropLast)[(l.length - 2) / 2]?).getD 0
def markOf (l : List Int) (p q : Int) : Int := max ((midOf l * p + 99) / 100) q
end Go.Proofs.Ytelheecamghigaa
