/- A row of one's own: an element is read, an element is set. No program. -/
import Derived.Test.YtnkccilgbhogbaaDoorOwnMore
namespace Go.Proofs.YtnkccilgbhogbaaDoor
open Go.RowKit
set_option linter.unusedVariables false
section
variable {α : Type} {f : α → List Value} {sz : Nat}
theorem fm_get (hf : ∀ a, (f a).length = sz) : ∀ (l : List α) (i r : Nat), r < sz → (l.flatMap f)[i * sz + r]? = (l[i]?).bind fun a => (f a)[r]?
  | [], i, r, _ => by simp
  | x :: l, 0, r, hr => by
    rw [List.flatMap_cons, Nat.zero_mul, Nat.zero_add, List.getElem?_append_left (by rw [hf]; exact hr)]
    simp
  | x :: l, i + 1, r, hr => by
    rw [List.flatMap_cons, List.getElem?_append_right (by rw [hf, Nat.succ_mul]; omega), hf, Nat.succ_mul, show i * sz + sz + r - sz = i * sz + r by omega, fm_get hf l i r hr]
    simp
theorem fm_len (hf : ∀ a, (f a).length = sz) (l : List α) : (l.flatMap f).length = l.length * sz := flatMap_len hf l
/-- One cell of element i is set. -/
theorem fm_set (hf : ∀ a, (f a).length = sz) (l : List α) (i r : Nat) (x y : α) (u : Value) (hr : r < sz) (hx : l[i]? = some x) (hy : f y = (f x).set r u) : (l.set i y).flatMap f = (l.flatMap f).set (i * sz + r) u := by
  have hi : i < l.length := (List.getElem?_eq_some_iff.1 hx).1
  apply List.ext_getElem?
  intro k
  rw [List.getElem?_set]
  have hsz : 0 < sz := by omega
  obtain ⟨q, s, hs, rfl⟩ : ∃ q s, s < sz ∧ k = q * sz + s := ⟨k / sz, k % sz, Nat.mod_lt _ hsz, by rw [Nat.mul_comm]; exact (Nat.div_add_mod k sz).symm⟩
  rw [fm_get hf _ q s hs, fm_get hf _ q s hs, List.getElem?_set]
  by_cases hq : i = q
  · subst hq
    by_cases hrs : r = s
    · subst hrs
      rw [if_pos rfl, if_pos hi, if_pos rfl, if_pos (by rw [fm_len hf]; calc i * sz + r < i * sz + sz := by omega
          _ = (i + 1) * sz := by rw [Nat.succ_mul]
          _ ≤ l.length * sz := Nat.mul_le_mul_right _ hi)]
      simp only [Option.bind_some]
      rw [hy, List.getElem?_set, if_pos rfl, if_pos (by rw [hf]; exact hr)]
    · rw [if_pos rfl, if_pos hi, if_neg (by omega), hx]
      simp only [Option.bind_some]
      rw [hy, List.getElem?_set, if_neg hrs]
  · rw [if_neg hq, if_neg (fun e => hq (by
      have h1 : (i * sz + r) / sz = (q * sz + s) / sz := by rw [e]
      rw [Nat.mul_comm i, Nat.mul_comm q, Nat.mul_add_div hsz, Nat.mul_add_div hsz, Nat.div_eq_of_lt hr, Nat.div_eq_of_lt hs] at h1
      omega))]
end
section
variable {w : World} {base sz n : Nat} {e : TypeId} {v : Value} {xs : List Value}
/-- A row's block, and a cell of it. -/
theorem own_blk (h : w.ownsRow base e sz v n xs) (hn : 0 < n) : ∃ g cap cur, v = .slice (some ⟨g, 0, none⟩) n cap ∧ base ≤ g ∧ w.heap[g]? = some (.cells cur e (0, 0)) ∧ n ≤ cap ∧ cap ≤ maxLen ∧ cur.size = cap * sz ∧ cur.toList.take (n * sz) = xs := by
  rcases h.2 with ⟨_, h0⟩ | h
  · omega
  · exact h
theorem own_cell {g : Nat} {cap : Nat} (h : w.ownsRow base e sz (.slice (some ⟨g, 0, none⟩) n cap) n xs) (k : Nat) (u : Value) (hk : xs[k]? = some u) : w.cell? ⟨g, k, none⟩ = some u := by
  have := h.cells (g := g) rfl k u hk
  have e : ((⟨g, 0, none⟩ : Addr).add k) = ⟨g, k, none⟩ := by
    unfold Addr.add; split
    · rename_i e; rw [e]
    · simp
  rwa [e] at this
theorem own_sl (h : w.ownsRow base e sz v n xs) : ∃ a c, v = .slice a n c := by
  rcases h.2 with ⟨rfl, rfl⟩ | ⟨g, cap, cur, rfl, _⟩
  · exact ⟨_, _, rfl⟩
  · exact ⟨_, _, rfl⟩
/-- A cell of the row is set. -/
theorem own_set {g cap : Nat} (h : w.ownsRow base e sz (.slice (some ⟨g, 0, none⟩) n cap) n xs) (k : Nat) (u : Value) : (w.setCell ⟨g, k, none⟩ u).ownsRow base e sz (.slice (some ⟨g, 0, none⟩) n cap) n (xs.set k u) := by
  refine ⟨by rw [List.length_set]; exact h.1, ?_⟩
  rcases h.2 with ⟨h1, _⟩ | ⟨g', cap', cur, h1, h2, h3, h4, h5, h6, h7⟩
  · cases h1
  · simp only [Value.slice.injEq, Option.some.injEq, Addr.mk.injEq, true_and, and_true] at h1
    obtain ⟨rfl, rfl⟩ := h1
    refine .inr ⟨g, cap, cur.setIfInBounds k u, rfl, h2, block_set h3 u, h4, h5, by simpa using h6, ?_⟩
    rw [Array.toList_setIfInBounds, List.take_set, h7]
end
/-- A row's cells may be written. -/
theorem own_free {w : World} {base sz n g cap : Nat} {e : TypeId} {xs : List Value} (h : w.ownsRow base e sz (.slice (some ⟨g, 0, none⟩) n cap) n xs) (k : Nat) : w.frozen? ⟨g, k, none⟩ = false := by
  rcases h.2 with ⟨h1, _⟩ | ⟨g', cap', cur, h1, h2, h3, h4⟩
  · cases h1
  · simp only [Value.slice.injEq, Option.some.injEq, Addr.mk.injEq, true_and, and_true] at h1
    obtain ⟨rfl, rfl⟩ := h1
    exact block_free h3 k
end Go.Proofs.YtnkccilgbhogbaaDoor
