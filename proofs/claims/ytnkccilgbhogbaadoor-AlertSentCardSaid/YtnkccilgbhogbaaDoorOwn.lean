/- An owned row, read as a list. No program. -/
import Derived.Test.YtnkccilgbhogbaaDoorMem
import Derived.Laws.AppendOwn
import Derived.OwnWalk
namespace Go.Proofs.YtnkccilgbhogbaaDoor
open Go.RowKit
/-- The cells of a new block, as an append's source wants them. -/
theorem cells_new (w : World) (cs : List Value) (t : TypeId) : ∀ j u, cs[j]? = some u → (w.alloc (.cells cs.toArray t)).cell? ((⟨w.heap.size, 0, none⟩ : Addr).add j) = some u := by
  intro j u h
  have : ((⟨w.heap.size, 0, none⟩ : Addr).add j) = ⟨w.heap.size, j, none⟩ := by
    unfold Addr.add; split
    · rename_i e; subst e; rfl
    · simp
  rw [this, World.cell?_alloc_new]
  simpa using h
theorem cells_at (w : World) (cs : List Value) (t : TypeId) (b : Nat) (hb : b = w.heap.size) : ∀ j u, cs[j]? = some u → (w.alloc (.cells cs.toArray t)).cell? ((⟨b, 0, none⟩ : Addr).add j) = some u := by
  subst hb; exact cells_new w cs t
/-- An owned row, read as a list. -/
theorem sl_of_own {α : Type} {w : World} {base sz n : Nat} {e : TypeId} {v : Value} {f : α → List Value} {l : List α} (hf : ∀ a, (f a).length = sz) (hn : l.length = n)
    (h : w.ownsRow base e sz v n (l.flatMap f)) : ∃ A c, v = .slice A n c ∧ Sl w w.heap.size f sz A n l ∧ n ≤ c ∧ (n = 0 ∨ c ≤ maxLen) := by
  have key : ∀ (l : List α) (i : Nat) (a : α), l[i]? = some a → ∀ j v, (f a)[j]? = some v → (l.flatMap f)[i * sz + j]? = some v := by
    intro l
    induction l with
    | nil => intro i a h; simp at h
    | cons x l ih =>
      intro i a ha j v hv
      rw [List.flatMap_cons]
      cases i with
      | zero =>
        simp at ha; subst ha
        have hj : j < (f x).length := (List.getElem?_eq_some_iff.1 hv).1
        rw [Nat.zero_mul, Nat.zero_add, List.getElem?_append_left hj]
        exact hv
      | succ i =>
        have := ih i a (by simpa using ha) j v hv
        rw [List.getElem?_append_right (by rw [hf, Nat.succ_mul]; omega), hf, Nat.succ_mul, show i * sz + sz + j - sz = i * sz + j by omega]
        exact this
  rcases h.2 with ⟨rfl, h0⟩ | ⟨g, cap, cur, rfl, hg, hh, hnc, hcm, _, _⟩
  · subst h0
    obtain rfl : l = [] := List.eq_nil_of_length_eq_zero hn
    exact ⟨none, 0, rfl, Sl.nil _ _ _ _ _, Nat.le_refl _, .inl rfl⟩
  · refine ⟨some ⟨g, 0, none⟩, cap, rfl, ⟨hn, fun _ => ⟨g, 0, rfl, ?_, fun i a ha j v hv => ?_⟩⟩, hnc, .inr hcm⟩
    · rcases Nat.lt_or_ge g w.heap.size with hlt | hge
      · exact hlt
      · rw [Array.getElem?_eq_none hge] at hh; cases hh
    · have hk := key l i a ha j v hv
      have hc := h.cells (g := g) rfl _ _ hk
      have e : ((⟨g, 0, none⟩ : Addr).add (i * sz + j)) = ⟨g, 0 + i * sz + j, none⟩ := by
        unfold Addr.add; split
        · rename_i e; rw [Nat.zero_add, e]
        · simp
      rw [e] at hc
      exact hc
end Go.Proofs.YtnkccilgbhogbaaDoor
