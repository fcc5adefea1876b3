/- What a call keeps: all blocks outside its own. No program. -/
import Derived.Test.YtnkccilgbhogbaaDoorRowSet
import Derived.Maps.AppendAt
namespace Go.Proofs.YtnkccilgbhogbaaDoor
open Go.RowKit
set_option linter.unusedVariables false
structure ButAt (c : Nat) (w w' : World) : Prop where
  be : Below c w w'
  keep : ∀ k o, w.heap[k]? = some o → k ≠ c → w'.heap[k]? = some o
theorem ButAt.refl (c : Nat) (w : World) : ButAt c w w := ⟨Below.refl _ _, fun _ _ h _ => h⟩
theorem ButAt.trans {c : Nat} {w w1 w2 : World} (h : ButAt c w w1) (h' : ButAt c w1 w2) : ButAt c w w2 := ⟨h.be.trans h'.be, fun k o e ne => h'.keep k o (h.keep k o e ne) ne⟩
theorem ButAt.of_below {c : Nat} {w w' : World} (h : Below w.heap.size w w') (hc : c ≤ w.heap.size) : ButAt c w w' := ⟨h.mono hc, fun k o e _ => block_below e h⟩
theorem ButAt.set {c : Nat} (w : World) (i : Nat) (u : Value) : ButAt c w (w.setCell ⟨c, i, none⟩ u) := ⟨(Below.refl _ _).setCell (p := ⟨c, i, none⟩) (Nat.le_refl _) _, fun k o e ne => block_set_other e _ _ ne⟩
theorem ButAt.set2 {c : Nat} (w : World) (i j : Nat) (u v : Value) : ButAt c w ((w.setCell ⟨c, i, none⟩ u).setCell ⟨c, j, none⟩ v) := (ButAt.set w i u).trans (ButAt.set _ j v)
structure Keep (B : Nat) (P : Nat → Prop) (w w' : World) : Prop where
  be : Below B w w'
  keep : ∀ k o, w.heap[k]? = some o → ¬ P k → w'.heap[k]? = some o
theorem Keep.refl (B : Nat) (P : Nat → Prop) (w : World) : Keep B P w w := ⟨Below.refl _ _, fun _ _ h _ => h⟩
theorem Keep.trans {B : Nat} {P : Nat → Prop} {w w1 w2 : World} (h : Keep B P w w1) (h' : Keep B P w1 w2) : Keep B P w w2 := ⟨h.be.trans h'.be, fun k o e ne => h'.keep k o (h.keep k o e ne) ne⟩
theorem Keep.mono {B B' : Nat} {P P' : Nat → Prop} {w w' : World} (h : Keep B P w w') (hB : B' ≤ B) (hP : ∀ k, P k → P' k) : Keep B' P' w w' := ⟨h.be.mono hB, fun k o e ne => h.keep k o e (fun hp => ne (hP k hp))⟩
theorem Keep.of_but {B c : Nat} {P : Nat → Prop} {w w' : World} (h : ButAt c w w') (hB : B ≤ c) (hP : P c) : Keep B P w w' := ⟨h.be.mono hB, fun k o e ne => h.keep k o e (fun hk => ne (hk ▸ hP))⟩
theorem Keep.of_below {B : Nat} {P : Nat → Prop} {w w' : World} (h : Below w.heap.size w w') (hB : B ≤ w.heap.size) : Keep B P w w' := ⟨h.mono hB, fun k o e _ => block_below e h⟩
theorem Keep.set {B c : Nat} {P : Nat → Prop} (w : World) (i : Nat) (u : Value) (hB : B ≤ c) (hP : P c) : Keep B P w (w.setCell ⟨c, i, none⟩ u) := Keep.of_but (ButAt.set w i u) hB hP
theorem Keep.grown {B : Nat} {P : Nat → Prop} {w w2 : World} {o : Obj} {r : Option Nat} (hg : (w.alloc o).grownBy w2 r) (hB : B ≤ w.heap.size) (hr : ∀ k, r = some k → B ≤ k ∧ P k) : Keep B P w w2 :=
  ⟨((Below.refl _ _).alloc hB o).grown hg (by simp; omega) (fun k hk => (hr k hk).1), fun k ob e ne => by
    have h1 := block_below e ((Below.refl _ _).alloc (Nat.le_refl _) o)
    exact (hg.block k (lt_of_block h1) (fun e => ne (hr k e.symm).2)).trans h1⟩
theorem Keep.own {B : Nat} {P : Nat → Prop} {w w' : World} {base sz n : Nat} {e : TypeId} {v : Value} {xs : List Value} (h : Keep B P w w') (ho : w.ownsRow base e sz v n xs) (hv : ∀ k, v.ownBlock = some k → ¬ P k) : w'.ownsRow base e sz v n xs := by
  refine ⟨ho.1, ?_⟩
  rcases ho.2 with h1 | ⟨g, cap, cur, q1, q2, q3, q4⟩
  · exact .inl h1
  · exact .inr ⟨g, cap, cur, q1, q2, h.keep g _ q3 (hv g (by rw [q1]; rfl)), q4⟩
theorem str_ne {s t : ByteArray} (h : s ≠ t) : (s.toList == t.toList) = false ∧ ¬ s.toList = t.toList := by
  have h1 : ¬ s.toList = t.toList := by
    rw [ByteArray.toList_eq, ByteArray.toList_eq]
    intro e
    apply h
    obtain ⟨⟨l⟩⟩ := s
    obtain ⟨⟨m⟩⟩ := t
    simp at e
    rw [e]
  exact ⟨by simpa using h1, h1⟩
end Go.Proofs.YtnkccilgbhogbaaDoor
