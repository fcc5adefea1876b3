/- What is folded unfolds: the plain law. No program. -/
import Derived.Test.YtbfhicimjijdeaaDoorStFoldL
import Derived.Test.YtbfhicimjijdeaaDoorStRuns2
namespace Go.Proofs.YtbfhicimjijdeaaDoor
open Go.RowKit
/-- Runs that follow each other over the first a frames. -/
inductive Folds (l : List Frame) : List RunT → Nat → Prop
  | nil : Folds l [] 0
  | snoc {o : List RunT} {a x y : Nat} : Folds l o a → 1 ≤ x → 1 ≤ y → a + x * y ≤ l.length → (l.drop a).take (x * y) = (List.replicate y ((l.drop a).take x)).flatten → Folds l (o ++ [⟨a, x, y⟩]) (a + x * y)
theorem Folds.inv {l : List Frame} {o : List RunT} {r : RunT} {a : Nat} (h : Folds l (o ++ [r]) a) : ∃ a0 x y : Nat, Folds l o a0 ∧ 1 ≤ x ∧ 1 ≤ y ∧ r = ⟨a0, x, y⟩ ∧ a = a0 + x * y ∧ a ≤ l.length := by
  generalize hm : o ++ [r] = m at h
  cases h with
  | nil => simp at hm
  | @snoc o' a0 x y h1 h2 h3 h4 h5 =>
    have e := List.append_inj' hm rfl
    obtain ⟨rfl, e2⟩ := e
    have e3 : r = ⟨a0, x, y⟩ := by simpa using e2
    exact ⟨a0, x, y, h1, h2, h3, e3, rfl, h4⟩
theorem Folds.push {l : List Frame} {out : List RunT} {a x y : Nat} (h : Folds l out a) (hx : 1 ≤ x) (hy : 1 ≤ y) (hn : a + x * y ≤ l.length) (hr : (l.drop a).take (x * y) = (List.replicate y ((l.drop a).take x)).flatten) (h1 : y = 1 → x = 1) :
    Folds l (pushRun out ⟨a, x, y⟩) (a + x * y) := by
  rcases List.eq_nil_or_concat out with rfl | ⟨o, r, rfl⟩
  · have := Folds.snoc h hx hy hn hr
    exact this
  · rw [List.concat_eq_append] at h ⊢
    by_cases hj : r.times = 1 ∧ (y : Int) = 1
    · obtain ⟨a0, x0, y0, h0, b1, b2, rfl, rfl, _⟩ := h.inv
      have ey : y = 1 := by omega
      have ey0 : y0 = 1 := by have := hj.1; simp only at this; omega
      have ex := h1 ey
      subst ey ex ey0
      rw [pushRun_join _ _ _ hj.1 hj.2]
      have e : a0 + x0 * 1 + 1 * 1 = a0 + (x0 + 1) * 1 := by omega
      rw [e] at hn ⊢
      have := Folds.snoc (x := x0 + 1) (y := 1) h0 (by omega) (Nat.le_refl _) hn (by simp)
      simpa using this
    · rw [pushRun_new _ _ _ hj]
      exact Folds.snoc h hx hy hn hr
theorem tm_rep {l : List Frame} {g : Nat} : ∀ (f j : Nat), l.take (j * g) = (List.replicate j (l.take g)).flatten → l.take (tmFrom l g f j * g) = (List.replicate (tmFrom l g f j) (l.take g)).flatten := by
  intro f
  induction f with
  | zero => intro j h; exact h
  | succ f ih =>
    intro j h
    rw [tmFrom]
    split
    · rename_i hs
      refine ih (j + 1) ?_
      rw [Nat.succ_mul, List.take_add, h, replicate_more, ← hs.2]
    · exact h
theorem times_rep (l : List Frame) (g : Nat) : l.take (timesOf l g * g) = (List.replicate (timesOf l g) (l.take g)).flatten := tm_rep _ _ (by simp)
theorem bestUp_rep (l : List Frame) : ∀ g, (l.take ((bestUp l g).1 * (bestUp l g).2) = (List.replicate (bestUp l g).2 (l.take (bestUp l g).1)).flatten) ∧ ((bestUp l g).2 = 1 → (bestUp l g).1 = 1) := by
  intro g
  induction g with
  | zero => exact ⟨by simp [bestUp], fun _ => rfl⟩
  | succ g ih =>
    rw [bestUp]
    split
    · rename_i h
      exact ⟨by rw [Nat.mul_comm]; exact times_rep l (g + 1), fun e => by have := h.1; simp only at e; omega⟩
    · exact ih
theorem folds_W {l : List Frame} : ∀ (f a : Nat) (out : List RunT), Folds l out a → l.length - a ≤ f → a ≤ l.length → Folds l (foldW l f a out) l.length := by
  intro f
  induction f with
  | zero => intro a out h h1 h2; rw [foldW]; rw [show l.length = a by omega]; exact h
  | succ f ih =>
    intro a out h h1 h2
    rw [foldW]
    split
    · rename_i hlt
      have hn := nextAt_bd hlt
      obtain ⟨b1, b2, b3⟩ := bestOf_bd (l := l.drop a) (by rw [List.length_drop]; omega)
      obtain ⟨r1, r2⟩ := bestUp_rep (l.drop a) ((l.drop a).length / 2)
      exact ih _ _ (Folds.push h b1 b2 hn.2 r1 r2) (by omega) hn.2
    · rename_i hlt
      rw [show l.length = a by omega]; exact h
theorem folds_L (l : List Frame) : Folds l (foldL l) l.length := folds_W _ _ _ Folds.nil (by omega) (Nat.zero_le _)
/-- Each run's frames once. -/
def onceL (l : List Frame) (rs : List RunT) : List Frame := rs.flatMap fun r => (l.drop r.frm.toNat).take r.long.toNat
theorem onceL_snoc (l : List Frame) (rs : List RunT) (r : RunT) : onceL l (rs ++ [r]) = onceL l rs ++ (l.drop r.frm.toNat).take r.long.toNat := by simp [onceL]
theorem unfL_app (M : List Frame) : ∀ (rs : List RunT) (L : List Frame), longs rs ≤ L.length → unfL (L ++ M) rs = unfL L rs := by
  intro rs
  induction rs with
  | nil => intro L _; rfl
  | cons r rs ih =>
    intro L h
    rw [longs_cons] at h
    rw [unfL, unfL, List.take_append_of_le_length (by omega), List.drop_append_of_le_length (by omega), ih _ (by rw [List.length_drop]; omega)]
structure FoldsSay (l : List Frame) (rs : List RunT) (a : Nat) : Prop where
  tot : total rs = a
  len : longs rs = (onceL l rs).length
  sum : sumLong rs = (onceL l rs).length
  unf : unfL (onceL l rs) rs = l.take a
  bd : ∀ x ∈ rs, 1 ≤ x.long ∧ 1 ≤ x.times ∧ 0 ≤ x.frm ∧ x.frm + x.long * x.times ≤ l.length
  chain : ∀ j x, rs[j]? = some x → x.frm = total (rs.take j)
  le : a ≤ l.length
theorem Folds.say {l : List Frame} {rs : List RunT} {a : Nat} (h : Folds l rs a) : FoldsSay l rs a := by
  induction h with
  | nil => exact ⟨rfl, rfl, rfl, rfl, by simp, by simp, Nat.zero_le _⟩
  | @snoc o a x y h hx hy hn hr ih =>
    have hxy : ((x * y : Nat) : Int) = (x : Int) * (y : Int) := Int.natCast_mul x y
    have hseg : ((l.drop a).take x).length = x := by
      rw [List.length_take, List.length_drop]
      have := Nat.le_mul_of_pos_right x hy
      omega
    refine ⟨?_, ?_, ?_, ?_, ?_, ?_, hn⟩
    · rw [total_snoc, ih.tot]; simp only; omega
    · rw [longs_snoc, onceL_snoc, List.length_append, ih.len]; simp [hseg]
    · rw [sumLong_snoc, onceL_snoc, List.length_append, ih.sum]; simp [hseg]
    · rw [unfL_snoc, onceL_snoc, unfL_app _ _ _ (by rw [ih.len]; exact Nat.le_refl _), ih.unf, ih.len, List.drop_left]
      simp only [Int.toNat_natCast]
      rw [List.take_take, Nat.min_self, ← hr, ← List.take_add]
    · intro z hz
      rcases List.mem_append.1 hz with hz | hz
      · exact ih.bd z hz
      · rw [List.mem_singleton] at hz; subst hz; simp only; omega
    · intro j z hz
      by_cases hj : j < o.length
      · rw [List.getElem?_append_left hj] at hz
        rw [List.take_append_of_le_length (by omega)]
        exact ih.chain j z hz
      · rw [List.getElem?_append_right (by omega)] at hz
        have hj2 : j - o.length = 0 := by
          rcases Nat.eq_zero_or_pos (j - o.length) with h0 | h0
          · exact h0
          · rw [List.getElem?_eq_none (by simp; omega)] at hz; cases hz
        rw [hj2] at hz
        simp at hz
        subst hz
        rw [show j = o.length by omega, List.take_left, ih.tot]
end Go.Proofs.YtbfhicimjijdeaaDoor
