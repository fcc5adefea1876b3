/- The search for a fair line, and the rates that it gives. No program. -/
import Derived.Test.YtnbmohekikhknaaRateSh
import Derived.Test.YtnbmohekikhknaaMem
import Derived.Laws.AppendOwn
import Derived.OwnWalk
namespace Go.Proofs.Ytnbmohekikhknaa
open Go.RowKit
structure RateK where
  key : ByteArray
  keep : Int
def RateK.cs (x : RateK) : List Value := [.string x.key, .int .i64 x.keep]
def InRange (l : List Share) : Prop := ∀ x ∈ l, 0 ≤ x.came ∧ x.came ≤ 1000000000
def mx (a b : Int) : Int := if a < b then b else a
def mn (a b : Int) : Int := if a < b then a else b
theorem mx_max (a b : Int) : mx a b = max a b := by unfold mx; split <;> omega
theorem mn_min (a b : Int) : mn a b = min a b := by unfold mn; split <;> omega
def maxCame (l : List Share) : Int := l.foldl (fun m x => mx m x.came) 0
def sumMin (l : List Share) (m : Int) : Int := l.foldl (fun s x => s + mn x.came m) 0
theorem maxCame_snoc (l : List Share) (x : Share) : maxCame (l ++ [x]) = mx (maxCame l) x.came := by simp [maxCame]
theorem sumMin_snoc (l : List Share) (x : Share) (m : Int) : sumMin (l ++ [x]) m = sumMin l m + mn x.came m := by simp [sumMin]
theorem snoc_ind' {α : Type} {P : List α → Prop} (h0 : P []) (h1 : ∀ l x, P l → P (l ++ [x])) (l : List α) : P l := by
  rw [← List.reverse_reverse l]
  generalize l.reverse = m
  induction m with
  | nil => exact h0
  | cons x m ih => rw [List.reverse_cons]; exact h1 _ _ ih
theorem maxCame_bd (l : List Share) : InRange l → 0 ≤ maxCame l ∧ maxCame l ≤ 1000000000 ∧ ∀ x ∈ l, x.came ≤ maxCame l := by
  refine snoc_ind' (P := fun l => InRange l → 0 ≤ maxCame l ∧ maxCame l ≤ 1000000000 ∧ ∀ x ∈ l, x.came ≤ maxCame l) (fun _ => ⟨by decide, by decide, by simp⟩) (fun l x ih h => ?_) l
  obtain ⟨h1, h2, h3⟩ := ih fun y hy => h y (List.mem_append_left _ hy)
  have hx := h x (by simp)
  rw [maxCame_snoc]
  unfold mx
  refine ⟨by split <;> omega, by split <;> omega, fun y hy => ?_⟩
  rcases List.mem_append.1 hy with hy | hy
  · have := h3 y hy; split <;> omega
  · simp at hy; subst hy; split <;> omega
theorem sumMin_bd (l : List Share) (m : Int) (h0 : 0 ≤ m) : InRange l → 0 ≤ sumMin l m ∧ sumMin l m ≤ 1000000000 * l.length := by
  refine snoc_ind' (P := fun l => InRange l → 0 ≤ sumMin l m ∧ sumMin l m ≤ 1000000000 * l.length) (fun _ => ⟨Int.le_refl 0, by simp [sumMin]⟩) (fun l x ih h => ?_) l
  obtain ⟨h1, h2⟩ := ih fun y hy => h y (List.mem_append_left _ hy)
  have hx := h x (by simp)
  rw [sumMin_snoc, List.length_append, List.length_singleton]
  unfold mn
  split <;> omega
/-- The search, with so many steps at most. -/
def half (l : List Share) (most : Int) : Nat → Int → Int → Int
  | 0, lo, _ => lo
  | f + 1, lo, hi => if lo < hi then (if sumMin l ((lo + hi + 1) / 2) ≤ most then half l most f ((lo + hi + 1) / 2) hi else half l most f lo ((lo + hi + 1) / 2 - 1)) else lo
theorem half_more (l : List Share) (most : Int) : ∀ (f g : Nat) (lo hi : Int), (hi - lo).toNat ≤ f → (hi - lo).toNat ≤ g → half l most f lo hi = half l most g lo hi := by
  intro f
  induction f with
  | zero =>
    intro g lo hi h1 _
    cases g with
    | zero => rfl
    | succ g => rw [half, half, if_neg (by omega)]
  | succ f ih =>
    intro g lo hi h1 h2
    by_cases h : lo < hi
    · cases g with
      | zero => omega
      | succ g =>
        rw [half, half, if_pos h, if_pos h]
        split
        · exact ih g _ _ (by omega) (by omega)
        · exact ih g _ _ (by omega) (by omega)
    · rw [half, if_neg h]
      cases g with
      | zero => rfl
      | succ g => rw [half, if_neg h]
/-- The search from here on. -/
def srch (l : List Share) (most lo hi : Int) : Int := half l most (hi - lo).toNat lo hi
theorem srch_end (l : List Share) (most lo hi : Int) (h : ¬ lo < hi) : srch l most lo hi = lo := by
  unfold srch; rw [show (hi - lo).toNat = 0 by omega]; rfl
theorem srch_up (l : List Share) (most lo hi : Int) (h : lo < hi) (hs : sumMin l ((lo + hi + 1) / 2) ≤ most) : srch l most lo hi = srch l most ((lo + hi + 1) / 2) hi := by
  unfold srch
  obtain ⟨f, hf⟩ : ∃ f, (hi - lo).toNat = f + 1 := ⟨(hi - lo).toNat - 1, by omega⟩
  rw [hf, half, if_pos h, if_pos hs]
  exact half_more _ _ _ _ _ _ (by omega) (by omega)
theorem srch_down (l : List Share) (most lo hi : Int) (h : lo < hi) (hs : ¬ sumMin l ((lo + hi + 1) / 2) ≤ most) : srch l most lo hi = srch l most lo ((lo + hi + 1) / 2 - 1) := by
  unfold srch
  obtain ⟨f, hf⟩ : ∃ f, (hi - lo).toNat = f + 1 := ⟨(hi - lo).toNat - 1, by omega⟩
  rw [hf, half, if_pos h, if_neg hs]
  exact half_more _ _ _ _ _ _ (by omega) (by omega)
/-- The line of all. -/
def lineOf (l : List Share) (most : Int) : Int := srch l most 0 (maxCame l)
theorem srch_spec (l : List Share) (most : Int) : ∀ (f : Nat) (lo hi : Int), (hi - lo).toNat ≤ f → 0 ≤ lo → sumMin l lo ≤ most → 0 ≤ half l most f lo hi ∧ (half l most f lo hi ≤ hi ∨ half l most f lo hi = lo) ∧ sumMin l (half l most f lo hi) ≤ most := by
  intro f
  induction f with
  | zero => intro lo hi _ h0 hs; exact ⟨h0, .inr rfl, hs⟩
  | succ f ih =>
    intro lo hi hf h0 hs
    rw [half]
    split
    · split
      · rename_i hlt hm
        obtain ⟨a, b, c⟩ := ih ((lo + hi + 1) / 2) hi (by omega) (by omega) hm
        refine ⟨a, ?_, c⟩
        rcases b with b | b <;> omega
      · obtain ⟨a, b, c⟩ := ih lo ((lo + hi + 1) / 2 - 1) (by omega) h0 hs
        refine ⟨a, ?_, c⟩
        rcases b with b | b <;> omega
    · exact ⟨h0, .inr rfl, hs⟩
theorem sumMin_zero (l : List Share) : InRange l → sumMin l 0 = 0 := by
  refine snoc_ind' (P := fun l => InRange l → sumMin l 0 = 0) (fun _ => rfl) (fun l x ih h => ?_) l
  have hx := h x (by simp)
  rw [sumMin_snoc, ih fun y hy => h y (List.mem_append_left _ hy)]
  unfold mn
  split <;> omega
theorem lineOf_spec (l : List Share) (most : Int) (h : InRange l) (hm : 0 ≤ most) : 0 ≤ lineOf l most ∧ lineOf l most ≤ 1000000000 ∧ sumMin l (lineOf l most) ≤ most := by
  obtain ⟨a, b, c⟩ := srch_spec l most (maxCame l - 0).toNat 0 (maxCame l) (by omega) (by omega) (by rw [sumMin_zero l h]; exact hm)
  obtain ⟨d, e, _⟩ := maxCame_bd l h
  refine ⟨a, ?_, c⟩
  show half _ _ _ _ _ ≤ _
  rcases b with b | b <;> omega
/-- The rate of a share below the line low. -/
def rateOf (low : Int) (x : Share) : RateK := ⟨x.key, if low < x.came then low * 1000000 / x.came else 1000000⟩
def ratesOf (l : List Share) (most : Int) : List RateK := l.map (rateOf (lineOf l most))
/-- The cells of a new block, as an append's source wants them. -/
theorem cells_new (w : World) (cs : List Value) (t : TypeId) : ∀ j u, cs[j]? = some u → (w.alloc (.cells cs.toArray t)).cell? ((⟨w.heap.size, 0, none⟩ : Addr).add j) = some u := by
  intro j u h
  have : ((⟨w.heap.size, 0, none⟩ : Addr).add j) = ⟨w.heap.size, j, none⟩ := by
    unfold Addr.add; split
    · rename_i e; subst e; rfl
    · simp
  rw [this, World.cell?_alloc_new]
  simpa using h
theorem cells_at (w : World) (cs : List Value) (t : TypeId) (b : Nat) (hb : b = w.heap.size) : ∀ j u, cs[j]? = some u → (w.alloc (.cells cs.toArray t)).cell? ((⟨b, 0, none⟩ : Addr).add j) = some u := by
  subst hb; exact cells_new w cs t
/-- An owned row, read as a list. -/
theorem sl_of_own {α : Type} {w : World} {base sz n : Nat} {e : TypeId} {v : Value} {f : α → List Value} {l : List α} (hf : ∀ a, (f a).length = sz) (hn : l.length = n)
    (h : w.ownsRow base e sz v n (l.flatMap f)) : ∃ A c, v = .slice A n c ∧ Sl w w.heap.size f sz A n l ∧ n ≤ c ∧ (n = 0 ∨ c ≤ maxLen) := by
  have key : ∀ (l : List α) (i : Nat) (a : α), l[i]? = some a → ∀ j v, (f a)[j]? = some v → (l.flatMap f)[i * sz + j]? = some v := by
    intro l
    induction l with
    | nil => intro i a h; simp at h
    | cons x l ih =>
      intro i a ha j v hv
      rw [List.flatMap_cons]
      cases i with
      | zero =>
        simp at ha; subst ha
        have hj : j < (f x).length := (List.getElem?_eq_some_iff.1 hv).1
        rw [Nat.zero_mul, Nat.zero_add, List.getElem?_append_left hj]
        exact hv
      | succ i =>
        have := ih i a (by simpa using ha) j v hv
        rw [List.getElem?_append_right (by rw [hf, Nat.succ_mul]; omega), hf, Nat.succ_mul, show i * sz + sz + j - sz = i * sz + j by omega]
        exact this
  rcases h.2 with ⟨rfl, h0⟩ | ⟨g, cap, cur, rfl, hg, hh, hnc, hcm, _, _⟩
  · subst h0
    obtain rfl : l = [] := List.eq_nil_of_length_eq_zero hn
    exact ⟨none, 0, rfl, Sl.nil _ _ _ _ _, Nat.le_refl _, .inl rfl⟩
  · refine ⟨some ⟨g, 0, none⟩, cap, rfl, ⟨hn, fun _ => ⟨g, 0, rfl, ?_, fun i a ha j v hv => ?_⟩⟩, hnc, .inr hcm⟩
    · rcases Nat.lt_or_ge g w.heap.size with hlt | hge
      · exact hlt
      · rw [Array.getElem?_eq_none hge] at hh; cases hh
    · have hk := key l i a ha j v hv
      have hc := h.cells (g := g) rfl _ _ hk
      have e : ((⟨g, 0, none⟩ : Addr).add (i * sz + j)) = ⟨g, 0 + i * sz + j, none⟩ := by
        unfold Addr.add; split
        · rename_i e; rw [Nat.zero_add, e]
        · simp
      rw [e] at hc
      exact hc
end Go.Proofs.Ytnbmohekikhknaa
