/- Where the search for a fit stands, and its steps. No program. -/
import Derived.Test.YtomihkflhhhpjaaDoorGrGlob
namespace Go.Proofs.YtomihkflhhhpjaaDoor
/-- The search stands at i of the pattern and k of the string; the last star stood at 'star' and has taken up to 'mark'. -/
def FI (p s : List UInt8) (i k : Nat) (star : Int) (mark : Nat) : Prop :=
  i ≤ p.length ∧ k ≤ s.length ∧ mark ≤ k ∧
    ((star = -1 ∧ gm p s = gm (p.drop i) (s.drop k)) ∨
     ∃ (st : Nat) (g b : List UInt8), star = st ∧ st + 1 + g.length = i ∧ p.drop st = 42 :: (g ++ p.drop i) ∧ s.drop mark = b ++ s.drop k ∧ lits g b ∧ gm p s = gm (p.drop st) (s.drop mark))
theorem FI.start (p s : List UInt8) : FI p s 0 0 (-1) 0 := ⟨Nat.zero_le _, Nat.zero_le _, Nat.le_refl _, .inl ⟨rfl, rfl⟩⟩
section
variable {p s : List UInt8} {i k mark : Nat} {star : Int}
theorem drop_get {l : List UInt8} {n : Nat} {c : UInt8} (h : l[n]? = some c) : l.drop n = c :: l.drop (n + 1) := by
  obtain ⟨hn, rfl⟩ := List.getElem?_eq_some_iff.1 h
  exact (List.drop_eq_getElem_cons hn)
theorem lt_of_get {l : List UInt8} {n : Nat} {c : UInt8} (h : l[n]? = some c) : n < l.length := (List.getElem?_eq_some_iff.1 h).1
theorem FI.stars (h : FI p s i k star mark) (hc : p[i]? = some 42) : FI p s (i + 1) k i k := by
  obtain ⟨h1, h2, h3, h4⟩ := h
  refine ⟨lt_of_get hc, h2, Nat.le_refl _, .inr ⟨i, [], [], rfl, rfl, drop_get hc, rfl, trivial, ?_⟩⟩
  rcases h4 with ⟨_, h4⟩ | ⟨st, g, b, _, _, e1, e2, hl, h4⟩
  · exact h4
  · rw [h4, e1, e2, drop_get hc, gm_next_star _ _ hl]
theorem FI.lit (h : FI p s i k star mark) {c d : UInt8} (hc : p[i]? = some c) (hd : s[k]? = some d) (hne : c ≠ 42) (hf : (c == 63 || c == d) = true) : FI p s (i + 1) (k + 1) star mark := by
  obtain ⟨h1, h2, h3, h4⟩ := h
  refine ⟨lt_of_get hc, lt_of_get hd, by omega, ?_⟩
  rcases h4 with ⟨h0, h4⟩ | ⟨st, g, b, h0, hi, e1, e2, hl, h4⟩
  · exact .inl ⟨h0, by rw [h4, drop_get hc, drop_get hd, gm_lit_cons hne, hf]; rfl⟩
  · exact .inr ⟨st, g ++ [c], b ++ [d], h0, by simp; omega, by rw [e1, drop_get hc]; simp, by rw [e2, drop_get hd]; simp, lits_snoc hl hne hf, h4⟩
/-- Nothing fits here. -/
def NoFit (p s : List UInt8) (i k : Nat) : Prop := p[i]? = none ∨ ∃ c d, p[i]? = some c ∧ s[k]? = some d ∧ c ≠ 42 ∧ (c == 63 || c == d) = false
theorem NoFit.gm (h : NoFit p s i k) (hk : k < s.length) : gm (p.drop i) (s.drop k) = false := by
  rcases h with h | ⟨c, d, hc, hd, hne, hf⟩
  · rw [List.drop_eq_nil_of_le (by simpa using h)]
    have : s.drop k ≠ [] := by simp; omega
    simp [Go.Proofs.YtomihkflhhhpjaaDoor.gm, this]
  · rw [drop_get hc, drop_get hd, gm_lit_cons hne, hf]; rfl
theorem FI.fail (h : FI p s i k star mark) (hs : star < 0) (hk : k < s.length) (hn : NoFit p s i k) : gm p s = false := by
  obtain ⟨h1, h2, h3, ⟨_, h4⟩ | ⟨st, g, b, h0, _⟩⟩ := h
  · rw [h4, hn.gm hk]
  · omega
theorem FI.back (h : FI p s i k star mark) (hs : 0 ≤ star) (hk : k < s.length) (hn : NoFit p s i k) : FI p s (star.toNat + 1) (mark + 1) star (mark + 1) := by
  obtain ⟨h1, h2, h3, ⟨h0, h4⟩ | ⟨st, g, b, h0, hi, e1, e2, hl, h4⟩⟩ := h
  · omega
  · subst h0
    have hst : st < p.length := by
      rcases Nat.lt_or_ge st p.length with h | h
      · exact h
      · rw [List.drop_eq_nil_of_le h] at e1; cases e1
    have hq : p.drop (st + 1) = g ++ p.drop i := by
      rw [← List.tail_drop, e1]; rfl
    have hm : mark < s.length := by omega
    refine ⟨by simp; omega, by omega, Nat.le_refl _, .inr ⟨st, [], [], rfl, by simp, by rw [e1]; simp [hq], rfl, trivial, ?_⟩⟩
    rw [h4, e1, e2]
    rw [gm_back (t := s.drop (mark + 1)) (d := s[mark]) _ _ hl (hn.gm hk) (by rw [← e2]; exact List.drop_eq_getElem_cons hm)]
theorem FI.end_ (h : FI p s i k star mark) (hk : ¬ k < s.length) : gm p s = (p.drop i).all (· == 42) := by
  obtain ⟨h1, h2, h3, h4⟩ := h
  have hd : s.drop k = [] := List.drop_eq_nil_of_le (by omega)
  rcases h4 with ⟨h0, h4⟩ | ⟨st, g, b, h0, hi, e1, e2, hl, h4⟩
  · rw [h4, hd, gm_stars]
  · rw [h4, e1, e2, hd, List.append_nil, gm_end _ hl, gm_stars]
theorem FI.bound (h : FI p s i k star mark) : -1 ≤ star ∧ star < p.length ∧ (0 ≤ star → star + 1 ≤ i) := by
  obtain ⟨h1, h2, h3, ⟨h0, h4⟩ | ⟨st, g, b, h0, hi, e1, _⟩⟩ := h
  · omega
  · omega
end
end Go.Proofs.YtomihkflhhhpjaaDoor
