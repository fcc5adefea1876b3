/- Patterns with stars and marks: what fits, from the left, from the right, and with going back to the last star. No program. -/
import Derived.Test.YtomihkflhhhpjaaDoorBase
namespace Go.Proofs.YtomihkflhhhpjaaDoor
def anyTail (f : List UInt8 → Bool) : List UInt8 → Bool
  | [] => f []
  | d :: s => f (d :: s) || anyTail f s
/-- Whether a string fits a pattern. -/
def gm : List UInt8 → List UInt8 → Bool
  | [], s => s.isEmpty
  | c :: p, s => if c = 42 then anyTail (gm p) s else match s with
    | [] => false
    | d :: s => (c == 63 || c == d) && gm p s
theorem anyTail_iff (f : List UInt8 → Bool) : ∀ s : List UInt8, anyTail f s = true ↔ ∃ a b, s = a ++ b ∧ f b = true
  | [] => by
    constructor
    · intro h; exact ⟨[], [], rfl, h⟩
    · rintro ⟨a, b, h, hf⟩
      obtain ⟨rfl, rfl⟩ : a = [] ∧ b = [] := by simpa using h.symm
      exact hf
  | d :: s => by
    rw [anyTail, Bool.or_eq_true, anyTail_iff f s]
    constructor
    · rintro (h | ⟨a, b, rfl, h⟩)
      · exact ⟨[], d :: s, rfl, h⟩
      · exact ⟨d :: a, b, rfl, h⟩
    · rintro ⟨a, b, h, hf⟩
      cases a with
      | nil => rw [List.nil_append] at h; exact .inl (by rw [h]; exact hf)
      | cons x a => simp at h; exact .inr ⟨a, b, h.2, hf⟩
theorem gm_star (p s : List UInt8) : gm (42 :: p) s = anyTail (gm p) s := by cases s <;> simp [gm]
theorem gm_lit_nil {c : UInt8} (h : c ≠ 42) (p : List UInt8) : gm (c :: p) [] = false := by simp [gm, h]
theorem gm_lit_cons {c : UInt8} (h : c ≠ 42) (p s : List UInt8) (d : UInt8) : gm (c :: p) (d :: s) = ((c == 63 || c == d) && gm p s) := by simp [gm, h]
theorem gm_append : ∀ (p q s : List UInt8), gm (p ++ q) s = true ↔ ∃ a b, s = a ++ b ∧ gm p a = true ∧ gm q b = true
  | [], q, s => by
    constructor
    · intro h; exact ⟨[], s, rfl, rfl, h⟩
    · rintro ⟨a, b, rfl, h1, h2⟩
      obtain rfl : a = [] := by simpa [gm] using h1
      exact h2
  | c :: p, q, s => by
    by_cases hc : c = 42
    · subst hc
      rw [List.cons_append, gm_star, anyTail_iff]
      constructor
      · rintro ⟨x, y, rfl, h⟩
        obtain ⟨a, b, rfl, h1, h2⟩ := (gm_append p q y).1 h
        exact ⟨x ++ a, b, by simp, by rw [gm_star, anyTail_iff]; exact ⟨x, a, rfl, h1⟩, h2⟩
      · rintro ⟨a, b, rfl, h1, h2⟩
        rw [gm_star, anyTail_iff] at h1
        obtain ⟨x, y, rfl, h1⟩ := h1
        exact ⟨x, y ++ b, by simp, (gm_append p q (y ++ b)).2 ⟨y, b, rfl, h1, h2⟩⟩
    · rw [List.cons_append]
      cases s with
      | nil =>
        rw [gm_lit_nil hc]
        constructor
        · intro h; cases h
        · rintro ⟨a, b, h, h1, h2⟩
          obtain ⟨rfl, rfl⟩ : a = [] ∧ b = [] := by simpa using h.symm
          rw [gm_lit_nil hc] at h1; cases h1
      | cons d s =>
        rw [gm_lit_cons hc, Bool.and_eq_true, gm_append p q s]
        constructor
        · rintro ⟨h0, a, b, rfl, h1, h2⟩
          exact ⟨d :: a, b, rfl, by rw [gm_lit_cons hc, h0, h1]; rfl, h2⟩
        · rintro ⟨a, b, h, h1, h2⟩
          cases a with
          | nil => rw [gm_lit_nil hc] at h1; cases h1
          | cons x a =>
            simp at h
            obtain ⟨rfl, rfl⟩ := h
            rw [gm_lit_cons hc, Bool.and_eq_true] at h1
            exact ⟨h1.1, a, b, rfl, h1.2, h2⟩
theorem gm_nil_r (q : List UInt8) : gm (42 :: q) [] = gm q [] := by rw [gm_star]; rfl
/- From the right: what the reference's rows say. -/
theorem row_star_nil (p : List UInt8) : gm (p ++ [42]) [] = gm p [] := by
  rw [Bool.eq_iff_iff, gm_append]
  constructor
  · rintro ⟨a, b, h, h1, _⟩
    obtain ⟨rfl, rfl⟩ : a = [] ∧ b = [] := by simpa using h.symm
    exact h1
  · intro h; exact ⟨[], [], rfl, h, rfl⟩
theorem star_any (b : List UInt8) : gm [42] b = true := by
  rw [gm_star, anyTail_iff]; exact ⟨b, [], by simp, rfl⟩
theorem row_star_snoc (p s : List UInt8) (d : UInt8) : gm (p ++ [42]) (s ++ [d]) = (gm p (s ++ [d]) || gm (p ++ [42]) s) := by
  rw [Bool.eq_iff_iff, Bool.or_eq_true, gm_append, gm_append]
  constructor
  · rintro ⟨a, b, h, h1, _⟩
    rcases List.eq_nil_or_concat b with rfl | ⟨b, e, rfl⟩
    · rw [List.append_nil] at h; subst h; exact .inl h1
    · simp only [List.concat_eq_append, ← List.append_assoc] at h
      exact .inr ⟨a, b, (List.append_inj' h rfl).1, h1, star_any b⟩
  · rintro (h | ⟨a, b, rfl, h1, _⟩)
    · exact ⟨s ++ [d], [], by simp, h, star_any []⟩
    · exact ⟨a, b ++ [d], by simp, h1, star_any _⟩
theorem lit_one {c : UInt8} (h : c ≠ 42) (b : List UInt8) : gm [c] b = true ↔ ∃ d, b = [d] ∧ (c == 63 || c == d) = true := by
  cases b with
  | nil => rw [gm_lit_nil h]; simp
  | cons d b =>
    rw [gm_lit_cons h, Bool.and_eq_true]
    constructor
    · rintro ⟨h1, h2⟩
      obtain rfl : b = [] := by simpa [gm] using h2
      exact ⟨d, rfl, h1⟩
    · rintro ⟨e, h1, h2⟩
      simp at h1
      obtain ⟨rfl, rfl⟩ := h1
      exact ⟨h2, rfl⟩
theorem row_lit_nil {c : UInt8} (h : c ≠ 42) (p : List UInt8) : gm (p ++ [c]) [] = false := by
  rw [Bool.eq_false_iff, Ne, gm_append]
  rintro ⟨a, b, e, _, h2⟩
  obtain ⟨rfl, rfl⟩ : a = [] ∧ b = [] := by simpa using e.symm
  rw [gm_lit_nil h] at h2; cases h2
theorem row_lit_snoc {c : UInt8} (h : c ≠ 42) (p s : List UInt8) (d : UInt8) : gm (p ++ [c]) (s ++ [d]) = (gm p s && (c == 63 || c == d)) := by
  rw [Bool.eq_iff_iff, Bool.and_eq_true, gm_append]
  constructor
  · rintro ⟨a, b, e, h1, h2⟩
    obtain ⟨x, rfl, hx⟩ := (lit_one h b).1 h2
    obtain ⟨rfl, e2⟩ := List.append_inj' e rfl
    simp at e2; subst e2
    exact ⟨h1, hx⟩
  · rintro ⟨h1, h2⟩
    exact ⟨s, [d], rfl, h1, (lit_one h [d]).2 ⟨d, rfl, h2⟩⟩
/- From the left, going back to the last star. -/
/-- Bytes that fit a pattern without stars, one by one. -/
def lits : List UInt8 → List UInt8 → Prop
  | [], [] => True
  | c :: p, d :: s => c ≠ 42 ∧ (c == 63 || c == d) = true ∧ lits p s
  | _, _ => False
theorem lits_len : ∀ {g b : List UInt8}, lits g b → g.length = b.length
  | [], [], _ => rfl
  | [], _ :: _, h => absurd h (by simp [lits])
  | _ :: _, [], h => absurd h (by simp [lits])
  | _ :: _, _ :: _, h => by simp [lits_len h.2.2]
theorem lits_snoc : ∀ {g b : List UInt8} {c d : UInt8}, lits g b → c ≠ 42 → (c == 63 || c == d) = true → lits (g ++ [c]) (b ++ [d])
  | [], [], _, _, _, h1, h2 => ⟨h1, h2, trivial⟩
  | [], _ :: _, _, _, h, _, _ => absurd h (by simp [lits])
  | _ :: _, [], _, _, h, _, _ => absurd h (by simp [lits])
  | _ :: _, _ :: _, _, _, h, h1, h2 => ⟨h.1, h.2.1, lits_snoc h.2.2 h1 h2⟩
theorem gm_lits : ∀ {g b : List UInt8} (q r : List UInt8), lits g b → gm (g ++ q) (b ++ r) = gm q r
  | [], [], _, _, _ => rfl
  | [], _ :: _, _, _, h => absurd h (by simp [lits])
  | _ :: _, [], _, _, h => absurd h (by simp [lits])
  | c :: g, d :: b, q, r, h => by rw [List.cons_append, List.cons_append, gm_lit_cons h.1, h.2.1, gm_lits q r h.2.2]; rfl
/-- What a pattern that begins without stars takes, it takes byte for byte. -/
theorem gm_lits_inv : ∀ {g b : List UInt8} (q r : List UInt8), lits g b → gm (g ++ q) r = true → ∃ x y, r = x ++ y ∧ x.length = g.length ∧ gm q y = true
  | [], [], q, r, _, h => ⟨[], r, rfl, rfl, h⟩
  | [], _ :: _, _, _, h, _ => absurd h (by simp [lits])
  | _ :: _, [], _, _, h, _ => absurd h (by simp [lits])
  | c :: g, d :: b, q, r, h, hg => by
    rw [List.cons_append] at hg
    cases r with
    | nil => rw [gm_lit_nil h.1] at hg; cases hg
    | cons e r =>
      rw [gm_lit_cons h.1, Bool.and_eq_true] at hg
      obtain ⟨x, y, rfl, hl, hy⟩ := gm_lits_inv q r h.2.2 hg.2
      exact ⟨e :: x, y, rfl, by simp [hl], hy⟩
/-- At the next star nothing but this place counts. -/
theorem gm_next_star {g b : List UInt8} (q r : List UInt8) (h : lits g b) : gm (42 :: (g ++ 42 :: q)) (b ++ r) = gm (42 :: q) r := by
  rw [Bool.eq_iff_iff]
  constructor
  · intro h1
    rw [gm_star, anyTail_iff] at h1
    obtain ⟨a, c, e, h2⟩ := h1
    obtain ⟨x, y, rfl, hl, hy⟩ := gm_lits_inv _ _ h h2
    rw [gm_star, anyTail_iff] at hy
    obtain ⟨u, v, rfl, hv⟩ := hy
    rw [gm_star, anyTail_iff]
    have hgb := lits_len h
    -- b ++ r = a ++ (x ++ (u ++ v)), |x| = |b|
    have hr : r = (b ++ r).drop b.length := by simp
    rw [hr, e]
    refine ⟨((a ++ x) ++ u).drop b.length, v, ?_, hv⟩
    rw [← List.append_assoc, ← List.append_assoc, List.drop_append_of_le_length (by simp; omega)]
  · intro h1
    rw [gm_star, anyTail_iff]
    exact ⟨[], b ++ r, rfl, by rw [gm_lits _ _ h]; exact h1⟩
/-- Where the bytes behind the last star do not fit, the star takes one more. -/
theorem gm_back {g b : List UInt8} (q r : List UInt8) (h : lits g b) (hf : gm q r = false) {d : UInt8} {t : List UInt8} (hd : b ++ r = d :: t) : gm (42 :: (g ++ q)) (b ++ r) = gm (42 :: (g ++ q)) t := by
  rw [gm_star, hd, anyTail, ← hd, gm_lits _ _ h, hf, Bool.false_or, gm_star]
/-- At the end of the string. -/
theorem gm_end {g b : List UInt8} (q : List UInt8) (h : lits g b) : gm (42 :: (g ++ q)) b = gm q [] := by
  rw [Bool.eq_iff_iff]
  constructor
  · intro h1
    rw [gm_star, anyTail_iff] at h1
    obtain ⟨a, c, rfl, h2⟩ := h1
    obtain ⟨x, y, rfl, hl, hy⟩ := gm_lits_inv _ _ h h2
    have := lits_len h
    simp at this
    obtain ⟨rfl, rfl⟩ : a = [] ∧ y = [] := ⟨List.eq_nil_of_length_eq_zero (by omega), List.eq_nil_of_length_eq_zero (by omega)⟩
    exact hy
  · intro h1
    rw [gm_star, anyTail_iff]
    exact ⟨[], b, rfl, by rw [← List.append_nil b, gm_lits _ _ h]; exact h1⟩
theorem gm_stars (q : List UInt8) : gm q [] = q.all (· == 42) := by
  induction q with
  | nil => rfl
  | cons c q ih =>
    by_cases h : c = 42
    · subst h; rw [gm_nil_r, ih]; rfl
    · rw [gm_lit_nil h]; simp [h]
/- The law of patterns. -/
theorem gm_self : ∀ p : List UInt8, gm p p = true
  | [] => rfl
  | c :: p => by
    by_cases h : c = 42
    · subst h; rw [gm_star, anyTail_iff]; exact ⟨[42], p, rfl, gm_self p⟩
    · rw [gm_lit_cons h, gm_self p]; simp
theorem gm_plain : ∀ (s t : List UInt8), (∀ c ∈ s, c ≠ 42 ∧ c ≠ 63) → gm s t = (s == t)
  | [], t, _ => by cases t <;> rfl
  | c :: s, [], h => by rw [gm_lit_nil (h c (by simp)).1]; rfl
  | c :: s, d :: t, h => by
    obtain ⟨h1, h2⟩ := h c (by simp)
    rw [gm_lit_cons h1, gm_plain s t fun x hx => h x (List.mem_cons_of_mem _ hx), show (c == 63) = false by simpa using h2, Bool.false_or]
    rfl
end Go.Proofs.YtomihkflhhhpjaaDoor
