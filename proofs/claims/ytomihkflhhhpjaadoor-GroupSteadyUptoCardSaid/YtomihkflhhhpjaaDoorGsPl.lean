/- What Plain leaves stays: plain law. No program of its own. -/
import Derived.Test.YtomihkflhhhpjaaDoorGrPlainL
import Derived.Lib.IndexAny
namespace Go.Proofs.YtomihkflhhhpjaaDoor
set_option linter.unusedVariables false
set_option linter.unusedSimpArgs false
theorem has_idx (l : List UInt8) (c : UInt8) : c ∈ l ↔ 0 ≤ Lib.indexByte l c := by
  have h := Lib.contains_iff_indexByte l c
  constructor
  · intro hc
    rw [List.contains_iff_mem.2 hc] at h
    exact of_decide_eq_true h.symm
  · intro hc
    rw [decide_eq_true hc] at h
    exact List.contains_iff_mem.1 h
theorem run_zero {p : UInt8 → Bool} {c : UInt8} {l : List UInt8} (h : run p (c :: l) = 0) : p c = false := by
  cases hc : p c
  · rfl
  · rw [run, List.takeWhile_cons, hc] at h
    simp at h
theorem zero_run {p : UInt8 → Bool} {c : UInt8} {l : List UInt8} (h : p c = false) : run p (c :: l) = 0 := by
  rw [run, List.takeWhile_cons, h]
  rfl
/-- What a step writes: one of three words, or the byte itself, which is no digit, and no quotation mark with a later one. -/
theorem step_out (c : UInt8) (l : List UInt8) : ((∀ x ∈ (step (c :: l)).1, isDig x = false ∧ x ≠ 34)) ∨ (step (c :: l) = ([c], 1) ∧ isDig c = false ∧ (c = 34 → 34 ∉ l)) := by
  by_cases h0 : (pre0x (c :: l) && decide (0 < run isHx ((c :: l).drop 2))) = true
  · left
    unfold step
    rw [if_pos h0]
    intro x hx
    have hx : x ∈ ([60, 97, 62] : List UInt8) := hx
    simp only [List.mem_cons, List.not_mem_nil, or_false] at hx
    rcases hx with rfl | rfl | rfl <;> decide
  · by_cases h1 : 0 < run isDig (c :: l)
    · left
      unfold step
      rw [if_neg h0, if_pos h1]
      intro x hx
      have hx : x ∈ ([60, 110, 62] : List UInt8) := hx
      simp only [List.mem_cons, List.not_mem_nil, or_false] at hx
      rcases hx with rfl | rfl | rfl <;> decide
    · by_cases h2 : (((c :: l).head? == some 34) && decide (0 ≤ Lib.indexByte ((c :: l).drop 1) 34)) = true
      · left
        unfold step
        rw [if_neg h0, if_neg h1, if_pos h2]
        intro x hx
        have hx : x ∈ ([60, 115, 62] : List UInt8) := hx
        simp only [List.mem_cons, List.not_mem_nil, or_false] at hx
        rcases hx with rfl | rfl | rfl <;> decide
      · right
        refine ⟨?_, run_zero (Nat.eq_zero_of_not_pos h1), fun hc hm => ?_⟩
        · unfold step
          rw [if_neg h0, if_neg h1, if_neg h2]
          rfl
        · apply h2
          subst hc
          have h9 := (has_idx l 34).1 hm
          simp [h9]
theorem plF_dig : ∀ (f : Nat) (l : List UInt8), ∀ x ∈ plF f l, isDig x = false
  | 0, _, x, h => by simp [plF] at h
  | f + 1, [], x, h => by simp [plF] at h
  | f + 1, c :: l, x, h => by
    rw [plF, if_neg (by simp), List.mem_append] at h
    rcases h with h | h
    · rcases step_out c l with h1 | ⟨h1, h2, _⟩
      · exact (h1 x h).1
      · rw [h1] at h
        rw [List.mem_singleton.1 h]
        exact h2
    · exact plF_dig f _ x h
theorem plF_no : ∀ (f : Nat) (l : List UInt8), 34 ∉ l → 34 ∉ plF f l
  | 0, _, _ => by simp [plF]
  | f + 1, [], _ => by simp [plF]
  | f + 1, c :: l, hn => by
    rw [plF, if_neg (by simp), List.mem_append]
    rintro (h | h)
    · rcases step_out c l with h1 | ⟨h1, h2, _⟩
      · exact (h1 34 h).2 rfl
      · rw [h1] at h
        exact hn (List.mem_cons.2 (.inl (List.mem_singleton.1 h)))
    · exact plF_no f _ (fun hm => hn (List.mem_of_mem_drop hm)) h
/-- At most one quotation mark is left, and behind it there is none. -/
def OneQ : List UInt8 → Prop
  | [] => True
  | c :: l => (c = 34 → 34 ∉ l) ∧ OneQ l
theorem oneQ_no : ∀ {l : List UInt8}, 34 ∉ l → OneQ l
  | [], _ => trivial
  | c :: l, h => ⟨fun e => absurd (List.mem_cons.2 (.inl e.symm)) h, oneQ_no fun hm => h (List.mem_cons.2 (.inr hm))⟩
theorem oneQ_app : ∀ {a b : List UInt8}, 34 ∉ a → OneQ b → OneQ (a ++ b)
  | [], _, _, h => h
  | c :: a, b, hn, h => ⟨fun e => absurd (List.mem_cons.2 (.inl e.symm)) hn, oneQ_app (fun hm => hn (List.mem_cons.2 (.inr hm))) h⟩
theorem plF_one : ∀ (f : Nat) (l : List UInt8), OneQ (plF f l)
  | 0, _ => trivial
  | f + 1, [] => by rw [plF, if_pos rfl]; trivial
  | f + 1, c :: l => by
    rw [plF, if_neg (by simp)]
    rcases step_out c l with h1 | ⟨h1, _, h2⟩
    · exact oneQ_app (fun hm => (h1 34 hm).2 rfl) (plF_one f _)
    · rw [h1]
      exact ⟨fun e => plF_no f _ (h2 e), plF_one f _⟩
theorem plF_same : ∀ (f : Nat) (l : List UInt8), l.length ≤ f → (∀ x ∈ l, isDig x = false) → OneQ l → plF f l = l
  | 0, l, hf, _, _ => by
    rw [List.eq_nil_of_length_eq_zero (Nat.le_zero.1 hf)]
    rfl
  | f + 1, [], _, _, _ => by rw [plF, if_pos rfl]
  | f + 1, c :: l, hf, hd, hq => by
    have hc := hd c List.mem_cons_self
    have hp : pre0x (c :: l) = false := by
      cases h : pre0x (c :: l)
      · rfl
      · have e : c = 48 := by
          unfold pre0x Lib.hasPrefix at h
          simp at h
          first | exact h.1 | exact h.1.symm | exact (h.2 : _).1
        rw [e] at hc
        exact absurd hc (by decide)
    have hs : step (c :: l) = ([c], 1) := by
      refine (step_one (.inl hp) (zero_run hc) ?_).trans rfl
      by_cases h : c = 34
      · right
        have h9 := hq.1 h
        rw [has_idx] at h9
        simpa using h9
      · left
        simpa using h
    rw [plF, if_neg (by simp), hs]
    show [c] ++ plF f l = c :: l
    rw [plF_same f l (by simpa using hf) (fun x hx => hd x (List.mem_cons.2 (.inr hx))) hq.2]
    rfl
theorem pl_pl (l : List UInt8) : pl (pl l) = pl l := plF_same _ _ (Nat.le_refl _) (plF_dig _ l) (plF_one _ l)
theorem pl_len : ∀ (f : Nat) (l : List UInt8), (plF f l).length ≤ 3 * f
  | 0, _ => by simp [plF]
  | f + 1, [] => by simp [plF]
  | f + 1, c :: l => by
    rw [plF, if_neg (by simp), List.length_append]
    have h1 : (step (c :: l)).1.length ≤ 3 := by
      unfold step
      split
      · simp
      · split
        · simp
        · split <;> simp <;> omega
    have h2 := pl_len f ((c :: l).drop (step (c :: l)).2)
    omega
/-- "no " and a number: what Plain leaves of it. -/
theorem pl_no (d : List UInt8) (hd : ∀ x ∈ d, isDig x = true) (hne : d ≠ []) : pl ([110, 111, 32] ++ d) = [110, 111, 32, 60, 110, 62] := by
  have hrun : run isDig d = d.length := run_snoc (fun j c _ h => hd c (List.mem_of_getElem? h)) (Nat.le_refl _) (fun c h => by rw [List.getElem?_eq_none (Nat.le_refl _)] at h; cases h)
  have hpos : 0 < d.length := List.length_pos_iff.2 hne
  have hp : pre0x d = false ∨ run isHx (d.drop 2) = 0 := by
    left
    match d, hd, hne with
    | [x], _, _ => simp [pre0x, Lib.hasPrefix, List.isPrefixOf]
    | x :: y :: r, hd, _ =>
      cases h : pre0x (x :: y :: r)
      · rfl
      · have hy := hd y (by simp)
        have e : y = 120 := by
          unfold pre0x Lib.hasPrefix at h
          simp at h
          first | exact h.2 | exact h.2.symm
        rw [e] at hy
        exact absurd hy (by decide)
  have h3 : pl d = [60, 110, 62] := by
    rw [pl_step hne, step_dig hp (by omega), hrun, List.drop_length, pl_nil]
    rfl
  have hone : ∀ (c : UInt8) (r : List UInt8), c = 110 ∨ c = 111 ∨ c = 32 → pl (c :: r) = c :: pl r := fun c r hc => by
    have hcd : isDig c = false ∧ c ≠ 34 ∧ c ≠ 48 := by rcases hc with rfl | rfl | rfl <;> decide
    have hp9 : pre0x (c :: r) = false := by
      cases h : pre0x (c :: r)
      · rfl
      · have e : c = 48 := by
          unfold pre0x Lib.hasPrefix at h
          simp at h
          first | exact h.1 | exact h.1.symm
        exact absurd e hcd.2.2
    rw [pl_step (by simp), step_one (.inl hp9) (zero_run hcd.1) (.inl (by simpa using hcd.2.1))]
    rfl
  show pl (110 :: 111 :: 32 :: d) = _
  rw [hone _ _ (.inl rfl), hone _ _ (.inr (.inl rfl)), hone _ _ (.inr (.inr rfl)), h3]
end Go.Proofs.YtomihkflhhhpjaaDoor
