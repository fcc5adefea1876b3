/- What Plain leaves of a string, step by step. No program. -/
import Derived.Test.YtomihkflhhhpjaaDoorGrFits
import Derived.Lib.IndexLaws
import Derived.Lib.Strings
namespace Go.Proofs.YtomihkflhhhpjaaDoor
def isDig (c : UInt8) : Bool := decide (48 ≤ c.toNat) && decide (c.toNat ≤ 57)
def isHx (c : UInt8) : Bool := isDig c || (decide (97 ≤ c.toNat) && decide (c.toNat ≤ 102)) || (decide (65 ≤ c.toNat) && decide (c.toNat ≤ 70))
/-- How many bytes of a kind stand at the beginning. -/
def run (p : UInt8 → Bool) (l : List UInt8) : Nat := (l.takeWhile p).length
theorem run_le (p : UInt8 → Bool) (l : List UInt8) : run p l ≤ l.length := List.Sublist.length_le (List.takeWhile_sublist p)
def pre0x (l : List UInt8) : Bool := Lib.hasPrefix l [48, 120]
/-- What is written for the beginning of a string, and how much of it that is. -/
def step (l : List UInt8) : List UInt8 × Nat :=
  if pre0x l && decide (0 < run isHx (l.drop 2)) then ([60, 97, 62], 2 + run isHx (l.drop 2))
  else if 0 < run isDig l then ([60, 110, 62], run isDig l)
  else if (l.head? == some 34) && decide (0 ≤ Lib.indexByte (l.drop 1) 34) then ([60, 115, 62], (Lib.indexByte (l.drop 1) 34).toNat + 2)
  else (l.take 1, 1)
def plF : Nat → List UInt8 → List UInt8
  | 0, _ => []
  | f + 1, l => if l = [] then [] else (step l).1 ++ plF f (l.drop (step l).2)
/-- What Plain leaves. -/
def pl (l : List UInt8) : List UInt8 := plF l.length l
theorem step_pos (l : List UInt8) : 1 ≤ (step l).2 := by
  unfold step
  split
  · simp; omega
  · split
    · simp; omega
    · split <;> simp
theorem plF_more : ∀ (f g : Nat) (l : List UInt8), l.length ≤ f → l.length ≤ g → plF f l = plF g l
  | 0, g, l, h, _ => by
    obtain rfl : l = [] := List.eq_nil_of_length_eq_zero (by omega)
    cases g <;> rfl
  | f + 1, 0, l, _, h => by
    obtain rfl : l = [] := List.eq_nil_of_length_eq_zero (by omega)
    rfl
  | f + 1, g + 1, l, h1, h2 => by
    rw [plF, plF]
    by_cases h : l = []
    · rw [if_pos h, if_pos h]
    · have := step_pos l
      have hl := List.length_pos_iff.2 h
      rw [if_neg h, if_neg h, plF_more f g _ (by simp; omega) (by simp; omega)]
theorem pl_nil : pl [] = [] := rfl
theorem pl_step {l : List UInt8} (h : l ≠ []) : pl l = (step l).1 ++ pl (l.drop (step l).2) := by
  have := step_pos l
  have hl := List.length_pos_iff.2 h
  unfold pl
  obtain ⟨n, hn⟩ : ∃ n, l.length = n + 1 := ⟨l.length - 1, by omega⟩
  rw [hn, plF, if_neg h, plF_more n (l.drop (step l).2).length _ (by simp; omega) (Nat.le_refl _)]
section
variable {l : List UInt8}
theorem step_hex (h0 : pre0x l = true) (h1 : 0 < run isHx (l.drop 2)) : step l = ([60, 97, 62], 2 + run isHx (l.drop 2)) := by
  unfold step; rw [if_pos (by rw [h0, decide_eq_true h1]; rfl)]
theorem no_hex (h : pre0x l = false ∨ run isHx (l.drop 2) = 0) : ¬ (pre0x l && decide (0 < run isHx (l.drop 2))) = true := by
  rcases h with h | h <;> simp [h]
theorem step_dig (h0 : pre0x l = false ∨ run isHx (l.drop 2) = 0) (h1 : 0 < run isDig l) : step l = ([60, 110, 62], run isDig l) := by
  unfold step; rw [if_neg (no_hex h0), if_pos h1]
theorem step_quo (h0 : pre0x l = false ∨ run isHx (l.drop 2) = 0) (h1 : run isDig l = 0) (h2 : l.head? = some 34) (h3 : 0 ≤ Lib.indexByte (l.drop 1) 34) : step l = ([60, 115, 62], (Lib.indexByte (l.drop 1) 34).toNat + 2) := by
  unfold step; rw [if_neg (no_hex h0), if_neg (by omega), if_pos (by rw [h2, decide_eq_true h3]; rfl)]
theorem step_one (h0 : pre0x l = false ∨ run isHx (l.drop 2) = 0) (h1 : run isDig l = 0) (h2 : l.head? ≠ some 34 ∨ Lib.indexByte (l.drop 1) 34 < 0) : step l = (l.take 1, 1) := by
  unfold step; rw [if_neg (no_hex h0), if_neg (by omega), if_neg]
  rcases h2 with h2 | h2
  · rw [show (l.head? == some 34) = false from beq_false_of_ne h2]; simp
  · rw [decide_eq_false (show ¬ 0 ≤ Lib.indexByte (l.drop 1) 34 by omega), Bool.and_false]; simp
end
theorem pre0x_len {l : List UInt8} (h : pre0x l = true) : 2 ≤ l.length := by
  have := List.isPrefixOf_iff_prefix.1 h
  simpa using this.length_le
theorem run_snoc {p : UInt8 → Bool} {l : List UInt8} {n : Nat} (hn : ∀ (j : Nat) c, j < n → l[j]? = some c → p c = true) (hl : n ≤ l.length) (he : ∀ c, l[n]? = some c → p c = false) : run p l = n := by
  induction l generalizing n with
  | nil => simp at hl; subst hl; rfl
  | cons c l ih =>
    cases n with
    | zero => have := he c rfl; simp [run, List.takeWhile, this]
    | succ n =>
      have h0 := hn 0 c (by omega) rfl
      have := ih (n := n) (fun j d hj hd => hn (j + 1) d (by omega) (by simpa using hd)) (by simpa using hl) (fun d hd => he d (by simpa using hd))
      unfold run at this ⊢
      rw [List.takeWhile_cons, if_pos h0, List.length_cons, this]
theorem idx_lt {l : List UInt8} {c : UInt8} {o : Nat} (h : Lib.indexByte l c = o) : o < l.length := (List.getElem?_eq_some_iff.1 (Lib.indexByte_some h).1).1
end Go.Proofs.YtomihkflhhhpjaaDoor
