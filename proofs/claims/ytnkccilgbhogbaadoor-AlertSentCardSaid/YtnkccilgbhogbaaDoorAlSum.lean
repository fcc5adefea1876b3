/- Counts; walks of the sums of both watches (printed by gen_a3.py). -/
import Derived.Test.YtnkccilgbhogbaaDoorAlErr
namespace Go.Proofs.YtnkccilgbhogbaaDoor
open Go.RowKit
set_option linter.unusedVariables false
set_option linter.unusedSimpArgs false
structure Ct where
  key : ByteArray
  at_ : Int
  n : Int
/-- The cells of a count. -/
def Ct.cs (c : Ct) : List Value := [.string c.key, .int .i64 c.at_, .int .i64 c.n]
def hitB (key : ByteArray) (a t : Int) (c : Ct) : Bool := decide (a < c.at_) && decide (c.at_ ≤ t) && (decide (key.size = 0) || beqS c.key key)
def sumC (key : ByteArray) (a t : Int) (l : List Ct) : Int := (l.map fun c => if hitB key a t c then c.n else 0).sum
theorem sumC_snoc (key : ByteArray) (a t : Int) (l : List Ct) (c : Ct) : sumC key a t (l ++ [c]) = sumC key a t l + (if hitB key a t c then c.n else 0) := by simp [sumC]
/-- Counts that are as they may be, and not too many. -/
def CtFit (l : List Ct) : Prop := l.length ≤ 1000 ∧ ∀ c ∈ l, 0 ≤ c.n ∧ c.n ≤ 1000000 ∧ c.key.size ≤ maxLen
theorem sumC_le (key : ByteArray) (a t : Int) : ∀ l : List Ct, (∀ c ∈ l, 0 ≤ c.n ∧ c.n ≤ 1000000 ∧ c.key.size ≤ maxLen) → 0 ≤ sumC key a t l ∧ sumC key a t l ≤ 1000000 * l.length
  | [], _ => by simp [sumC]
  | c :: l, h => by
    have ih := sumC_le key a t l (fun x hx => h x (by simp [hx]))
    have h0 := h c (by simp)
    have e : sumC key a t (c :: l) = (if hitB key a t c then c.n else 0) + sumC key a t l := by simp [sumC]
    rw [e, List.length_cons]
    split <;> constructor <;> omega
theorem str_ne {s t : ByteArray} (h : s ≠ t) : (s.toList == t.toList) = false ∧ ¬ s.toList = t.toList := by
  have h1 : ¬ s.toList = t.toList := by
    rw [ByteArray.toList_eq, ByteArray.toList_eq]
    intro e
    apply h
    obtain ⟨⟨l⟩⟩ := s
    obtain ⟨⟨m⟩⟩ := t
    simp at e
    rw [e]
  exact ⟨by simpa using h1, h1⟩
theorem beqS_ne {s t : ByteArray} (h : s ≠ t) : beqS s t = false := by rw [← beqS_toList]; exact (str_ne h).1
theorem beqS_self (s : ByteArray) : beqS s s = true := by simp [beqS]
theorem s_empty {s : ByteArray} (h : s.size = 0) : s = ⟨#[]⟩ := by
  obtain ⟨⟨l⟩⟩ := s
  have : l.length = 0 := h
  rw [List.length_eq_zero_iff.1 this]
theorem s_full {s : ByteArray} (h : s.size ≠ 0) : s.toList.isEmpty = false ∧ ¬ s.toList = [] ∧ (s.toList == []) = false := by
  have h1 : ¬ s.toList = [] := by
    rw [ByteArray.toList_eq]
    intro e
    have : s.data.toList.length = s.size := by simp
    rw [e] at this
    exact h (by simpa using this.symm)
  exact ⟨by simpa [List.isEmpty_iff] using h1, h1, by simpa using h1⟩
end Go.Proofs.YtnkccilgbhogbaaDoor
