/- Walk of Fits. -/
import Derived.Test.YtmogfmpcfdlpfaaDoorGrFitL
import Derived.Test.YtmogfmpcfdlpfaaDoorShelf
import Derived.BigQuiet
import Derived.Below
import Derived.Test.YtmogfmpcfdlpfaaDoorFam
import Derived.Lib.TrimByte
namespace Go.Proofs.YtmogfmpcfdlpfaaDoor
open Go.RowKit
set_option linter.unusedVariables false
theorem dw_nil (l : List UInt8) : l.dropWhile (· == 42) = [] ↔ l.all (· == 42) = true := by
  induction l with
  | nil => simp
  | cons c l ih =>
    rw [List.dropWhile_cons]
    by_cases h : (c == 42) = true
    · rw [if_pos h, ih, List.all_cons, h, Bool.true_and]
    · rw [if_neg h, List.all_cons, Bool.eq_false_iff.2 h]; simp
theorem trim_stars (l : List UInt8) : Lib.trimB l 42 = [] ↔ l.all (· == 42) = true := by
  unfold Lib.trimB Lib.trimLeftB Lib.trimRightB
  rw [dw_nil, List.all_reverse]
  constructor
  · intro h
    cases e : l.reverse.dropWhile (· == 42) with
    | nil => rw [dw_nil, List.all_reverse] at e; exact e
    | cons c t =>
      have h3 := List.head_dropWhile_not (· == (42 : UInt8)) (l := l.reverse) (by rw [e]; simp)
      simp only [e, List.head_cons] at h3
      rw [e, List.all_cons, h3] at h; cases h
  · intro h
    rw [(dw_nil l.reverse).2 (by rw [List.all_reverse]; exact h)]; rfl
theorem extract_toList (p : ByteArray) (i : Nat) : (p.extract i p.size).data.toList = p.data.toList.drop i := by
  rw [ByteArray.data_extract, Array.toList_extract, List.extract_eq_take_drop]
  exact List.take_of_length_le (by simp)
/-- What Fits says. -/
def fitsB (p s : ByteArray) : Bool := decide (p.size ≤ 100) && gm p.data.toList s.data.toList
theorem get_at (s : ByteArray) (k : Nat) (h : k < s.size) : s.data.toList[k]? = some s[k] := by
  rw [List.getElem?_eq_getElem (by simpa using h)]; rfl
theorem get_none (s : ByteArray) (k : Nat) (h : ¬ k < s.size) : s.data.toList[k]? = none := by
  rw [List.getElem?_eq_none (by simp; omega)]
theorem u8_ne {c d : UInt8} (h : c ≠ d) : ¬ (c.toNat : Int) = (d.toNat : Int) := fun e => h (UInt8.toNat_inj.1 (by omega))
theorem meas1 (S P m m' i : Nat) (h : m ≤ m') (hi : i < P) : (S + 1 - m') * (P + 1) + (P - (i + 1)) < (S + 1 - m) * (P + 1) + (P - i) := by
  have := Nat.mul_le_mul_right (P + 1) (show S + 1 - m' ≤ S + 1 - m by omega)
  omega
theorem meas2 (S P m j i : Nat) (h : m < S + 1) : (S + 1 - (m + 1)) * (P + 1) + (P - j) < (S + 1 - m) * (P + 1) + (P - i) := by
  obtain ⟨x, hx⟩ : ∃ x, S + 1 - m = x + 1 := ⟨S - m, by omega⟩
  rw [hx, show S + 1 - (m + 1) = x by omega, Nat.add_mul]
  omega
end Go.Proofs.YtmogfmpcfdlpfaaDoor
