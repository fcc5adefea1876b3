/- Numbers in digits. No program. -/
import Derived.Test.YtnkccilgbhogbaaDoorBase
import Derived.Lib.ItoaNum
namespace Go.Proofs.YtnkccilgbhogbaaDoor
/-- A digit of a base up to 16. -/
def hexc (u : Nat) : UInt8 := if u < 10 then UInt8.ofNat (48 + u) else UInt8.ofNat (87 + u)
/-- The digits of a number, the first ahead. -/
def digs (b u : Nat) : List UInt8 := if _h : u < b ∨ b < 2 then [hexc u] else digs b (u / b) ++ [hexc (u % b)]
termination_by u
decreasing_by exact Nat.div_lt_self (by omega) (by omega)
theorem digs_small {b u : Nat} (h : u < b) : digs b u = [hexc u] := by rw [digs, dif_pos (.inl h)]
theorem digs_big {b u : Nat} (h : b ≤ u) (h2 : 2 ≤ b) : digs b u = digs b (u / b) ++ [hexc (u % b)] := by rw [digs, dif_neg (by omega)]
theorem digs_dec (u : Nat) : Lib.decDigits u = digs 10 u := by
  induction u using Nat.strongRecOn with
  | ind u ih =>
    rw [Lib.decDigits]
    by_cases h : u < 10
    · rw [dif_pos h, digs_small h, hexc, if_pos h]
    · rw [dif_neg h, digs_big (by omega) (by decide), ih (u / 10) (by omega), hexc, if_pos (by omega)]
theorem digs_len (b : Nat) (hb : 2 ≤ b) : ∀ (k u : Nat), u < b ^ k → 1 ≤ k → (digs b u).length ≤ k
  | 0, u, _, h => by omega
  | k + 1, u, h, _ => by
    by_cases hu : u < b
    · rw [digs_small hu]; simp
    · rw [digs_big (by omega) hb, List.length_append, List.length_singleton]
      cases k with
      | zero => simp at h; omega
      | succ k =>
        have h2 : u / b < b ^ (k + 1) := by rw [Nat.div_lt_iff_lt_mul (by omega)]; rw [Nat.pow_succ] at h; exact h
        have := digs_len b hb (k + 1) (u / b) h2 (by omega)
        omega
/-- A number that is not negative, in digits. -/
def toldL (n : Int) : List UInt8 := digs 10 n.toNat
theorem itoa_told {n : Int} (h : 0 ≤ n) : Lib.itoa n = toldL n := by rw [Lib.itoa, if_neg (by omega), digs_dec]; rfl
/-- Any number, in digits. -/
def toldZ (n : Int) : List UInt8 := if 0 ≤ n then digs 10 n.toNat else 45 :: digs 10 (-n).toNat
theorem itoa_toldZ (n : Int) : Lib.itoa n = toldZ n := by
  unfold toldZ Lib.itoa
  by_cases h : 0 ≤ n
  · rw [if_pos h, if_neg (by omega), digs_dec]
  · rw [if_neg h, if_pos (by omega), digs_dec, show n.natAbs = (-n).toNat by omega]
end Go.Proofs.YtnkccilgbhogbaaDoor
