/- The reference's reading of rules: the lines; plain law. -/
import Derived.Test.YtomihkflhhhpjaaDoorGuRa
import Derived.Lib.Split
import Derived.Lib.SplitLaws
namespace Go.Proofs.YtomihkflhhhpjaaDoor
open Go.RowKit
set_option linter.unusedVariables false
set_option linter.unusedSimpArgs false
def nlB : ByteArray := ⟨#[10]⟩
def linesOf (s : ByteArray) : List ByteArray := Lib.splitB nlB 0 (Lib.countB s nlB) s
/-- What the reference reads of lines. -/
def rfL : List ByteArray → Nat → List (List Mt × List Ac) → Except Nat (List (List Mt × List Ac))
  | [], n, _ => .error n
  | [x], n, acc => if x.size = 0 then .ok acc else .error n
  | x :: y :: r, n, acc => match rdRule x.data.toList with
    | none => .error n
    | some v => rfL (y :: r) (n + 1) (acc ++ [v])
theorem rfL_cons {x : ByteArray} {r : List ByteArray} (h : r ≠ []) (n : Nat) (acc : List (List Mt × List Ac)) : rfL (x :: r) n acc = match rdRule x.data.toList with
    | none => .error n
    | some v => rfL r (n + 1) (acc ++ [v]) := by
  cases r with
  | nil => exact absurd rfl h
  | cons y r => rfl
theorem linesOf_len (s : ByteArray) : (linesOf s).length = Lib.countB s nlB + 1 := Lib.splitB_all nlB (by decide) 0 _ s rfl
theorem count_le9 (s : ByteArray) : Lib.countB s nlB ≤ s.size := Lib.countB_le nlB (by decide) _ s (Nat.le_refl _)
theorem linesOf_ne (s : ByteArray) : linesOf s ≠ [] := fun h => by have := linesOf_len s; rw [h] at this; cases this
theorem rfL_split : ∀ (f : Nat) (s : ByteArray) (n : Nat) (acc : List (List Mt × List Ac)), s.size < f → rfL (linesOf s) n acc = rdLines f s.data.toList n acc
  | 0, s, _, _, h => by omega
  | f + 1, s, n, acc, h => by
    have hsl := tsz s
    rw [rdLines]
    by_cases h0 : s.size = 0
    · have e := empty_of h0
      have hi : Lib.indexB s nlB = -1 := by show Lib.index s.data.toList _ = -1; rw [e]; rfl
      rw [if_pos e]
      unfold linesOf
      rw [Lib.splitB_miss _ _ _ _ hi]
      unfold rfL
      rw [if_pos h0]
    · rw [if_neg (ne_nil (by omega))]
      by_cases hi : 0 ≤ Lib.indexB s nlB
      · obtain ⟨i, he⟩ : ∃ i : Nat, Lib.indexB s nlB = i := ⟨(Lib.indexB s nlB).toNat, by omega⟩
        have he' : Lib.index s.data.toList [10] = i := he
        have hk := Lib.countB_hit s nlB i (by decide) he
        have hc : Lib.cut s.data.toList [10] = (s.data.toList.take i, s.data.toList.drop (i + 1), true) := by
          rw [Lib.cut, he', if_pos (by omega)]; rfl
        rw [hc]
        have hl : linesOf s = s.extract 0 i :: linesOf (s.extract (i + 1) s.size) := by
          unfold linesOf
          rw [hk, Nat.add_comm 1, Lib.splitB_hit _ _ _ _ i he]
          rfl
        rw [hl, rfL_cons (linesOf_ne _)]
        have h1 : (s.extract 0 i).data.toList = s.data.toList.take i := Lib.extract_from_zero s i
        have h2 : (s.extract (i + 1) s.size).data.toList = s.data.toList.drop (i + 1) := Lib.extract_to_end s (i + 1)
        have h3 : (s.extract (i + 1) s.size).size < f := by
          have := tsz (s.extract (i + 1) s.size)
          rw [h2, List.length_drop] at this
          omega
        rw [h1]
        cases hr : rdRule (s.data.toList.take i) with
        | none => rfl
        | some v => rw [← h2]; exact rfL_split f _ _ _ h3
      · have hm : Lib.indexB s nlB = -1 := by
          have := Lib.index_ge s.data.toList [10]
          have h9 : Lib.indexB s nlB = Lib.index s.data.toList [10] := rfl
          omega
        have hm' : Lib.index s.data.toList [10] = -1 := hm
        have hc : Lib.cut s.data.toList [10] = (s.data.toList, [], false) := by rw [Lib.cut, hm', if_neg (by decide)]
        rw [hc]
        unfold linesOf
        rw [Lib.splitB_miss _ _ _ _ hm]
        unfold rfL
        rw [if_neg h0]
theorem linesOf_size : ∀ (f : Nat) (s : ByteArray), s.size < f → ∀ x ∈ linesOf s, x.size ≤ s.size
  | 0, s, h => by omega
  | f + 1, s, h => by
    intro x hx
    by_cases hi : 0 ≤ Lib.indexB s nlB
    · obtain ⟨i, he⟩ : ∃ i : Nat, Lib.indexB s nlB = i := ⟨(Lib.indexB s nlB).toNat, by omega⟩
      have hk := Lib.countB_hit s nlB i (by decide) he
      have hl : linesOf s = s.extract 0 i :: linesOf (s.extract (i + 1) s.size) := by
        unfold linesOf
        rw [hk, Nat.add_comm 1, Lib.splitB_hit _ _ _ _ i he]
        rfl
      have h2 : (s.extract (i + 1) s.size).data.toList = s.data.toList.drop (i + 1) := Lib.extract_to_end s (i + 1)
      have h1 : (s.extract 0 i).data.toList = s.data.toList.take i := Lib.extract_from_zero s i
      have h3 := tsz (s.extract (i + 1) s.size)
      rw [h2, List.length_drop, tsz] at h3
      have h4 := tsz (s.extract 0 i)
      rw [h1, List.length_take, tsz] at h4
      rw [hl] at hx
      rcases List.mem_cons.1 hx with rfl | hx
      · omega
      · by_cases h0 : s.size = 0
        · exfalso
          have e := empty_of h0
          have : Lib.indexB s nlB = -1 := by show Lib.index s.data.toList _ = -1; rw [e]; rfl
          omega
        · have := linesOf_size f _ (by omega) x hx
          omega
    · have hm : Lib.indexB s nlB = -1 := by
        have := Lib.index_ge s.data.toList [10]
        have h9 : Lib.indexB s nlB = Lib.index s.data.toList [10] := rfl
        omega
      unfold linesOf at hx
      rw [Lib.splitB_miss _ _ _ _ hm] at hx
      rw [List.mem_singleton.1 hx]
      exact Nat.le_refl _
/-- What the text reads as, by lines. -/
theorem rdRules_lines (t : ByteArray) (h : ¬ 1000000 < t.size) : rdRules t = match rfL (linesOf t) 1 [] with
  | .error k => .error (k, 8)
  | .ok l => if rlsP l = 0 then .ok l else .error (0, rlsP l) := by
  rw [rdRules, if_neg h, rfL_split (t.data.toList.length + 1) t 1 [] (by rw [tsz]; omega)]
  rfl
end Go.Proofs.YtomihkflhhhpjaaDoor
