/- Walks of slices.Equal on equal notices and statuses, of both Kept's, and of Clone (printed by gen_a7.py). -/
import Derived.Test.YtnkccilgbhogbaaDoorAlSil
import Derived.Lib.SliceRun
namespace Go.Proofs.YtnkccilgbhogbaaDoor
open Go.RowKit
set_option linter.unusedVariables false
set_option linter.unusedSimpArgs false
structure Nt where
  at_ : Int
  rule : ByteArray
  kind : Int
  value : Int
def Nt.cs (x : Nt) : List Value := [.int .i64 x.at_, .string x.rule, .int .i64 x.kind, .int .i64 x.value]
structure Stt where
  rule : ByteArray
  state : Int
  since : Int
  value : Int
def Stt.cs (x : Stt) : List Value := [.string x.rule, .int .i64 x.state, .int .i64 x.since, .int .i64 x.value]
def cb (b : Bool) : List Value := [.bool b]
set_option maxRecDepth 100000 in
set_option maxHeartbeats 2000000 in
theorem Equal_nts (A : Option Addr) (n c : Nat) (A' : Option Addr) (c' : Nat) (l : List Nt) (w : World) (hn : n ≤ maxLen) (hl : Sl w w.heap.size Nt.cs 4 A n l) (hl' : Sl w w.heap.size Nt.cs 4 A' n l) :
    Calls Tryd.prog 36 #[.slice A n c, .slice A' n c'] w fun e w' => e = .returned (.bool true) ∧ Below w.heap.size w w' := by
  unfold maxLen at hn
  go_enter Tryd.func36, Tryd.ntmps36
  go_wp2_with (fail)
  go_loopw [13] (fun i wr => ∃ j : Nat, j ≤ n ∧ i = .int .i64 j ∧ Below w.heap.size w wr) (fun i _ => n - (intOf i).toNat)
  case atStart => exact ⟨0, Nat.zero_le _, rfl, Below.refl _ _⟩
  case round =>
    obtain ⟨j, hj, rfl, hB⟩ := hrel
    by_cases hlt : j < n
    · obtain ⟨bb, oo, x, rfl, hbb, hx, hc⟩ := (hl.below hB).at_ hlt
      obtain ⟨bb', oo', x', rfl, hbb', hx', hc'⟩ := (hl'.below hB).at_ hlt
      obtain rfl : x = x' := by rw [hx] at hx'; exact Option.some.inj hx'
      have c0 := hc 0 _ rfl
      have d0 := hc' 0 _ rfl
      have c1 := hc 1 _ rfl
      have d1 := hc' 1 _ rfl
      have c2 := hc 2 _ rfl
      have d2 := hc' 2 _ rfl
      have c3 := hc 3 _ rfl
      have d3 := hc' 3 _ rfl
      simp only [Nat.add_zero] at c0 d0
      clear hc hc' hx hx'
      go_wp2_with (go_quiet (fail))
      all_goals first
        | go_roundw
        | skip
      case rel => exact ⟨j + 1, by omega, by go_num, by first | exact hB | exact below_drewN hB _⟩
      case measure => simp [intOf]; omega
    · go_wp2_with (fail)
      go_ret
      exact ⟨rfl, hB⟩
/-- How many are kept. -/
def keptN (l : List Bool) : Nat := (l.filter id).length
theorem keptN_snoc (l : List Bool) (b : Bool) : keptN (l ++ [b]) = keptN l + (if b then 1 else 0) := by cases b <;> simp [keptN]
theorem keptN_le (l : List Bool) : keptN l ≤ l.length := List.length_filter_le _ _
theorem sil_news {w : World} {B n : Nat} {ad : Addr} {l : List Sil} (h : Sl w B Sil.cs 3 (some ad) n l) : ∀ j u, (l.flatMap Sil.cs)[j]? = some u → w.cell? (ad.add j) = some u := by
  rcases Nat.eq_zero_or_pos n with h0 | h0
  · have : l = [] := List.eq_nil_of_length_eq_zero (by rw [h.len]; exact h0)
    subst this
    intro j u hu
    simp at hu
  · obtain ⟨b, o, e, _⟩ := h.cells h0
    obtain rfl := Option.some.inj e
    exact Sl.news (fun _ => rfl) h
theorem sil_one (l : List Sil) : ∀ u ∈ l.flatMap Sil.cs, u.oneCell' = true := by
  intro u hu
  obtain ⟨x, _, hx⟩ := List.mem_flatMap.1 hu
  simp [Sil.cs] at hx
  rcases hx with rfl | rfl | rfl <;> rfl
end Go.Proofs.YtnkccilgbhogbaaDoor
