/- GtSmp: RateSamples over Names (printed by gen_gt0.py). -/
import Derived.Test.YtkoijhecahebgaaDoorNames
import Derived.Test.YtkoijhecahebgaaDoorMem
namespace Go.Proofs.YtkoijhecahebgaaDoor
open Go.RowKit
theorem outside_any (n lo hi : Int) (w : World) :
    Calls Tryd.prog 50 #[.int .i64 n, .int .i64 lo, .int .i64 hi] w fun e w' => e = .returned (.bool (outsideB n lo hi)) ∧ w = w' := by
  go_enter Tryd.func50, Tryd.ntmps50
  go_wp2
  all_goals go_ret
  all_goals (exact ⟨by simp [outsideB, *], rfl⟩)
def fnvStep (h : Int) (c : UInt8) : Int := IntKind.u64.wrap (bits .xor .u64 h (IntKind.u64.wrap (c.toNat : Int)) * 1099511628211)
def fnv (h : Int) (l : List UInt8) : Int := l.foldl fnvStep h
theorem fnv_snoc (h : Int) (l : List UInt8) (c : UInt8) : fnv h (l ++ [c]) = fnvStep (fnv h l) c := by simp [fnv]
set_option maxHeartbeats 400000 in
theorem sum_any (h : Int) (s : ByteArray) (w : World) (hs : s.size ≤ maxLen) :
    Calls Tryd.prog 58 #[.int .u64 h, .string s] w fun e w' => e = .returned (.int .u64 (fnv h s.data.toList)) ∧ w = w' := by
  unfold maxLen at hs
  go_enter Tryd.func58, Tryd.ntmps58
  go_wp2
  go_loop [0, 8] (fun v i => ∃ k : Nat, k ≤ s.size ∧ i = .int .i64 k ∧ v = .int .u64 (fnv h (s.data.toList.take k))) (fun _ i => s.size - (intOf i).toNat)
  case atStart => exact ⟨0, Nat.zero_le _, rfl, rfl⟩
  case round =>
    obtain ⟨k, hk, rfl, rfl⟩ := hrel
    by_cases hlt : k < s.size
    · go_wp2
      all_goals
        go_round
        case rel => exact ⟨k + 1, by omega, by go_num, by rw [take_snoc s k hlt, fnv_snoc, fnvStep]⟩
        case measure => simp [intOf]; omega
    · go_wp2
      go_ret
      exact ⟨by rw [take_all s k hlt]; rfl, rfl⟩
def fnvS (s : ByteArray) : Int := fnv 14695981039346656037 s.data.toList
theorem u64_range (x : Int) : 0 ≤ IntKind.u64.wrap x ∧ IntKind.u64.wrap x < 4294967296 * 4294967296 := by rw [IntKind.wrap_u64]; omega
theorem fnv_range (h : Int) (l : List UInt8) (h0 : 0 ≤ h ∧ h < 4294967296 * 4294967296) : 0 ≤ fnv h l ∧ fnv h l < 4294967296 * 4294967296 := by
  induction l generalizing h with
  | nil => exact h0
  | cons c l ih => exact ih _ (u64_range _)
theorem fnvS_range (s : ByteArray) : 0 ≤ fnvS s ∧ fnvS s < 4294967296 * 4294967296 := fnv_range _ _ (by omega)
set_option maxHeartbeats 400000 in
theorem digest_any (s : ByteArray) (w : World) (hs : s.size ≤ maxLen) :
    Calls Tryd.prog 56 #[.string s] w fun e w' => e = .returned (.int .u64 (fnvS s)) ∧ w = w' := by
  unfold maxLen at hs
  go_enter Tryd.func56, Tryd.ntmps56
  go_wp2
  go_loop [3, 7] (fun v i => ∃ k : Nat, k ≤ s.size ∧ i = .int .i64 k ∧ v = .int .u64 (fnv 14695981039346656037 (s.data.toList.take k))) (fun _ i => s.size - (intOf i).toNat)
  case atStart => exact ⟨0, Nat.zero_le _, rfl, rfl⟩
  case round =>
    obtain ⟨k, hk, rfl, rfl⟩ := hrel
    by_cases hlt : k < s.size
    · go_wp2
      all_goals
        go_round
        case rel => exact ⟨k + 1, by omega, by go_num, by rw [take_snoc s k hlt, fnv_snoc, fnvStep]⟩
        case measure => simp [intOf]; omega
    · go_wp2
      go_ret
      exact ⟨by rw [take_all s k hlt]; rfl, rfl⟩
/-- What both sides compute. -/
def sampledB (s : ByteArray) (r : Int) : Bool := decide (fnvS s / 4294967296 * 1000000 < r * 4294967296)
theorem sampled_any (s : ByteArray) (r : Int) (w : World) (hs : s.size ≤ maxLen) (h0 : 0 ≤ r) (h1 : r ≤ 1000000) :
    Calls Tryd.prog 36 #[.string s, .int .i64 r] w fun e w' => e = .returned (.bool (sampledB s r)) ∧ w = w' := by
  have E : Hid (IntKind.u64.wrap (fnvS s / 4294967296 * 1000000) = fnvS s / 4294967296 * 1000000) := by
    have := fnvS_range s; rw [IntKind.wrap_u64]; show _ = _; omega
  go_enter Tryd.func36, Tryd.ntmps36
  go_wp2_with (go_at_call 56; refine (digest_any _ _ hs).mono ?_; rintro e w' ⟨rfl, rfl⟩)
  go_ret
  exact ⟨ret_bool (by rw [E.out]; rfl), rfl⟩
theorem SampledAt_any (s : ByteArray) (r : Int) (w : World) (hs : s.size ≤ maxLen) (h0 : 0 ≤ r) (h1 : r ≤ 1000000) :
    Calls Tryd.prog 38 #[.string s, .int .i64 r] w fun e w' => e = .returned (.bool (sampledB s r)) ∧ w = w' := by
  have E : Hid (wrap64 (wrap64 (IntKind.u64.wrap ((fnvS s).tdiv 4294967296)) * 1000000) = fnvS s / 4294967296 * 1000000) := by
    have := fnvS_range s; rw [IntKind.wrap_u64, Int.tdiv_eq_ediv_of_nonneg this.1]; unfold wrap64; show _ = _; omega
  go_enter Tryd.func38, Tryd.ntmps38
  go_wp2_with (go_at_call 58; refine (sum_any _ _ _ hs).mono ?_; rintro e w' ⟨rfl, rfl⟩)
  go_ret
  exact ⟨ret_bool (by show decide (wrap64 (wrap64 (IntKind.u64.wrap ((fnvS s).tdiv 4294967296)) * 1000000) < _) = _; rw [E.out]; rfl), rfl⟩
namespace rateSamples
end rateSamples
end Go.Proofs.YtkoijhecahebgaaDoor
