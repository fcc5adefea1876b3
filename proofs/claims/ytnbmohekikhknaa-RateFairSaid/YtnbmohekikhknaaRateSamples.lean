/- Walks of rate.Sample, inqref1.SampledAt and the law RateSamples. -/
import Derived.Test.YtnbmohekikhknaaProg
import Derived.Test.YtnbmohekikhknaaBase
namespace Go.Proofs.Ytnbmohekikhknaa
open Go.RowKit
def outsideB (n lo hi : Int) : Bool := decide (n < lo) || decide (hi < n)
theorem outside_any (n lo hi : Int) (w : World) :
    Calls Try.prog 33 #[.int .i64 n, .int .i64 lo, .int .i64 hi] w fun e w' => e = .returned (.bool (outsideB n lo hi)) ∧ w = w' := by
  go_enter Try.func33, Try.ntmps33
  go_wp2
  all_goals go_ret
  all_goals (exact ⟨by simp [outsideB, *], rfl⟩)
def fnvStep (h : Int) (c : UInt8) : Int := IntKind.u64.wrap (bits .xor .u64 h (IntKind.u64.wrap (c.toNat : Int)) * 1099511628211)
def fnv (h : Int) (l : List UInt8) : Int := l.foldl fnvStep h
theorem fnv_snoc (h : Int) (l : List UInt8) (c : UInt8) : fnv h (l ++ [c]) = fnvStep (fnv h l) c := by simp [fnv]
set_option maxHeartbeats 400000 in
theorem sum_any (h : Int) (s : ByteArray) (w : World) (hs : s.size ≤ maxLen) :
    Calls Try.prog 35 #[.int .u64 h, .string s] w fun e w' => e = .returned (.int .u64 (fnv h s.data.toList)) ∧ w = w' := by
  unfold maxLen at hs
  go_enter Try.func35, Try.ntmps35
  go_wp2
  go_loop [0, 8] (fun v i => ∃ k : Nat, k ≤ s.size ∧ i = .int .i64 k ∧ v = .int .u64 (fnv h (s.data.toList.take k))) (fun _ i => s.size - (intOf i).toNat)
  case atStart => exact ⟨0, Nat.zero_le _, rfl, rfl⟩
  case round =>
    obtain ⟨k, hk, rfl, rfl⟩ := hrel
    by_cases hlt : k < s.size
    · go_wp2
      all_goals
        go_round
        case rel => exact ⟨k + 1, by omega, by go_num, by rw [take_snoc s k hlt, fnv_snoc, fnvStep]⟩
        case measure => simp [intOf]; omega
    · go_wp2
      go_ret
      exact ⟨by rw [take_all s k hlt]; rfl, rfl⟩
def fnvS (s : ByteArray) : Int := fnv 14695981039346656037 s.data.toList
theorem u64_range (x : Int) : 0 ≤ IntKind.u64.wrap x ∧ IntKind.u64.wrap x < 4294967296 * 4294967296 := by rw [IntKind.wrap_u64]; omega
theorem fnv_range (h : Int) (l : List UInt8) (h0 : 0 ≤ h ∧ h < 4294967296 * 4294967296) : 0 ≤ fnv h l ∧ fnv h l < 4294967296 * 4294967296 := by
  induction l generalizing h with
  | nil => exact h0
  | cons c l ih => exact ih _ (u64_range _)
theorem fnvS_range (s : ByteArray) : 0 ≤ fnvS s ∧ fnvS s < 4294967296 * 4294967296 := fnv_range _ _ (by omega)
set_option maxHeartbeats 400000 in
theorem digest_any (s : ByteArray) (w : World) (hs : s.size ≤ maxLen) :
    Calls Try.prog 48 #[.string s] w fun e w' => e = .returned (.int .u64 (fnvS s)) ∧ w = w' := by
  unfold maxLen at hs
  go_enter Try.func48, Try.ntmps48
  go_wp2
  go_loop [3, 7] (fun v i => ∃ k : Nat, k ≤ s.size ∧ i = .int .i64 k ∧ v = .int .u64 (fnv 14695981039346656037 (s.data.toList.take k))) (fun _ i => s.size - (intOf i).toNat)
  case atStart => exact ⟨0, Nat.zero_le _, rfl, rfl⟩
  case round =>
    obtain ⟨k, hk, rfl, rfl⟩ := hrel
    by_cases hlt : k < s.size
    · go_wp2
      all_goals
        go_round
        case rel => exact ⟨k + 1, by omega, by go_num, by rw [take_snoc s k hlt, fnv_snoc, fnvStep]⟩
        case measure => simp [intOf]; omega
    · go_wp2
      go_ret
      exact ⟨by rw [take_all s k hlt]; rfl, rfl⟩
/-- What both sides compute. -/
def sampledB (s : ByteArray) (r : Int) : Bool := decide (fnvS s / 4294967296 * 1000000 < r * 4294967296)
theorem sampled_any (s : ByteArray) (r : Int) (w : World) (hs : s.size ≤ maxLen) (h0 : 0 ≤ r) (h1 : r ≤ 1000000) :
    Calls Try.prog 34 #[.string s, .int .i64 r] w fun e w' => e = .returned (.bool (sampledB s r)) ∧ w = w' := by
  have E : Hid (IntKind.u64.wrap (fnvS s / 4294967296 * 1000000) = fnvS s / 4294967296 * 1000000) := by
    have := fnvS_range s; rw [IntKind.wrap_u64]; show _ = _; omega
  go_enter Try.func34, Try.ntmps34
  go_wp2_with (go_at_call 48; refine (digest_any _ _ hs).mono ?_; rintro e w' ⟨rfl, rfl⟩)
  go_ret
  exact ⟨ret_bool (by rw [E.out]; rfl), rfl⟩
theorem SampledAt_any (s : ByteArray) (r : Int) (w : World) (hs : s.size ≤ maxLen) (h0 : 0 ≤ r) (h1 : r ≤ 1000000) :
    Calls Try.prog 11 #[.string s, .int .i64 r] w fun e w' => e = .returned (.bool (sampledB s r)) ∧ w = w' := by
  have E : Hid (wrap64 (wrap64 (IntKind.u64.wrap ((fnvS s).tdiv 4294967296)) * 1000000) = fnvS s / 4294967296 * 1000000) := by
    have := fnvS_range s; rw [IntKind.wrap_u64, Int.tdiv_eq_ediv_of_nonneg this.1]; unfold wrap64; show _ = _; omega
  go_enter Try.func11, Try.ntmps11
  go_wp2_with (go_at_call 35; refine (sum_any _ _ _ hs).mono ?_; rintro e w' ⟨rfl, rfl⟩)
  go_ret
  exact ⟨ret_bool (by show decide (wrap64 (wrap64 (IntKind.u64.wrap ((fnvS s).tdiv 4294967296)) * 1000000) < _) = _; rw [E.out]; rfl), rfl⟩
theorem Sample_large (s : ByteArray) (r : Int) (w : World) (hs : s.size ≤ maxLen) (h : 200 < s.size) :
    Calls Try.prog 10 #[.string s, .int .i64 r] w fun e w' => e = .returned (.tuple #[.bool false, .int .i64 4]) ∧ w = w' := by
  unfold maxLen at hs
  go_enter Try.func10, Try.ntmps10
  go_wp2_with (fail)
  go_ret2
  exact ⟨rfl, rfl⟩
theorem Sample_range (s : ByteArray) (r : Int) (w : World) (hs : s.size ≤ maxLen) (h : s.size ≤ 200) (hr : outsideB r 0 1000000 = true) :
    Calls Try.prog 10 #[.string s, .int .i64 r] w fun e w' => e = .returned (.tuple #[.bool false, .int .i64 2]) ∧ w = w' := by
  unfold maxLen at hs
  go_enter Try.func10, Try.ntmps10
  go_wp2_with (go_at_call 33; refine (outside_any _ _ _ _).mono ?_; rintro e w' ⟨rfl, rfl⟩)
  go_ret2
  exact ⟨rfl, rfl⟩
theorem Sample_ok (s : ByteArray) (r : Int) (w : World) (hs : s.size ≤ maxLen) (h : s.size ≤ 200) (h0 : 0 ≤ r) (h1 : r ≤ 1000000) :
    Calls Try.prog 10 #[.string s, .int .i64 r] w fun e w' => e = .returned (.tuple #[.bool (sampledB s r), .int .i64 0]) ∧ w = w' := by
  have hr : outsideB r 0 1000000 = false := by simp [outsideB]; omega
  have hs' := hs
  unfold maxLen at hs'
  go_enter Try.func10, Try.ntmps10
  go_wp2_with (first | (go_at_call 33; refine (outside_any _ _ _ _).mono ?_; rintro e w' ⟨rfl, rfl⟩) | (go_at_call 34; refine (sampled_any _ _ _ hs h0 h1).mono ?_; rintro e w' ⟨rfl, rfl⟩))
  go_ret2
  exact ⟨rfl, rfl⟩
namespace rateSamples
theorem walk (s : ByteArray) (hs : s.size ≤ maxLen) (r : Int) (_w1 : (Lit.int .i64 r).wf = true) (w : World) :
    Calls Try.prog 3 #[.string s, .int .i64 r] w fun e w' => e = .returned (.bool true) ∧ Below w.heap.size w w' := by
  have hs' := hs
  unfold maxLen at hs'
  by_cases h : 200 < s.size
  · go_enter Try.func3, Try.ntmps3
    go_wp2_with (go_at_call 10; refine (Sample_large _ _ _ hs h).mono ?_; rintro e w' ⟨rfl, rfl⟩)
    go_ret
    exact ⟨rfl, Below.refl _ _⟩
  · have h' : s.size ≤ 200 := by omega
    by_cases hr : 0 ≤ r ∧ r ≤ 1000000
    · obtain ⟨h0, h1⟩ := hr
      go_enter Try.func3, Try.ntmps3
      go_wp2_with (first | (go_at_call 10; refine (Sample_ok _ _ _ hs h' h0 h1).mono ?_; rintro e w' ⟨rfl, rfl⟩) | (go_at_call 11; refine (SampledAt_any _ _ _ hs h0 h1).mono ?_; rintro e w' ⟨rfl, rfl⟩))
      go_ret
      exact ⟨by simp, Below.refl _ _⟩
    · have hr' : outsideB r 0 1000000 = true := by simp [outsideB]; omega
      have hr2 : r < 0 ∨ 1000000 < r := by omega
      rcases hr2 with h0 | h0
      all_goals
        go_enter Try.func3, Try.ntmps3
        go_wp2_with (go_at_call 10; refine (Sample_range _ _ _ hs h' hr').mono ?_; rintro e w' ⟨rfl, rfl⟩)
        go_ret
        exact ⟨rfl, Below.refl _ _⟩
end rateSamples
end Go.Proofs.Ytnbmohekikhknaa
