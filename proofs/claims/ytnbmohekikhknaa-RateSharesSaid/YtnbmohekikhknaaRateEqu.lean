/- Walks of slices.Equal on rates that are equal, and of inqref1.StandsFor. -/
import Derived.Test.YtnbmohekikhknaaRateSrch
import Derived.BigQuiet
namespace Go.Proofs.Ytnbmohekikhknaa
open Go.RowKit
set_option maxRecDepth 100000 in
set_option maxHeartbeats 2000000 in
theorem Equal_rates (A : Option Addr) (n c : Nat) (A' : Option Addr) (c' : Nat) (l : List RateK) (w : World) (hn : n ≤ maxLen) (hl : Sl w w.heap.size RateK.cs 2 A n l) (hl' : Sl w w.heap.size RateK.cs 2 A' n l) :
    Calls Try.prog 27 #[.slice A n c, .slice A' n c'] w fun e w' => e = .returned (.bool true) ∧ Below w.heap.size w w' := by
  unfold maxLen at hn
  have HL := hide hl.len
  go_enter Try.func27, Try.ntmps27
  go_wp2_with (fail)
  go_loopw [13] (fun i wr => ∃ j : Nat, j ≤ n ∧ i = .int .i64 j ∧ Below w.heap.size w wr) (fun i _ => n - (intOf i).toNat)
  case atStart => exact ⟨0, Nat.zero_le _, rfl, Below.refl _ _⟩
  case round =>
    obtain ⟨j, hj, rfl, hB⟩ := hrel
    by_cases hlt : j < n
    · obtain ⟨bb, oo, x, rfl, hbb, hx, hc⟩ := (hl.below hB).at_ hlt
      obtain ⟨bb', oo', x', rfl, hbb', hx', hc'⟩ := (hl'.below hB).at_ hlt
      obtain rfl : x = x' := by rw [hx] at hx'; exact Option.some.inj hx'
      have c0 := hc 0 _ rfl
      have c1 := hc 1 _ rfl
      have d0 := hc' 0 _ rfl
      have d1 := hc' 1 _ rfl
      simp only [Nat.add_zero] at c0 d0
      clear hc hc' hx hx'
      go_wp2_with (go_quiet (fail))
      all_goals first
        | go_roundw
        | skip
      case rel => exact ⟨j + 1, by omega, by go_num, by first | exact hB | exact below_drewN hB _⟩
      case measure => simp [intOf]; omega
    · go_wp2_with (fail)
      go_ret
      exact ⟨rfl, hB⟩
set_option maxHeartbeats 400000 in
theorem StandsFor_any (A : Option Addr) (n c : Nat) (l : List Int) (w : World) (hl : Sl w w.heap.size ci 1 A n l) (hn : n ≤ 1000) (hok : ∀ r ∈ l, rateOk r = true) :
    Calls Try.prog 29 #[.slice A n c] w fun e w' => e = .returned (.int .i64 ((standSum l + 500000) / 1000000)) ∧ w = w' := by
  have HL := hide hl.len
  go_enter Try.func29, Try.ntmps29
  go_wp2
  go_loop [3, 8] (fun v i => ∃ k : Nat, k ≤ n ∧ i = .int .i64 k ∧ v = .int .i64 (standSum (l.take k))) (fun _ i => n - (intOf i).toNat)
  case atStart => exact ⟨0, Nat.zero_le _, rfl, rfl⟩
  case round =>
    obtain ⟨k, hk, rfl, rfl⟩ := hrel
    have hbd := standSum_bd (l.take k) (fun r hr => hok r (List.mem_of_mem_take hr))
    have hlen : (l.take k).length ≤ k := List.length_take_le _ _
    by_cases hlt : k < n
    · obtain ⟨b, o, a, rfl, hb, ha, hc⟩ := hl.at_ hlt
      have hc0 := hc 0 _ rfl
      simp only [Nat.mul_one, Nat.add_zero] at hc0
      have ⟨ha1, ha2⟩ := (rateOk_iff a).1 (hok a (List.mem_of_getElem? ha))
      have HA := hide ha
      clear hc ha
      have hq : 0 ≤ 1000000000000 / a ∧ 1000000000000 / a ≤ 1000000000000 := ⟨Int.ediv_nonneg (by omega) (by omega), Int.ediv_le_self _ (by omega)⟩
      go_wp2
      go_round
      case rel => exact ⟨k + 1, by omega, by go_num, by rw [take_succ_get HA.out, standSum_snoc]⟩
      case measure => simp [intOf]; omega
    · have ht : l.take k = l := take_len l (by have := HL.out; omega)
      rw [ht] at hbd hlen ⊢
      have hm : 1000000000000 * (l.length : Int) ≤ 1000000000000000 := by omega
      clear ht
      go_wp2
      go_ret
      exact ⟨rfl, rfl⟩
end Go.Proofs.Ytnbmohekikhknaa
