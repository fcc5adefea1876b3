/- GtKey: RateKey over Names (printed by gen_gt0.py). -/
import Derived.Test.YtkoijhecahebgaaDoorGtBk2
import Derived.Test.YtkoijhecahebgaaDoorFirsts
import Derived.Test.YtkoijhecahebgaaDoorMapB
namespace Go.Proofs.YtkoijhecahebgaaDoor
open Go.RowKit
set_option maxHeartbeats 400000 in
theorem checkKey_any (s : ByteArray) (w : World) (hs : s.size ≤ maxLen) :
    Calls Tryd.prog 30 #[.string s] w fun e w' => e = .returned (.int .i64 (keyErr s)) ∧ w = w' := by
  unfold maxLen at hs
  by_cases h : 200 < s.size
  · have E := hide (show keyErr s = 4 by rw [keyErr, if_pos h])
    go_enter Tryd.func30, Tryd.ntmps30
    go_wp2
    go_ret
    exact ⟨by rw [E.out]; rfl, rfl⟩
  · go_enter Tryd.func30, Tryd.ntmps30
    go_wp2
    go_loop [9] (fun i => ∃ k : Nat, k ≤ s.size ∧ i = .int .i64 k ∧ (s.data.toList.take k).all byteOk = true) (fun i => s.size - (intOf i).toNat)
    case atStart => exact ⟨0, Nat.zero_le _, rfl, rfl⟩
    case round =>
      obtain ⟨k, hk, rfl, hall⟩ := hrel
      have HALL := hide hall
      clear hall
      by_cases hlt : k < s.size
      · obtain ⟨c, hc⟩ : ∃ c, s[k] = c := ⟨_, rfl⟩
        by_cases h1 : c.toNat < 32
        · have E := hide (show keyErr s = 9 by rw [keyErr, if_neg h, all_take_false s byteOk k hlt (by rw [hc]; simp [byteOk]; omega)]; rfl)
          have h1' : ((s[k].toNat : Int)) < 32 := by rw [hc]; omega
          clear hc
          go_wp2
          go_ret
          exact ⟨by rw [E.out]; rfl, rfl⟩
        · by_cases h2 : 126 < c.toNat
          · have E := hide (show keyErr s = 9 by rw [keyErr, if_neg h, all_take_false s byteOk k hlt (by rw [hc]; simp [byteOk]; omega)]; rfl)
            have h1' : (32 : Int) ≤ (s[k].toNat : Int) := by rw [hc]; omega
            have h2' : (126 : Int) < (s[k].toNat : Int) := by rw [hc]; omega
            clear hc
            go_wp2
            go_ret
            exact ⟨by rw [E.out]; rfl, rfl⟩
          · have E := hide (show byteOk s[k] = true by rw [hc]; simp [byteOk]; omega)
            have h1' : (32 : Int) ≤ (s[k].toNat : Int) := by rw [hc]; omega
            have h2' : (s[k].toNat : Int) ≤ 126 := by rw [hc]; omega
            clear hc
            go_wp2
            go_round
            case rel => exact ⟨k + 1, by omega, by go_num, by rw [all_take_snoc s byteOk k hlt, HALL.out, E.out]; rfl⟩
            case measure => simp [intOf]; omega
      · have E := hide (show keyErr s = 0 by rw [keyErr, if_neg h, ← take_all s k hlt, HALL.out]; rfl)
        go_wp2
        go_ret
        exact ⟨by rw [E.out]; rfl, rfl⟩
end Go.Proofs.YtkoijhecahebgaaDoor
