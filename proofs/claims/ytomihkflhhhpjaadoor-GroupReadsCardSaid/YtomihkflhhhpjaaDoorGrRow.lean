/- Walks of isDigit, isHex and row (printed by gen_gr.py). -/
import Derived.Test.YtomihkflhhhpjaaDoorGrPlainL
namespace Go.Proofs.YtomihkflhhhpjaaDoor
open Go.RowKit
set_option linter.unusedVariables false
theorem isDigit_any (c : UInt8) (w : World) : Calls Tryd.prog 26 #[.int .u8 c.toNat] w fun e w' => e = .returned (.bool (isDig c)) ∧ w = w' := by
  by_cases h48 : 48 ≤ c.toNat
  · by_cases h57 : c.toNat ≤ 57
    · have E := hide (show isDig c = true by simp [isDig]; omega)
      have f0 : (48 : Int) ≤ (c.toNat : Int) := by first | omega | (simp; omega)
      have f1 : (c.toNat : Int) ≤ (57 : Int) := by first | omega | (simp; omega)
      go_enter Tryd.func26, Tryd.ntmps26
      go_wp2_with (fail)
      go_ret
      exact ⟨by rw [E.out]; rfl, rfl⟩
    · have E := hide (show isDig c = false by simp [isDig]; omega)
      have f0 : (48 : Int) ≤ (c.toNat : Int) := by first | omega | (simp; omega)
      have f1 : decide ((c.toNat : Int) ≤ (57 : Int)) = false := by first | omega | (simp; omega)
      go_enter Tryd.func26, Tryd.ntmps26
      go_wp2_with (fail)
      go_ret
      exact ⟨by rw [E.out]; rfl, rfl⟩
  · have E := hide (show isDig c = false by simp [isDig]; omega)
    have f0 : (c.toNat : Int) < (48 : Int) := by first | omega | (simp; omega)
    go_enter Tryd.func26, Tryd.ntmps26
    go_wp2_with (fail)
    go_ret
    exact ⟨by rw [E.out]; rfl, rfl⟩
theorem isHex_any (c : UInt8) (w : World) : Calls Tryd.prog 24 #[.int .u8 c.toNat] w fun e w' => e = .returned (.bool (isHx c)) ∧ w = w' := by
  cases hd : isDig c
  · have HD := hide (fun W => hd ▸ isDigit_any c W)
    by_cases h97 : 97 ≤ c.toNat
    · by_cases h102 : c.toNat ≤ 102
      · have E := hide (show isHx c = true by simp [isHx, hd]; omega)
        have f0 : (97 : Int) ≤ (c.toNat : Int) := by first | omega | (simp; omega)
        have f1 : (c.toNat : Int) ≤ (102 : Int) := by first | omega | (simp; omega)
        clear hd; go_enter Tryd.func24, Tryd.ntmps24
        go_wp2_with (go_at_call 26; refine (HD.out _).mono ?_; rintro e w' ⟨rfl, rfl⟩)
        go_ret
        exact ⟨by rw [E.out]; rfl, rfl⟩
      · have E := hide (show isHx c = false by simp [isHx, hd]; omega)
        have f0 : (97 : Int) ≤ (c.toNat : Int) := by first | omega | (simp; omega)
        have f1 : decide ((c.toNat : Int) ≤ (102 : Int)) = false := by first | omega | (simp; omega)
        have f2 : decide ((c.toNat : Int) ≤ (70 : Int)) = false := by first | omega | (simp; omega)
        clear hd; go_enter Tryd.func24, Tryd.ntmps24
        go_wp2_with (go_at_call 26; refine (HD.out _).mono ?_; rintro e w' ⟨rfl, rfl⟩)
        go_ret
        exact ⟨by rw [E.out]; rfl, rfl⟩
    · by_cases h65 : 65 ≤ c.toNat
      · by_cases h70 : c.toNat ≤ 70
        · have E := hide (show isHx c = true by simp [isHx, hd]; omega)
          have f0 : (c.toNat : Int) < (97 : Int) := by first | omega | (simp; omega)
          have f1 : (65 : Int) ≤ (c.toNat : Int) := by first | omega | (simp; omega)
          have f2 : (c.toNat : Int) ≤ (70 : Int) := by first | omega | (simp; omega)
          clear hd; go_enter Tryd.func24, Tryd.ntmps24
          go_wp2_with (go_at_call 26; refine (HD.out _).mono ?_; rintro e w' ⟨rfl, rfl⟩)
          go_ret
          exact ⟨by rw [E.out]; rfl, rfl⟩
        · have E := hide (show isHx c = false by simp [isHx, hd]; omega)
          have f0 : (c.toNat : Int) < (97 : Int) := by first | omega | (simp; omega)
          have f1 : (65 : Int) ≤ (c.toNat : Int) := by first | omega | (simp; omega)
          have f2 : decide ((c.toNat : Int) ≤ (70 : Int)) = false := by first | omega | (simp; omega)
          clear hd; go_enter Tryd.func24, Tryd.ntmps24
          go_wp2_with (go_at_call 26; refine (HD.out _).mono ?_; rintro e w' ⟨rfl, rfl⟩)
          go_ret
          exact ⟨by rw [E.out]; rfl, rfl⟩
      · have E := hide (show isHx c = false by simp [isHx, hd]; omega)
        have f0 : (c.toNat : Int) < (97 : Int) := by first | omega | (simp; omega)
        have f1 : (c.toNat : Int) < (65 : Int) := by first | omega | (simp; omega)
        clear hd; go_enter Tryd.func24, Tryd.ntmps24
        go_wp2_with (go_at_call 26; refine (HD.out _).mono ?_; rintro e w' ⟨rfl, rfl⟩)
        go_ret
        exact ⟨by rw [E.out]; rfl, rfl⟩
  · have HD := hide (fun W => hd ▸ isDigit_any c W)
    have E := hide (show isHx c = true by simp [isHx, hd])
    clear hd
    go_enter Tryd.func24, Tryd.ntmps24
    go_wp2_with (go_at_call 26; refine (HD.out _).mono ?_; rintro e w' ⟨rfl, rfl⟩)
    go_ret
    exact ⟨by rw [E.out]; rfl, rfl⟩
set_option maxHeartbeats 1000000 in
theorem row_isDigit (t : ByteArray) (w : World) (ht : t.size ≤ maxLen) : Calls Tryd.prog 23 #[.string t, .func (.func 26) #[] #[]] w fun e w' => e = .returned (.int .i64 (run isDig t.data.toList : Nat)) ∧ w = w' := by
  unfold maxLen at ht
  go_enter Tryd.func23, Tryd.ntmps23
  go_wp2
  go_loop [5] (fun i => ∃ k : Nat, k ≤ t.size ∧ i = .int .i64 k ∧ ∀ (j : Nat) c, j < k → t.data.toList[j]? = some c → isDig c = true) (fun i => t.size - (intOf i).toNat)
  case atStart => exact ⟨0, Nat.zero_le _, rfl, fun j c h => by omega⟩
  case round =>
    obtain ⟨k, hk, rfl, hall⟩ := hrel
    have HALL := hide hall
    clear hall
    by_cases hlt : k < t.size
    · obtain ⟨c, hc⟩ : ∃ c, t[k] = c := ⟨_, rfl⟩
      have hg := get_at t k hlt
      rw [hc] at hg
      have HG := hide hg
      cases hp : isDig c
      · have E := hide (run_snoc HALL.out (by simpa using hk) (fun d hd => by rw [HG.out] at hd; cases hd; exact hp))
        have HC := hide (show ∀ W, Calls Tryd.prog 26 #[.int .u8 t[k].toNat] W fun e w' => e = .returned (.bool false) ∧ W = w' from fun W => by have := isDigit_any c W; rw [hp] at this; rw [hc]; exact this)
        clear hc hg hp
        go_wp2_with (go_at_call 26; refine (HC.out _).mono ?_; rintro e w' ⟨rfl, rfl⟩)
        go_ret
        exact ⟨by rw [E.out]; rfl, rfl⟩
      · have HC := hide (show ∀ W, Calls Tryd.prog 26 #[.int .u8 t[k].toNat] W fun e w' => e = .returned (.bool true) ∧ W = w' from fun W => by have := isDigit_any c W; rw [hp] at this; rw [hc]; exact this)
        have HP := hide hp
        clear hc hg hp
        go_wp2_with (go_at_call 26; refine (HC.out _).mono ?_; rintro e w' ⟨rfl, rfl⟩)
        go_round
        case rel => exact ⟨k + 1, by omega, by go_num, fun j d hj hd => by (by_cases e : j = k); (subst e; rw [HG.out] at hd; cases hd; exact HP.out); exact HALL.out j d (by omega) hd⟩
        case measure => simp [intOf]; omega
    · have E := hide (run_snoc HALL.out (by simpa using hk) (fun d hd => by rw [get_none t k hlt] at hd; cases hd))
      go_wp2_with (fail)
      go_ret
      exact ⟨by rw [E.out]; rfl, rfl⟩
set_option maxHeartbeats 1000000 in
theorem row_isHex (t : ByteArray) (w : World) (ht : t.size ≤ maxLen) : Calls Tryd.prog 23 #[.string t, .func (.func 24) #[] #[]] w fun e w' => e = .returned (.int .i64 (run isHx t.data.toList : Nat)) ∧ w = w' := by
  unfold maxLen at ht
  go_enter Tryd.func23, Tryd.ntmps23
  go_wp2
  go_loop [5] (fun i => ∃ k : Nat, k ≤ t.size ∧ i = .int .i64 k ∧ ∀ (j : Nat) c, j < k → t.data.toList[j]? = some c → isHx c = true) (fun i => t.size - (intOf i).toNat)
  case atStart => exact ⟨0, Nat.zero_le _, rfl, fun j c h => by omega⟩
  case round =>
    obtain ⟨k, hk, rfl, hall⟩ := hrel
    have HALL := hide hall
    clear hall
    by_cases hlt : k < t.size
    · obtain ⟨c, hc⟩ : ∃ c, t[k] = c := ⟨_, rfl⟩
      have hg := get_at t k hlt
      rw [hc] at hg
      have HG := hide hg
      cases hp : isHx c
      · have E := hide (run_snoc HALL.out (by simpa using hk) (fun d hd => by rw [HG.out] at hd; cases hd; exact hp))
        have HC := hide (show ∀ W, Calls Tryd.prog 24 #[.int .u8 t[k].toNat] W fun e w' => e = .returned (.bool false) ∧ W = w' from fun W => by have := isHex_any c W; rw [hp] at this; rw [hc]; exact this)
        clear hc hg hp
        go_wp2_with (go_at_call 24; refine (HC.out _).mono ?_; rintro e w' ⟨rfl, rfl⟩)
        go_ret
        exact ⟨by rw [E.out]; rfl, rfl⟩
      · have HC := hide (show ∀ W, Calls Tryd.prog 24 #[.int .u8 t[k].toNat] W fun e w' => e = .returned (.bool true) ∧ W = w' from fun W => by have := isHex_any c W; rw [hp] at this; rw [hc]; exact this)
        have HP := hide hp
        clear hc hg hp
        go_wp2_with (go_at_call 24; refine (HC.out _).mono ?_; rintro e w' ⟨rfl, rfl⟩)
        go_round
        case rel => exact ⟨k + 1, by omega, by go_num, fun j d hj hd => by (by_cases e : j = k); (subst e; rw [HG.out] at hd; cases hd; exact HP.out); exact HALL.out j d (by omega) hd⟩
        case measure => simp [intOf]; omega
    · have E := hide (run_snoc HALL.out (by simpa using hk) (fun d hd => by rw [get_none t k hlt] at hd; cases hd))
      go_wp2_with (fail)
      go_ret
      exact ⟨by rw [E.out]; rfl, rfl⟩
end Go.Proofs.YtomihkflhhhpjaaDoor
