/- Walks of checkKey and of the reference's WordError. -/
import Derived.Test.YtnbmohekikhknaaRateSh
import Derived.Test.YtnbmohekikhknaaRateBkt
import Derived.Test.YtnbmohekikhknaaShelf
import Derived.Lib.IndexAny
namespace Go.Proofs.Ytnbmohekikhknaa
open Go.RowKit
theorem all_take_snoc (s : ByteArray) (p : UInt8 → Bool) (k : Nat) (h : k < s.size) : (s.data.toList.take (k + 1)).all p = ((s.data.toList.take k).all p && p s[k]) := by
  rw [take_snoc s k h]; simp
theorem all_take_false (s : ByteArray) (p : UInt8 → Bool) (k : Nat) (h : k < s.size) (hp : p s[k] = false) : s.data.toList.all p = false := by
  rw [List.all_eq_false]
  exact ⟨s[k], by rw [show s[k] = s.data.toList[k]'(by simpa using h) from rfl]; exact List.getElem_mem _, by simp [hp]⟩
set_option maxHeartbeats 400000 in
theorem checkKey_any (s : ByteArray) (w : World) (hs : s.size ≤ maxLen) :
    Calls Try.prog 49 #[.string s] w fun e w' => e = .returned (.int .i64 (keyErr s)) ∧ w = w' := by
  unfold maxLen at hs
  by_cases h : 200 < s.size
  · have E := hide (show keyErr s = 4 by rw [keyErr, if_pos h])
    go_enter Try.func49, Try.ntmps49
    go_wp2
    go_ret
    exact ⟨by rw [E.out]; rfl, rfl⟩
  · go_enter Try.func49, Try.ntmps49
    go_wp2
    go_loop [9] (fun i => ∃ k : Nat, k ≤ s.size ∧ i = .int .i64 k ∧ (s.data.toList.take k).all byteOk = true) (fun i => s.size - (intOf i).toNat)
    case atStart => exact ⟨0, Nat.zero_le _, rfl, rfl⟩
    case round =>
      obtain ⟨k, hk, rfl, hall⟩ := hrel
      have HALL := hide hall
      clear hall
      by_cases hlt : k < s.size
      · obtain ⟨c, hc⟩ : ∃ c, s[k] = c := ⟨_, rfl⟩
        by_cases h1 : c.toNat < 32
        · have E := hide (show keyErr s = 9 by rw [keyErr, if_neg h, all_take_false s byteOk k hlt (by rw [hc]; simp [byteOk]; omega)]; rfl)
          have h1' : ((s[k].toNat : Int)) < 32 := by rw [hc]; omega
          clear hc
          go_wp2
          go_ret
          exact ⟨by rw [E.out]; rfl, rfl⟩
        · by_cases h2 : 126 < c.toNat
          · have E := hide (show keyErr s = 9 by rw [keyErr, if_neg h, all_take_false s byteOk k hlt (by rw [hc]; simp [byteOk]; omega)]; rfl)
            have h1' : (32 : Int) ≤ (s[k].toNat : Int) := by rw [hc]; omega
            have h2' : (126 : Int) < (s[k].toNat : Int) := by rw [hc]; omega
            clear hc
            go_wp2
            go_ret
            exact ⟨by rw [E.out]; rfl, rfl⟩
          · have E := hide (show byteOk s[k] = true by rw [hc]; simp [byteOk]; omega)
            have h1' : (32 : Int) ≤ (s[k].toNat : Int) := by rw [hc]; omega
            have h2' : (s[k].toNat : Int) ≤ 126 := by rw [hc]; omega
            clear hc
            go_wp2
            go_round
            case rel => exact ⟨k + 1, by omega, by go_num, by rw [all_take_snoc s byteOk k hlt, HALL.out, E.out]; rfl⟩
            case measure => simp [intOf]; omega
      · have E := hide (show keyErr s = 0 by rw [keyErr, if_neg h, ← take_all s k hlt, HALL.out]; rfl)
        go_wp2
        go_ret
        exact ⟨by rw [E.out]; rfl, rfl⟩
/-- What bytesIn says. -/
def bytesInB (s : ByteArray) (low : Nat) (without : List UInt8) : Bool := s.data.toList.all fun c => decide (low ≤ c.toNat) && decide (c.toNat ≤ 126) && !without.contains c
theorem indexByte_neg (l : List UInt8) (c : UInt8) (h : l.contains c = false) : Lib.indexByte l c < 0 := by
  have := Lib.contains_iff_indexByte l c
  rw [h] at this
  simpa using this.symm
theorem indexByte_nonneg (l : List UInt8) (c : UInt8) (h : l.contains c = true) : 0 ≤ Lib.indexByte l c := by
  have := Lib.contains_iff_indexByte l c
  rw [h] at this
  simpa using this.symm
set_option maxHeartbeats 800000 in
theorem bytesIn_any (s : ByteArray) (low : Nat) (t : ByteArray) (w : World) (hs : s.size ≤ maxLen) :
    Calls Try.prog 55 #[.string s, .int .u8 low, .string t] w fun e w' => e = .returned (.bool (bytesInB s low t.data.toList)) ∧ w = w' := by
  unfold maxLen at hs
  go_enter Try.func55, Try.ntmps55
  go_wp2
  go_loop [10] (fun i => ∃ k : Nat, k ≤ s.size ∧ i = .int .i64 k ∧ (s.data.toList.take k).all (fun c => decide (low ≤ c.toNat) && decide (c.toNat ≤ 126) && !t.data.toList.contains c) = true) (fun i => s.size - (intOf i).toNat)
  case atStart => exact ⟨0, Nat.zero_le _, rfl, rfl⟩
  case round =>
    obtain ⟨k, hk, rfl, hall⟩ := hrel
    have HALL := hide hall
    clear hall
    by_cases hlt : k < s.size
    · obtain ⟨c, hc⟩ : ∃ c, s[k] = c := ⟨_, rfl⟩
      by_cases h1 : c.toNat < low
      · have E := hide (show bytesInB s low t.data.toList = false from all_take_false s _ k hlt (by rw [hc]; simp; omega))
        have h1' : ((s[k].toNat : Int)) < low := by rw [hc]; omega
        clear hc
        go_wp2_with (fail)
        go_ret
        exact ⟨by rw [E.out]; rfl, rfl⟩
      · by_cases h2 : 126 < c.toNat
        · have E := hide (show bytesInB s low t.data.toList = false from all_take_false s _ k hlt (by rw [hc]; simp; omega))
          have h1' : (low : Int) ≤ (s[k].toNat : Int) := by rw [hc]; omega
          have h2' : (126 : Int) < (s[k].toNat : Int) := by rw [hc]; omega
          clear hc
          go_wp2_with (fail)
          go_ret
          exact ⟨by rw [E.out]; rfl, rfl⟩
        · have h1' : (low : Int) ≤ (s[k].toNat : Int) := by rw [hc]; omega
          have h2' : (s[k].toNat : Int) ≤ 126 := by rw [hc]; omega
          have hcc : ((s[k].toNat : Int)).toNat.toUInt8 = c := by rw [hc]; simp
          cases h3 : t.data.toList.contains c
          · have E := hide (show (fun c : UInt8 => decide (low ≤ c.toNat) && decide (c.toNat ≤ 126) && !t.data.toList.contains c) s[k] = true by rw [hc]; simp at h3 ⊢; exact ⟨by omega, h3⟩)
            have hI := indexByte_neg _ _ h3
            rw [← hcc] at hI
            obtain ⟨x, hx⟩ : ∃ x, Lib.indexByte t.data.toList ((s[k].toNat : Int)).toNat.toUInt8 = x := ⟨_, rfl⟩
            have CI := hide (fun W => Try.strings_IndexByte t (s[k].toNat : Int) W)
            rw [hx] at hI CI
            clear hc hcc h3 hx
            go_wp2_with (go_at_call 59; refine (CI.out _).mono ?_; rintro e w' ⟨rfl, rfl⟩)
            go_round
            case rel => exact ⟨k + 1, by omega, by go_num, by rw [all_take_snoc s _ k hlt, HALL.out, E.out]; rfl⟩
            case measure => simp [intOf]; omega
          · have E := hide (show bytesInB s low t.data.toList = false from all_take_false s _ k hlt (by rw [hc]; simp at h3 ⊢; intro _ _; exact h3))
            have hI := indexByte_nonneg _ _ h3
            rw [← hcc] at hI
            obtain ⟨x, hx⟩ : ∃ x, Lib.indexByte t.data.toList ((s[k].toNat : Int)).toNat.toUInt8 = x := ⟨_, rfl⟩
            have CI := hide (fun W => Try.strings_IndexByte t (s[k].toNat : Int) W)
            rw [hx] at hI CI
            clear hc hcc h3 hx
            go_wp2_with (go_at_call 59; refine (CI.out _).mono ?_; rintro e w' ⟨rfl, rfl⟩)
            go_ret
            exact ⟨by rw [E.out]; rfl, rfl⟩
    · have E := hide (show bytesInB s low t.data.toList = true by rw [bytesInB, ← take_all s k hlt]; exact HALL.out)
      go_wp2_with (fail)
      go_ret
      exact ⟨by rw [E.out]; rfl, rfl⟩
/-- All bytes are from 32 to 126. -/
def plainB (s : ByteArray) : Bool := s.data.toList.all byteOk
theorem bytesIn_plain (s : ByteArray) : bytesInB s 32 [] = plainB s := by
  unfold bytesInB plainB byteOk; simp
theorem plainBytes_any (s : ByteArray) (w : World) (hs : s.size ≤ maxLen) :
    Calls Try.prog 50 #[.string s] w fun e w' => e = .returned (.bool (plainB s)) ∧ w = w' := by
  have C := hide (fun (t : ByteArray) (ht : t.data.toList = []) (W : World) => show Calls Try.prog 55 #[.string s, .int .u8 32, .string t] W fun e w' => e = .returned (.bool (plainB s)) ∧ W = w' by
    have := bytesIn_any s 32 t W hs; rw [ht, bytesIn_plain] at this; exact this)
  go_enter Try.func50, Try.ntmps50
  go_wp2_with (fail)
  refine (C.out _ rfl _).mono ?_
  rintro e w' ⟨rfl, rfl⟩
  go_wp2_with (fail)
  go_ret
  exact ⟨rfl, rfl⟩
theorem WordError_any (s : ByteArray) (w : World) (hs : s.size ≤ maxLen) :
    Calls Try.prog 42 #[.string s] w fun e w' => e = .returned (.int .i64 (keyErr s)) ∧ w = w' := by
  have C := hide (fun W => plainBytes_any s W hs)
  unfold maxLen at hs
  by_cases h : 200 < s.size
  · have E := hide (show keyErr s = 4 by rw [keyErr, if_pos h])
    go_enter Try.func42, Try.ntmps42
    go_wp2_with (fail)
    go_ret
    exact ⟨by rw [E.out]; rfl, rfl⟩
  · cases hb : plainB s
    · have E := hide (show keyErr s = 9 by rw [keyErr, if_neg h, show s.data.toList.all byteOk = plainB s from rfl, hb]; rfl)
      rw [hb] at C
      clear hb
      go_enter Try.func42, Try.ntmps42
      go_wp2_with (go_at_call 50; refine (C.out _).mono ?_; rintro e w' ⟨rfl, rfl⟩)
      go_ret
      exact ⟨by rw [E.out]; rfl, rfl⟩
    · have E := hide (show keyErr s = 0 by rw [keyErr, if_neg h, show s.data.toList.all byteOk = plainB s from rfl, hb]; rfl)
      rw [hb] at C
      clear hb
      go_enter Try.func42, Try.ntmps42
      go_wp2_with (go_at_call 50; refine (C.out _).mono ?_; rintro e w' ⟨rfl, rfl⟩)
      go_ret
      exact ⟨by rw [E.out]; rfl, rfl⟩
end Go.Proofs.Ytnbmohekikhknaa
