/- Rules of watches; walks of the checks of one rule (printed by gen_a1.py). -/
import Derived.Test.YtpjfihdbbgencaaDoorNames
import Derived.Test.YtpjfihdbbgencaaDoorFirsts
import Derived.Test.YtpjfihdbbgencaaDoorMapB
import Derived.Test.YtpjfihdbbgencaaDoorMem
import Derived.Test.YtpjfihdbbgencaaDoorFam
namespace Go.Proofs.YtpjfihdbbgencaaDoor
open Go.RowKit
set_option linter.unusedVariables false
set_option linter.unusedSimpArgs false
structure Rl where
  name : ByteArray
  key : ByteArray
  ask : Int
  limit : Int
  window : Int
  hold : Int
  rest : Int
/-- The cells of a rule. -/
def Rl.cs (r : Rl) : List Value := [.string r.name, .string r.key, .int .i64 r.ask, .int .i64 r.limit, .int .i64 r.window, .int .i64 r.hold, .int .i64 r.rest]
def rangeB (r : Rl) : Bool := outsideB r.limit 0 1000000000 || (outsideB r.window 1 604800 || (outsideB r.hold 0 604800 || outsideB r.rest 0 604800))
/-- The error of a rule, but for its name. -/
def ruleErr (r : Rl) : Int := if keyErr r.key = 0 then (if outsideB r.ask 1 4 then 10 else if rangeB r then 2 else if r.ask = 4 ∧ r.limit ≠ 0 then 1 else 0) else keyErr r.key
theorem ruleErr_key {r : Rl} (h : keyErr r.key ≠ 0) : ruleErr r = keyErr r.key := by rw [ruleErr, if_neg h]
theorem ruleErr_ask {r : Rl} (h : keyErr r.key = 0) (h1 : outsideB r.ask 1 4 = true) : ruleErr r = 10 := by rw [ruleErr, if_pos h, if_pos h1]
theorem ruleErr_range {r : Rl} (h : keyErr r.key = 0) (h1 : outsideB r.ask 1 4 = false) (h2 : rangeB r = true) : ruleErr r = 2 := by rw [ruleErr, if_pos h, if_neg (by rw [h1]; decide), if_pos h2]
theorem ruleErr_form {r : Rl} (h : keyErr r.key = 0) (h1 : outsideB r.ask 1 4 = false) (h2 : rangeB r = false) (h3 : r.ask = 4) (h4 : r.limit ≠ 0) : ruleErr r = 1 := by rw [ruleErr, if_pos h, if_neg (by rw [h1]; decide), if_neg (by rw [h2]; decide), if_pos ⟨h3, h4⟩]
theorem ruleErr_none {r : Rl} (h : keyErr r.key = 0) (h1 : outsideB r.ask 1 4 = false) (h2 : rangeB r = false) (h3 : ¬ (r.ask = 4 ∧ r.limit ≠ 0)) : ruleErr r = 0 := by rw [ruleErr, if_pos h, if_neg (by rw [h1]; decide), if_neg (by rw [h2]; decide), if_neg h3]
theorem outside_any (n lo hi : Int) (w : World) :
    Calls Tryd.prog 30 #[.int .i64 n, .int .i64 lo, .int .i64 hi] w fun e w' => e = .returned (.bool (outsideB n lo hi)) ∧ w = w' := by
  go_enter Tryd.func30, Tryd.ntmps30
  go_wp2
  all_goals go_ret
  all_goals (exact ⟨ret_bool (by simp [outsideB, *]), rfl⟩)
theorem isMoment_any (n : Int) (w : World) : Calls Tryd.prog 28 #[.int .i64 n] w fun e w' => e = .returned (.bool (!outsideB n 0 3155759999)) ∧ w = w' := by
  go_enter Tryd.func28, Tryd.ntmps28
  go_wp2_with (go_at_call 30; refine (outside_any _ _ _ _).mono ?_; rintro e w' ⟨rfl, rfl⟩)
  go_ret
  exact ⟨rfl, rfl⟩
set_option maxHeartbeats 400000 in
theorem checkKey_any (s : ByteArray) (w : World) (hs : s.size ≤ maxLen) :
    Calls Tryd.prog 38 #[.string s] w fun e w' => e = .returned (.int .i64 (keyErr s)) ∧ w = w' := by
  unfold maxLen at hs
  by_cases h : 200 < s.size
  · have E := hide (show keyErr s = 4 by rw [keyErr, if_pos h])
    go_enter Tryd.func38, Tryd.ntmps38
    go_wp2_with (fail)
    go_ret
    exact ⟨by rw [E.out]; rfl, rfl⟩
  · go_enter Tryd.func38, Tryd.ntmps38
    go_wp2_with (fail)
    go_loop [9] (fun i => ∃ k : Nat, k ≤ s.size ∧ i = .int .i64 k ∧ (s.data.toList.take k).all byteOk = true) (fun i => s.size - (intOf i).toNat)
    case atStart => exact ⟨0, Nat.zero_le _, rfl, rfl⟩
    case round =>
      obtain ⟨k, hk, rfl, hall⟩ := hrel
      have HALL := hide hall
      clear hall
      by_cases hlt : k < s.size
      · obtain ⟨c, hc⟩ : ∃ c, s[k] = c := ⟨_, rfl⟩
        by_cases h1 : c.toNat < 32
        · have E := hide (show keyErr s = 9 by rw [keyErr, if_neg h, all_take_false s byteOk k hlt (by rw [hc]; simp [byteOk]; omega)]; rfl)
          have h1' : ((s[k].toNat : Int)) < 32 := by rw [hc]; omega
          clear hc
          go_wp2_with (fail)
          go_ret
          exact ⟨by rw [E.out]; rfl, rfl⟩
        · by_cases h2 : 126 < c.toNat
          · have E := hide (show keyErr s = 9 by rw [keyErr, if_neg h, all_take_false s byteOk k hlt (by rw [hc]; simp [byteOk]; omega)]; rfl)
            have h1' : (32 : Int) ≤ (s[k].toNat : Int) := by rw [hc]; omega
            have h2' : (126 : Int) < (s[k].toNat : Int) := by rw [hc]; omega
            clear hc
            go_wp2_with (fail)
            go_ret
            exact ⟨by rw [E.out]; rfl, rfl⟩
          · have E := hide (show byteOk s[k] = true by rw [hc]; simp [byteOk]; omega)
            have h1' : (32 : Int) ≤ (s[k].toNat : Int) := by rw [hc]; omega
            have h2' : (s[k].toNat : Int) ≤ 126 := by rw [hc]; omega
            clear hc
            go_wp2_with (fail)
            go_round
            case rel => exact ⟨k + 1, by omega, by go_num, by rw [all_take_snoc s byteOk k hlt, HALL.out, E.out]; rfl⟩
            case measure => simp [intOf]; omega
      · have E := hide (show keyErr s = 0 by rw [keyErr, if_neg h, ← take_all s k hlt, HALL.out]; rfl)
        go_wp2_with (fail)
        go_ret
        exact ⟨by rw [E.out]; rfl, rfl⟩
set_option maxRecDepth 100000 in
set_option maxHeartbeats 4000000 in
theorem checkRule_any (r : Rl) (w : World) (hk : r.key.size ≤ maxLen) :
    Calls Tryd.prog 22 #[.agg r.cs.toArray] w fun e w' => e = .returned (.int .i64 (ruleErr r)) ∧ Below w.heap.size w w' := by
  have CW := hide (fun W => checkKey_any r.key W hk)
  have CA := hide (fun W => outside_any r.ask 1 4 W)
  have C0 := hide (fun W => outside_any r.limit 0 1000000000 W)
  have C1 := hide (fun W => outside_any r.window 1 604800 W)
  have C2 := hide (fun W => outside_any r.hold 0 604800 W)
  have C3 := hide (fun W => outside_any r.rest 0 604800 W)
  unfold Rl.cs
  by_cases hke : keyErr r.key = 0
  · rw [hke] at CW
    cases ha : outsideB r.ask 1 4
    · rw [ha] at CA
      cases h0 : outsideB r.limit 0 1000000000
      · rw [h0] at C0
        cases h1 : outsideB r.window 1 604800
        · rw [h1] at C1
          cases h2 : outsideB r.hold 0 604800
          · rw [h2] at C2
            cases h3 : outsideB r.rest 0 604800
            · rw [h3] at C3
              have hr : rangeB r = false := by rw [rangeB, h0, h1, h2, h3]; rfl
              by_cases h4 : r.ask = 4
              · rw [h4] at CA
                by_cases h5 : r.limit = 0
                · have h5b : (r.limit == 0) = true := by simp [h5]
                  rw [h5] at C0
                  have E := hide (ruleErr_none hke ha hr (fun h => h.2 h5))
                  clear hke ha h0 h1 h2 h3 hr
                  go_enter Tryd.func22, Tryd.ntmps22
                  go_wp2_with (first | (go_at_call 38; refine (CW.out _).mono ?_; rintro e w' ⟨rfl, rfl⟩) | (go_at_call 30; ((with_reducible refine (CA.out _).mono ?_)); rintro e w' ⟨rfl, rfl⟩) | (go_at_call 30; ((with_reducible refine (C0.out _).mono ?_)); rintro e w' ⟨rfl, rfl⟩) | (go_at_call 30; ((with_reducible refine (C1.out _).mono ?_)); rintro e w' ⟨rfl, rfl⟩) | (go_at_call 30; ((with_reducible refine (C2.out _).mono ?_)); rintro e w' ⟨rfl, rfl⟩) | (go_at_call 30; ((with_reducible refine (C3.out _).mono ?_)); rintro e w' ⟨rfl, rfl⟩))
                  go_ret
                  exact ⟨by rw [E.out]; rfl, by go_grown⟩
                · have h5b : (r.limit == 0) = false := by simpa using h5
                  have E := hide (ruleErr_form hke ha hr h4 h5)
                  clear hke ha h0 h1 h2 h3 hr
                  go_enter Tryd.func22, Tryd.ntmps22
                  go_wp2_with (first | (go_at_call 38; refine (CW.out _).mono ?_; rintro e w' ⟨rfl, rfl⟩) | (go_at_call 30; ((with_reducible refine (CA.out _).mono ?_)); rintro e w' ⟨rfl, rfl⟩) | (go_at_call 30; ((with_reducible refine (C0.out _).mono ?_)); rintro e w' ⟨rfl, rfl⟩) | (go_at_call 30; ((with_reducible refine (C1.out _).mono ?_)); rintro e w' ⟨rfl, rfl⟩) | (go_at_call 30; ((with_reducible refine (C2.out _).mono ?_)); rintro e w' ⟨rfl, rfl⟩) | (go_at_call 30; ((with_reducible refine (C3.out _).mono ?_)); rintro e w' ⟨rfl, rfl⟩))
                  go_ret
                  exact ⟨by rw [E.out]; rfl, by go_grown⟩
              · have h4b : (r.ask == 4) = false := by simpa using h4
                have E := hide (ruleErr_none hke ha hr (fun h => h4 h.1))
                clear hke ha h0 h1 h2 h3 hr
                go_enter Tryd.func22, Tryd.ntmps22
                go_wp2_with (first | (go_at_call 38; refine (CW.out _).mono ?_; rintro e w' ⟨rfl, rfl⟩) | (go_at_call 30; ((with_reducible refine (CA.out _).mono ?_)); rintro e w' ⟨rfl, rfl⟩) | (go_at_call 30; ((with_reducible refine (C0.out _).mono ?_)); rintro e w' ⟨rfl, rfl⟩) | (go_at_call 30; ((with_reducible refine (C1.out _).mono ?_)); rintro e w' ⟨rfl, rfl⟩) | (go_at_call 30; ((with_reducible refine (C2.out _).mono ?_)); rintro e w' ⟨rfl, rfl⟩) | (go_at_call 30; ((with_reducible refine (C3.out _).mono ?_)); rintro e w' ⟨rfl, rfl⟩))
                go_ret
                exact ⟨by rw [E.out]; rfl, by go_grown⟩
            · rw [h3] at C3
              have hr : rangeB r = true := by rw [rangeB, h0, h1, h2, h3]; simp
              have E := hide (ruleErr_range hke ha hr)
              clear hke ha hr h0 h1 h2 h3
              go_enter Tryd.func22, Tryd.ntmps22
              go_wp2_with (first | (go_at_call 38; refine (CW.out _).mono ?_; rintro e w' ⟨rfl, rfl⟩) | (go_at_call 30; ((with_reducible refine (CA.out _).mono ?_)); rintro e w' ⟨rfl, rfl⟩) | (go_at_call 30; ((with_reducible refine (C0.out _).mono ?_)); rintro e w' ⟨rfl, rfl⟩) | (go_at_call 30; ((with_reducible refine (C1.out _).mono ?_)); rintro e w' ⟨rfl, rfl⟩) | (go_at_call 30; ((with_reducible refine (C2.out _).mono ?_)); rintro e w' ⟨rfl, rfl⟩) | (go_at_call 30; ((with_reducible refine (C3.out _).mono ?_)); rintro e w' ⟨rfl, rfl⟩))
              go_ret
              exact ⟨by rw [E.out]; rfl, by go_grown⟩
          · rw [h2] at C2
            have hr : rangeB r = true := by rw [rangeB, h0, h1, h2]; simp
            have E := hide (ruleErr_range hke ha hr)
            clear hke ha hr h0 h1 h2
            go_enter Tryd.func22, Tryd.ntmps22
            go_wp2_with (first | (go_at_call 38; refine (CW.out _).mono ?_; rintro e w' ⟨rfl, rfl⟩) | (go_at_call 30; ((with_reducible refine (CA.out _).mono ?_)); rintro e w' ⟨rfl, rfl⟩) | (go_at_call 30; ((with_reducible refine (C0.out _).mono ?_)); rintro e w' ⟨rfl, rfl⟩) | (go_at_call 30; ((with_reducible refine (C1.out _).mono ?_)); rintro e w' ⟨rfl, rfl⟩) | (go_at_call 30; ((with_reducible refine (C2.out _).mono ?_)); rintro e w' ⟨rfl, rfl⟩))
            go_ret
            exact ⟨by rw [E.out]; rfl, by go_grown⟩
        · rw [h1] at C1
          have hr : rangeB r = true := by rw [rangeB, h0, h1]; simp
          have E := hide (ruleErr_range hke ha hr)
          clear hke ha hr h0 h1
          go_enter Tryd.func22, Tryd.ntmps22
          go_wp2_with (first | (go_at_call 38; refine (CW.out _).mono ?_; rintro e w' ⟨rfl, rfl⟩) | (go_at_call 30; ((with_reducible refine (CA.out _).mono ?_)); rintro e w' ⟨rfl, rfl⟩) | (go_at_call 30; ((with_reducible refine (C0.out _).mono ?_)); rintro e w' ⟨rfl, rfl⟩) | (go_at_call 30; ((with_reducible refine (C1.out _).mono ?_)); rintro e w' ⟨rfl, rfl⟩))
          go_ret
          exact ⟨by rw [E.out]; rfl, by go_grown⟩
      · rw [h0] at C0
        have hr : rangeB r = true := by rw [rangeB, h0]; simp
        have E := hide (ruleErr_range hke ha hr)
        clear hke ha hr h0
        go_enter Tryd.func22, Tryd.ntmps22
        go_wp2_with (first | (go_at_call 38; refine (CW.out _).mono ?_; rintro e w' ⟨rfl, rfl⟩) | (go_at_call 30; ((with_reducible refine (CA.out _).mono ?_)); rintro e w' ⟨rfl, rfl⟩) | (go_at_call 30; ((with_reducible refine (C0.out _).mono ?_)); rintro e w' ⟨rfl, rfl⟩))
        go_ret
        exact ⟨by rw [E.out]; rfl, by go_grown⟩
    · rw [ha] at CA
      have E := hide (ruleErr_ask hke ha)
      clear hke ha
      go_enter Tryd.func22, Tryd.ntmps22
      go_wp2_with (first | (go_at_call 38; refine (CW.out _).mono ?_; rintro e w' ⟨rfl, rfl⟩) | (go_at_call 30; ((with_reducible refine (CA.out _).mono ?_)); rintro e w' ⟨rfl, rfl⟩))
      go_ret
      exact ⟨by rw [E.out]; rfl, by go_grown⟩
  · have hne : (keyErr r.key == 0) = false := by simpa using hke
    have E := hide (ruleErr_key hke)
    skip
    go_enter Tryd.func22, Tryd.ntmps22
    go_wp2_with (first | (go_at_call 38; refine (CW.out _).mono ?_; rintro e w' ⟨rfl, rfl⟩) | (go_at_call 30; ((with_reducible refine (CA.out _).mono ?_)); rintro e w' ⟨rfl, rfl⟩))
    go_ret
    exact ⟨by rw [E.out]; rfl, by go_grown⟩
end Go.Proofs.YtpjfihdbbgencaaDoor
