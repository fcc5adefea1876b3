/- AlChk, AlErr, AlRul, AlSum: texts of one's own, in one file. -/
import Derived.Test.YtkkhjlomicokgaaGreatDoorTpC
import Derived.Test.YtkkhjlomicokgaaGreatDoorTpA
/- Rules of watches; walks of the checks of one rule (printed by gen_a1.py). -/
namespace Go.Proofs.YtkkhjlomicokgaaGreatDoor.al
open Go.RowKit
set_option linter.unusedVariables false
set_option linter.unusedSimpArgs false
structure Rl where
  name : ByteArray
  key : ByteArray
  ask : Int
  limit : Int
  window : Int
  hold : Int
  rest : Int
/-- The cells of a rule. -/
def Rl.cs (r : Rl) : List Value := [.string r.name, .string r.key, .int .i64 r.ask, .int .i64 r.limit, .int .i64 r.window, .int .i64 r.hold, .int .i64 r.rest]
def rangeB (r : Rl) : Bool := outsideB r.limit 0 1000000000 || (outsideB r.window 1 604800 || (outsideB r.hold 0 604800 || outsideB r.rest 0 604800))
/-- The error of a rule, but for its name. -/
def ruleErr (r : Rl) : Int := if keyErr r.key = 0 then (if outsideB r.ask 1 4 then 10 else if rangeB r then 2 else if r.ask = 4 ∧ r.limit ≠ 0 then 1 else 0) else keyErr r.key
theorem ruleErr_key {r : Rl} (h : keyErr r.key ≠ 0) : ruleErr r = keyErr r.key := by rw [ruleErr, if_neg h]
theorem ruleErr_ask {r : Rl} (h : keyErr r.key = 0) (h1 : outsideB r.ask 1 4 = true) : ruleErr r = 10 := by rw [ruleErr, if_pos h, if_pos h1]
theorem ruleErr_range {r : Rl} (h : keyErr r.key = 0) (h1 : outsideB r.ask 1 4 = false) (h2 : rangeB r = true) : ruleErr r = 2 := by rw [ruleErr, if_pos h, if_neg (by rw [h1]; decide), if_pos h2]
theorem ruleErr_form {r : Rl} (h : keyErr r.key = 0) (h1 : outsideB r.ask 1 4 = false) (h2 : rangeB r = false) (h3 : r.ask = 4) (h4 : r.limit ≠ 0) : ruleErr r = 1 := by rw [ruleErr, if_pos h, if_neg (by rw [h1]; decide), if_neg (by rw [h2]; decide), if_pos ⟨h3, h4⟩]
theorem ruleErr_none {r : Rl} (h : keyErr r.key = 0) (h1 : outsideB r.ask 1 4 = false) (h2 : rangeB r = false) (h3 : ¬ (r.ask = 4 ∧ r.limit ≠ 0)) : ruleErr r = 0 := by rw [ruleErr, if_pos h, if_neg (by rw [h1]; decide), if_neg (by rw [h2]; decide), if_neg h3]
theorem outside_any (n lo hi : Int) (w : World) :
    Calls Tryz.prog 34 #[.int .i64 n, .int .i64 lo, .int .i64 hi] w fun e w' => e = .returned (.bool (outsideB n lo hi)) ∧ w = w' := by
  go_enter Tryz.func34, Tryz.ntmps34
  go_wp2
  all_goals go_ret
  all_goals (exact ⟨ret_bool (by simp [outsideB, *]), rfl⟩)
theorem isMoment_any (n : Int) (w : World) : Calls Tryz.prog 22 #[.int .i64 n] w fun e w' => e = .returned (.bool (!outsideB n 0 3155759999)) ∧ w = w' := by
  go_enter Tryz.func22, Tryz.ntmps22
  go_wp2_with (go_at_call 34; refine (outside_any _ _ _ _).mono ?_; rintro e w' ⟨rfl, rfl⟩)
  go_ret
  exact ⟨rfl, rfl⟩
set_option maxHeartbeats 400000 in
theorem checkKey_any (s : ByteArray) (w : World) (hs : s.size ≤ maxLen) :
    Calls Tryz.prog 33 #[.string s] w fun e w' => e = .returned (.int .i64 (keyErr s)) ∧ w = w' := by
  unfold maxLen at hs
  by_cases h : 200 < s.size
  · have E := hide (show keyErr s = 4 by rw [keyErr, if_pos h])
    go_enter Tryz.func33, Tryz.ntmps33
    go_wp2_with (fail)
    go_ret
    exact ⟨by rw [E.out]; rfl, rfl⟩
  · go_enter Tryz.func33, Tryz.ntmps33
    go_wp2_with (fail)
    go_loop [9] (fun i => ∃ k : Nat, k ≤ s.size ∧ i = .int .i64 k ∧ (s.data.toList.take k).all byteOk = true) (fun i => s.size - (intOf i).toNat)
    case atStart => exact ⟨0, Nat.zero_le _, rfl, rfl⟩
    case round =>
      obtain ⟨k, hk, rfl, hall⟩ := hrel
      have HALL := hide hall
      clear hall
      by_cases hlt : k < s.size
      · obtain ⟨c, hc⟩ : ∃ c, s[k] = c := ⟨_, rfl⟩
        by_cases h1 : c.toNat < 32
        · have E := hide (show keyErr s = 9 by rw [keyErr, if_neg h, all_take_false s byteOk k hlt (by rw [hc]; simp [byteOk]; omega)]; rfl)
          have h1' : ((s[k].toNat : Int)) < 32 := by rw [hc]; omega
          clear hc
          go_wp2_with (fail)
          go_ret
          exact ⟨by rw [E.out]; rfl, rfl⟩
        · by_cases h2 : 126 < c.toNat
          · have E := hide (show keyErr s = 9 by rw [keyErr, if_neg h, all_take_false s byteOk k hlt (by rw [hc]; simp [byteOk]; omega)]; rfl)
            have h1' : (32 : Int) ≤ (s[k].toNat : Int) := by rw [hc]; omega
            have h2' : (126 : Int) < (s[k].toNat : Int) := by rw [hc]; omega
            clear hc
            go_wp2_with (fail)
            go_ret
            exact ⟨by rw [E.out]; rfl, rfl⟩
          · have E := hide (show byteOk s[k] = true by rw [hc]; simp [byteOk]; omega)
            have h1' : (32 : Int) ≤ (s[k].toNat : Int) := by rw [hc]; omega
            have h2' : (s[k].toNat : Int) ≤ 126 := by rw [hc]; omega
            clear hc
            go_wp2_with (fail)
            go_round
            case rel => exact ⟨k + 1, by omega, by go_num, by rw [all_take_snoc s byteOk k hlt, HALL.out, E.out]; rfl⟩
            case measure => simp [intOf]; omega
      · have E := hide (show keyErr s = 0 by rw [keyErr, if_neg h, ← take_all s k hlt, HALL.out]; rfl)
        go_wp2_with (fail)
        go_ret
        exact ⟨by rw [E.out]; rfl, rfl⟩
set_option maxRecDepth 100000 in
set_option maxHeartbeats 4000000 in
theorem checkRule_any (r : Rl) (w : World) (hk : r.key.size ≤ maxLen) :
    Calls Tryz.prog 49 #[.agg r.cs.toArray] w fun e w' => e = .returned (.int .i64 (ruleErr r)) ∧ Below w.heap.size w w' := by
  have CW := hide (fun W => checkKey_any r.key W hk)
  have CA := hide (fun W => outside_any r.ask 1 4 W)
  have C0 := hide (fun W => outside_any r.limit 0 1000000000 W)
  have C1 := hide (fun W => outside_any r.window 1 604800 W)
  have C2 := hide (fun W => outside_any r.hold 0 604800 W)
  have C3 := hide (fun W => outside_any r.rest 0 604800 W)
  unfold Rl.cs
  by_cases hke : keyErr r.key = 0
  · rw [hke] at CW
    cases ha : outsideB r.ask 1 4
    · rw [ha] at CA
      cases h0 : outsideB r.limit 0 1000000000
      · rw [h0] at C0
        cases h1 : outsideB r.window 1 604800
        · rw [h1] at C1
          cases h2 : outsideB r.hold 0 604800
          · rw [h2] at C2
            cases h3 : outsideB r.rest 0 604800
            · rw [h3] at C3
              have hr : rangeB r = false := by rw [rangeB, h0, h1, h2, h3]; rfl
              by_cases h4 : r.ask = 4
              · rw [h4] at CA
                by_cases h5 : r.limit = 0
                · have h5b : (r.limit == 0) = true := by simp [h5]
                  rw [h5] at C0
                  have E := hide (ruleErr_none hke ha hr (fun h => h.2 h5))
                  clear hke ha h0 h1 h2 h3 hr
                  go_enter Tryz.func49, Tryz.ntmps49
                  go_wp2_with (first | (go_at_call 33; refine (CW.out _).mono ?_; rintro e w' ⟨rfl, rfl⟩) | (go_at_call 34; ((with_reducible refine (CA.out _).mono ?_)); rintro e w' ⟨rfl, rfl⟩) | (go_at_call 34; ((with_reducible refine (C0.out _).mono ?_)); rintro e w' ⟨rfl, rfl⟩) | (go_at_call 34; ((with_reducible refine (C1.out _).mono ?_)); rintro e w' ⟨rfl, rfl⟩) | (go_at_call 34; ((with_reducible refine (C2.out _).mono ?_)); rintro e w' ⟨rfl, rfl⟩) | (go_at_call 34; ((with_reducible refine (C3.out _).mono ?_)); rintro e w' ⟨rfl, rfl⟩))
                  go_ret
                  exact ⟨by rw [E.out]; rfl, by go_grown⟩
                · have h5b : (r.limit == 0) = false := by simpa using h5
                  have E := hide (ruleErr_form hke ha hr h4 h5)
                  clear hke ha h0 h1 h2 h3 hr
                  go_enter Tryz.func49, Tryz.ntmps49
                  go_wp2_with (first | (go_at_call 33; refine (CW.out _).mono ?_; rintro e w' ⟨rfl, rfl⟩) | (go_at_call 34; ((with_reducible refine (CA.out _).mono ?_)); rintro e w' ⟨rfl, rfl⟩) | (go_at_call 34; ((with_reducible refine (C0.out _).mono ?_)); rintro e w' ⟨rfl, rfl⟩) | (go_at_call 34; ((with_reducible refine (C1.out _).mono ?_)); rintro e w' ⟨rfl, rfl⟩) | (go_at_call 34; ((with_reducible refine (C2.out _).mono ?_)); rintro e w' ⟨rfl, rfl⟩) | (go_at_call 34; ((with_reducible refine (C3.out _).mono ?_)); rintro e w' ⟨rfl, rfl⟩))
                  go_ret
                  exact ⟨by rw [E.out]; rfl, by go_grown⟩
              · have h4b : (r.ask == 4) = false := by simpa using h4
                have E := hide (ruleErr_none hke ha hr (fun h => h4 h.1))
                clear hke ha h0 h1 h2 h3 hr
                go_enter Tryz.func49, Tryz.ntmps49
                go_wp2_with (first | (go_at_call 33; refine (CW.out _).mono ?_; rintro e w' ⟨rfl, rfl⟩) | (go_at_call 34; ((with_reducible refine (CA.out _).mono ?_)); rintro e w' ⟨rfl, rfl⟩) | (go_at_call 34; ((with_reducible refine (C0.out _).mono ?_)); rintro e w' ⟨rfl, rfl⟩) | (go_at_call 34; ((with_reducible refine (C1.out _).mono ?_)); rintro e w' ⟨rfl, rfl⟩) | (go_at_call 34; ((with_reducible refine (C2.out _).mono ?_)); rintro e w' ⟨rfl, rfl⟩) | (go_at_call 34; ((with_reducible refine (C3.out _).mono ?_)); rintro e w' ⟨rfl, rfl⟩))
                go_ret
                exact ⟨by rw [E.out]; rfl, by go_grown⟩
            · rw [h3] at C3
              have hr : rangeB r = true := by rw [rangeB, h0, h1, h2, h3]; simp
              have E := hide (ruleErr_range hke ha hr)
              clear hke ha hr h0 h1 h2 h3
              go_enter Tryz.func49, Tryz.ntmps49
              go_wp2_with (first | (go_at_call 33; refine (CW.out _).mono ?_; rintro e w' ⟨rfl, rfl⟩) | (go_at_call 34; ((with_reducible refine (CA.out _).mono ?_)); rintro e w' ⟨rfl, rfl⟩) | (go_at_call 34; ((with_reducible refine (C0.out _).mono ?_)); rintro e w' ⟨rfl, rfl⟩) | (go_at_call 34; ((with_reducible refine (C1.out _).mono ?_)); rintro e w' ⟨rfl, rfl⟩) | (go_at_call 34; ((with_reducible refine (C2.out _).mono ?_)); rintro e w' ⟨rfl, rfl⟩) | (go_at_call 34; ((with_reducible refine (C3.out _).mono ?_)); rintro e w' ⟨rfl, rfl⟩))
              go_ret
              exact ⟨by rw [E.out]; rfl, by go_grown⟩
          · rw [h2] at C2
            have hr : rangeB r = true := by rw [rangeB, h0, h1, h2]; simp
            have E := hide (ruleErr_range hke ha hr)
            clear hke ha hr h0 h1 h2
            go_enter Tryz.func49, Tryz.ntmps49
            go_wp2_with (first | (go_at_call 33; refine (CW.out _).mono ?_; rintro e w' ⟨rfl, rfl⟩) | (go_at_call 34; ((with_reducible refine (CA.out _).mono ?_)); rintro e w' ⟨rfl, rfl⟩) | (go_at_call 34; ((with_reducible refine (C0.out _).mono ?_)); rintro e w' ⟨rfl, rfl⟩) | (go_at_call 34; ((with_reducible refine (C1.out _).mono ?_)); rintro e w' ⟨rfl, rfl⟩) | (go_at_call 34; ((with_reducible refine (C2.out _).mono ?_)); rintro e w' ⟨rfl, rfl⟩))
            go_ret
            exact ⟨by rw [E.out]; rfl, by go_grown⟩
        · rw [h1] at C1
          have hr : rangeB r = true := by rw [rangeB, h0, h1]; simp
          have E := hide (ruleErr_range hke ha hr)
          clear hke ha hr h0 h1
          go_enter Tryz.func49, Tryz.ntmps49
          go_wp2_with (first | (go_at_call 33; refine (CW.out _).mono ?_; rintro e w' ⟨rfl, rfl⟩) | (go_at_call 34; ((with_reducible refine (CA.out _).mono ?_)); rintro e w' ⟨rfl, rfl⟩) | (go_at_call 34; ((with_reducible refine (C0.out _).mono ?_)); rintro e w' ⟨rfl, rfl⟩) | (go_at_call 34; ((with_reducible refine (C1.out _).mono ?_)); rintro e w' ⟨rfl, rfl⟩))
          go_ret
          exact ⟨by rw [E.out]; rfl, by go_grown⟩
      · rw [h0] at C0
        have hr : rangeB r = true := by rw [rangeB, h0]; simp
        have E := hide (ruleErr_range hke ha hr)
        clear hke ha hr h0
        go_enter Tryz.func49, Tryz.ntmps49
        go_wp2_with (first | (go_at_call 33; refine (CW.out _).mono ?_; rintro e w' ⟨rfl, rfl⟩) | (go_at_call 34; ((with_reducible refine (CA.out _).mono ?_)); rintro e w' ⟨rfl, rfl⟩) | (go_at_call 34; ((with_reducible refine (C0.out _).mono ?_)); rintro e w' ⟨rfl, rfl⟩))
        go_ret
        exact ⟨by rw [E.out]; rfl, by go_grown⟩
    · rw [ha] at CA
      have E := hide (ruleErr_ask hke ha)
      clear hke ha
      go_enter Tryz.func49, Tryz.ntmps49
      go_wp2_with (first | (go_at_call 33; refine (CW.out _).mono ?_; rintro e w' ⟨rfl, rfl⟩) | (go_at_call 34; ((with_reducible refine (CA.out _).mono ?_)); rintro e w' ⟨rfl, rfl⟩))
      go_ret
      exact ⟨by rw [E.out]; rfl, by go_grown⟩
  · have hne : (keyErr r.key == 0) = false := by simpa using hke
    have E := hide (ruleErr_key hke)
    skip
    go_enter Tryz.func49, Tryz.ntmps49
    go_wp2_with (first | (go_at_call 33; refine (CW.out _).mono ?_; rintro e w' ⟨rfl, rfl⟩) | (go_at_call 34; ((with_reducible refine (CA.out _).mono ?_)); rintro e w' ⟨rfl, rfl⟩))
    go_ret
    exact ⟨by rw [E.out]; rfl, by go_grown⟩
end Go.Proofs.YtkkhjlomicokgaaGreatDoor.al
/- Walk of AlertRulesError (printed by gen_a2.py). -/
namespace Go.Proofs.YtkkhjlomicokgaaGreatDoor.al
open Go.RowKit
set_option linter.unusedVariables false
set_option linter.unusedSimpArgs false
/-- '==' of two strings, as the walk has it. -/
def beqS (a b : ByteArray) : Bool := a.data.toList == b.data.toList
theorem beqS_toList (a b : ByteArray) : (a.toList == b.toList) = beqS a b := by rw [ByteArray.toList_eq, ByteArray.toList_eq]; rfl
def rlKeys (l : List Rl) : List (List UInt8) := l.map fun x => x.name.data.toList
/-- The error at place k of rules. -/
def rlErrAt (l : List Rl) (k : Nat) : Int :=
  match l[k]? with
  | none => 0
  | some x => if nameB x.name then (if (rlKeys (l.take k)).contains x.name.data.toList then 6 else ruleErr x) else 3
def rlErr (l : List Rl) : Int := if 50 < l.length then 4 else firstErr (rlErrAt l) l.length
def anyName (l : List Rl) (k : ByteArray) : Bool := l.any fun x => beqS x.name k
theorem anyName_keys (l : List Rl) (k : ByteArray) : anyName l k = (rlKeys l).contains k.data.toList := by
  unfold anyName rlKeys beqS
  induction l with
  | nil => rfl
  | cons x l ih => simp only [List.any_cons, List.map_cons, List.contains_cons, ih]; congr 1; rw [Bool.eq_iff_iff]; simp; exact ⟨Eq.symm, Eq.symm⟩
theorem anyName_snoc (l : List Rl) (x : Rl) (k : ByteArray) : anyName (l ++ [x]) k = (anyName l k || beqS x.name k) := by simp [anyName]
theorem rlErrAt_name {l : List Rl} {k : Nat} {x : Rl} (hx : l[k]? = some x) (h : nameB x.name = false) : rlErrAt l k = 3 := by
  rw [rlErrAt, hx]; simp only [h]; rfl
theorem rlErrAt_twice {l : List Rl} {k : Nat} {x : Rl} (hx : l[k]? = some x) (h : nameB x.name = true) (h2 : anyName (l.take k) x.name = true) : rlErrAt l k = 6 := by
  rw [anyName_keys] at h2; rw [rlErrAt, hx]; simp only [h, h2]; rfl
theorem rlErrAt_rule {l : List Rl} {k : Nat} {x : Rl} {e : Int} (hx : l[k]? = some x) (h : nameB x.name = true) (h2 : anyName (l.take k) x.name = false) (h3 : ruleErr x = e) : rlErrAt l k = e := by
  rw [anyName_keys] at h2; rw [rlErrAt, hx]; simp only [h, h2, h3]; rfl
theorem rlErr_hit {l : List Rl} {k : Nat} (h : ¬ 50 < l.length) (h0 : ∀ j, j < k → rlErrAt l j = 0) (hk : k < l.length) {v : Int} (hv : rlErrAt l k = v) (hne : v ≠ 0) : rlErr l = v := by
  rw [rlErr, if_neg h, firstErr_hit h0 hk (by rw [hv]; exact hne), hv]
theorem rlErr_none {l : List Rl} (h : ¬ 50 < l.length) (h0 : ∀ j, j < l.length → rlErrAt l j = 0) : rlErr l = 0 := by
  rw [rlErr, if_neg h, firstErr_zero h0]
/-- Names and keys that are not too long to be held at all. -/
def RlFit (l : List Rl) : Prop := ∀ x ∈ l, x.name.size ≤ maxLen ∧ x.key.size ≤ maxLen
end Go.Proofs.YtkkhjlomicokgaaGreatDoor.al
/- Walk of CheckRules (printed by gen_a2.py). -/
namespace Go.Proofs.YtkkhjlomicokgaaGreatDoor.al
open Go.RowKit Go.Maps
set_option linter.unusedVariables false
theorem law_str : Keyed Tryz.prog 9 := string_keyed Tryz.underlying9
theorem zero_bool (w : World) : (zeroValue 4).run Tryz.prog w = .ok (.bool false) w := by kernel_rfl
/-- The first k names lie in the map at block B. -/
def HasNames (w : World) (B : Nat) (l : List Rl) (k : Nat) : Prop := w.ownsMap (H := Unit) Tryz.prog 9 (plainElem Tryz.prog 4) B k (seenD (rlKeys (l.take k)))
theorem rlKeys_snoc {l : List Rl} {k : Nat} {x : Rl} (hx : l[k]? = some x) : rlKeys (l.take (k + 1)) = rlKeys (l.take k) ++ [x.name.data.toList] := by
  rw [take_succ_get hx]; simp [rlKeys]
theorem key_of (s : ByteArray) (h : s.size ≤ maxLen) : keyOf Tryz.prog 9 (.string s) = some (.string s.data.toList) := Go.WideMaps.keyOf_string_mk Tryz.underlying9 h
theorem grown_of_below {w w' : World} (h : Below w.heap.size w w') : w.grownBy w' none := ⟨h.os, h.tape, h.output, h.size, fun k hk _ => h.block k hk⟩
set_option maxRecDepth 100000 in
set_option maxHeartbeats 8000000 in
theorem CheckRules_any (A : Option Addr) (n cap : Nat) (l : List Rl) (w : World) (hn : n ≤ maxLen) (hl : Sl w w.heap.size Rl.cs 7 A n l) (hf : RlFit l) :
    Calls Tryz.prog 21 #[.slice A n cap] w fun e w' => e = .returned (.int .i64 (rlErr l)) ∧ Below w.heap.size w w' := by
  have hn' := hn
  unfold maxLen at hn
  have HL := hide hl.len
  have HSL := hide hl
  clear hl
  by_cases h : 50 < n
  · have E := hide (show rlErr l = 4 by rw [rlErr, if_pos (by rw [HL.out]; exact h)])
    go_enter Tryz.func21, Tryz.ntmps21
    go_wp2_with (fail)
    go_ret
    exact ⟨by rw [E.out]; rfl, Below.refl _ _⟩
  · have h50 : ¬ 50 < l.length := by rw [HL.out]; exact h
    have H50 := hide h50
    clear h50
    have hmm := @run_makeMap Tryz.prog
    go_enter Tryz.func21, Tryz.ntmps21
    go_wp2_with (fail)
    clear hmm
    go_loopw [13] (fun i wr => ∃ k : Nat, k ≤ n ∧ i = .int .i64 k ∧ (∀ j, j < k → rlErrAt l j = 0) ∧ HasNames wr w.heap.size l k ∧ Below w.heap.size w wr) (fun i _ => n - (intOf i).toNat)
    case atStart => exact ⟨0, Nat.zero_le _, rfl, fun j hj => absurd hj (by omega), World.ownsMap_made _ _ _ _, (Below.refl _ _).alloc (Nat.le_refl _) _⟩
    case round =>
      obtain ⟨k, hk, rfl, hno, hM, hB⟩ := hrel
      have HNO := hide hno
      clear hno
      by_cases hlt : k < n
      · obtain ⟨bb, oo, x, rfl, hbb, hx, hc⟩ := (HSL.out.below hB).at_ hlt
        have hz := hB.size
        have hkf := hf x (List.mem_of_getElem? hx)
        have hkl : k < l.length := by rw [HL.out]; exact hlt
        have c0 : wr.cell? ⟨bb, oo + k * 7, none⟩ = some (.string x.name) := by simpa using hc 0 _ rfl
        have c1 : wr.cell? ⟨bb, oo + k * 7 + 1, none⟩ = some (.string x.key) := by simpa using hc 1 _ rfl
        have c2 : wr.cell? ⟨bb, oo + k * 7 + 2, none⟩ = some (.int .i64 x.ask) := by simpa using hc 2 _ rfl
        have c3 : wr.cell? ⟨bb, oo + k * 7 + 3, none⟩ = some (.int .i64 x.limit) := by simpa using hc 3 _ rfl
        have c4 : wr.cell? ⟨bb, oo + k * 7 + 4, none⟩ = some (.int .i64 x.window) := by simpa using hc 4 _ rfl
        have c5 : wr.cell? ⟨bb, oo + k * 7 + 5, none⟩ = some (.int .i64 x.hold) := by simpa using hc 5 _ rfl
        have c6 : wr.cell? ⟨bb, oo + k * 7 + 6, none⟩ = some (.int .i64 x.rest) := by simpa using hc 6 _ rfl
        have HX := hide hx
        have HBX := hide (heap_alloc_new wr (.cells #[.string x.name, .string x.key, .int .i64 x.ask, .int .i64 x.limit, .int .i64 x.window, .int .i64 x.hold, .int .i64 x.rest] 34))
        have HM := hide hM
        have HKF := hide hkf.1
        have hbm : w.heap.size < wr.heap.size := World.ownsMap.lt hM
        have CN := hide (fun W => evName_any x.name W hkf.1)
        have CR := hide (show ∀ W, Calls Tryz.prog 49 #[.agg #[.string x.name, .string x.key, .int .i64 x.ask, .int .i64 x.limit, .int .i64 x.window, .int .i64 x.hold, .int .i64 x.rest]] W fun e w' => e = .returned (.int .i64 (ruleErr x)) ∧ Below W.heap.size W w' from fun W => checkRule_any x W hkf.2)
        clear hc hx hM hkf
        cases hnm : nameB x.name
        · rw [hnm] at CN
          have E := hide (rlErr_hit H50.out HNO.out hkl (rlErrAt_name HX.out hnm) (by decide))
          clear hnm
          go_wp2_with (first | (go_at_call 45; refine (CN.out _).mono ?_; rintro r w1 ⟨rfl, hw1⟩; have hB1 : Below w.heap.size w w1 := hB.trans (((Below.refl _ _).alloc hz _).trans (hw1.mono (by simp; omega))); have HX1 := hide (block_below HBX.out hw1); have HM1 := hide ((HM.out.alloc (.cells #[.string x.name, .string x.key, .int .i64 x.ask, .int .i64 x.limit, .int .i64 x.window, .int .i64 x.hold, .int .i64 x.rest] 34)).kept (grown_of_below hw1) (by simp)); have hz1 := hB1.size; have y0 : w1.cell? ⟨wr.heap.size, 0, none⟩ = some (.string x.name) := (block_cell HX1.out 0).trans rfl; have y1 : w1.cell? ⟨wr.heap.size, 1, none⟩ = some (.string x.key) := (block_cell HX1.out 1).trans rfl; have y2 : w1.cell? ⟨wr.heap.size, 2, none⟩ = some (.int .i64 x.ask) := (block_cell HX1.out 2).trans rfl; have y3 : w1.cell? ⟨wr.heap.size, 3, none⟩ = some (.int .i64 x.limit) := (block_cell HX1.out 3).trans rfl; have y4 : w1.cell? ⟨wr.heap.size, 4, none⟩ = some (.int .i64 x.window) := (block_cell HX1.out 4).trans rfl; have y5 : w1.cell? ⟨wr.heap.size, 5, none⟩ = some (.int .i64 x.hold) := (block_cell HX1.out 5).trans rfl; have y6 : w1.cell? ⟨wr.heap.size, 6, none⟩ = some (.int .i64 x.rest) := (block_cell HX1.out 6).trans rfl; clear hw1))
          go_ret
          exact ⟨by rw [E.out]; rfl, hB1⟩
        rw [hnm] at CN
        cases hany : anyName (l.take k) x.name
        · have HC := hide (show (rlKeys (l.take k)).contains x.name.data.toList = false by rw [← anyName_keys]; exact hany)
          by_cases hre : ruleErr x = 0
          · rw [hre] at CR
            have HK := hide (rlErrAt_rule HX.out hnm hany hre)
            clear hnm hany hre
            go_wp2_with (first | (go_at_call 45; refine (CN.out _).mono ?_; rintro r w1 ⟨rfl, hw1⟩; have hB1 : Below w.heap.size w w1 := hB.trans (((Below.refl _ _).alloc hz _).trans (hw1.mono (by simp; omega))); have HX1 := hide (block_below HBX.out hw1); have HM1 := hide ((HM.out.alloc (.cells #[.string x.name, .string x.key, .int .i64 x.ask, .int .i64 x.limit, .int .i64 x.window, .int .i64 x.hold, .int .i64 x.rest] 34)).kept (grown_of_below hw1) (by simp)); have hz1 := hB1.size; have y0 : w1.cell? ⟨wr.heap.size, 0, none⟩ = some (.string x.name) := (block_cell HX1.out 0).trans rfl; have y1 : w1.cell? ⟨wr.heap.size, 1, none⟩ = some (.string x.key) := (block_cell HX1.out 1).trans rfl; have y2 : w1.cell? ⟨wr.heap.size, 2, none⟩ = some (.int .i64 x.ask) := (block_cell HX1.out 2).trans rfl; have y3 : w1.cell? ⟨wr.heap.size, 3, none⟩ = some (.int .i64 x.limit) := (block_cell HX1.out 3).trans rfl; have y4 : w1.cell? ⟨wr.heap.size, 4, none⟩ = some (.int .i64 x.window) := (block_cell HX1.out 4).trans rfl; have y5 : w1.cell? ⟨wr.heap.size, 5, none⟩ = some (.int .i64 x.hold) := (block_cell HX1.out 5).trans rfl; have y6 : w1.cell? ⟨wr.heap.size, 6, none⟩ = some (.int .i64 x.rest) := (block_cell HX1.out 6).trans rfl; clear hw1) | (at_lookup; refine wpList_lookup_seen _ rfl _ _ 124 rfl 9 4 law_str Tryz.underlying124 Tryz.underlying4 (zero_bool _) w.heap.size k _ rfl HM1.out x.name rfl (key_of _ HKF.out) ?_; rw [HC.out]) | (at_mapUpdate; refine wpList_mapUpdate_own _ rfl _ _ _ 124 rfl 9 4 law_str Tryz.underlying124 _ w.heap.size k _ rfl HM1.out (by unfold maxLen; omega) _ _ _ rfl rfl (key_of _ HKF.out) _ [] (plainElem_bool Tryz.underlying4 true) ?_; intro w2 hown2 hg2; have HM2 := hide hown2; have hB2 : Below w.heap.size w w2 := hB1.grown hg2 hz1 (fun j hj => by cases hj; exact Nat.le_refl _); have HX2 := (hg2.block wr.heap.size (lt_of_block HX1.out) (by simp; omega)).trans HX1.out; have hz2 := hB2.size; have y0 : w2.cell? ⟨wr.heap.size, 0, none⟩ = some (.string x.name) := (block_cell HX2 0).trans rfl; have y1 : w2.cell? ⟨wr.heap.size, 1, none⟩ = some (.string x.key) := (block_cell HX2 1).trans rfl; have y2 : w2.cell? ⟨wr.heap.size, 2, none⟩ = some (.int .i64 x.ask) := (block_cell HX2 2).trans rfl; have y3 : w2.cell? ⟨wr.heap.size, 3, none⟩ = some (.int .i64 x.limit) := (block_cell HX2 3).trans rfl; have y4 : w2.cell? ⟨wr.heap.size, 4, none⟩ = some (.int .i64 x.window) := (block_cell HX2 4).trans rfl; have y5 : w2.cell? ⟨wr.heap.size, 5, none⟩ = some (.int .i64 x.hold) := (block_cell HX2 5).trans rfl; have y6 : w2.cell? ⟨wr.heap.size, 6, none⟩ = some (.int .i64 x.rest) := (block_cell HX2 6).trans rfl; clear hg2 hown2 HX2) | (go_at_call 49; refine (CR.out _).mono ?_; rintro r w3 ⟨rfl, hw3⟩; have hB3 : Below w.heap.size w w3 := hB2.trans (hw3.mono hz2); have HM3 := hide (HM2.out.kept (grown_of_below hw3) (by simp)); clear hw3))
            go_roundw
            case rel => exact ⟨k + 1, by omega, by go_num, fun j hj => by (by_cases e : j < k); exact HNO.out j e; (obtain rfl : j = k := by omega); exact HK.out, by rw [HasNames, rlKeys_snoc HX.out, seenD_snoc]; exact HM3.out, hB3⟩
            case measure => simp [intOf]; omega
          · have hne : (ruleErr x == 0) = false := by simpa using hre
            have E := hide (rlErr_hit H50.out HNO.out hkl (rlErrAt_rule HX.out hnm hany rfl) hre)
            clear hnm hany
            go_wp2_with (first | (go_at_call 45; refine (CN.out _).mono ?_; rintro r w1 ⟨rfl, hw1⟩; have hB1 : Below w.heap.size w w1 := hB.trans (((Below.refl _ _).alloc hz _).trans (hw1.mono (by simp; omega))); have HX1 := hide (block_below HBX.out hw1); have HM1 := hide ((HM.out.alloc (.cells #[.string x.name, .string x.key, .int .i64 x.ask, .int .i64 x.limit, .int .i64 x.window, .int .i64 x.hold, .int .i64 x.rest] 34)).kept (grown_of_below hw1) (by simp)); have hz1 := hB1.size; have y0 : w1.cell? ⟨wr.heap.size, 0, none⟩ = some (.string x.name) := (block_cell HX1.out 0).trans rfl; have y1 : w1.cell? ⟨wr.heap.size, 1, none⟩ = some (.string x.key) := (block_cell HX1.out 1).trans rfl; have y2 : w1.cell? ⟨wr.heap.size, 2, none⟩ = some (.int .i64 x.ask) := (block_cell HX1.out 2).trans rfl; have y3 : w1.cell? ⟨wr.heap.size, 3, none⟩ = some (.int .i64 x.limit) := (block_cell HX1.out 3).trans rfl; have y4 : w1.cell? ⟨wr.heap.size, 4, none⟩ = some (.int .i64 x.window) := (block_cell HX1.out 4).trans rfl; have y5 : w1.cell? ⟨wr.heap.size, 5, none⟩ = some (.int .i64 x.hold) := (block_cell HX1.out 5).trans rfl; have y6 : w1.cell? ⟨wr.heap.size, 6, none⟩ = some (.int .i64 x.rest) := (block_cell HX1.out 6).trans rfl; clear hw1) | (at_lookup; refine wpList_lookup_seen _ rfl _ _ 124 rfl 9 4 law_str Tryz.underlying124 Tryz.underlying4 (zero_bool _) w.heap.size k _ rfl HM1.out x.name rfl (key_of _ HKF.out) ?_; rw [HC.out]) | (at_mapUpdate; refine wpList_mapUpdate_own _ rfl _ _ _ 124 rfl 9 4 law_str Tryz.underlying124 _ w.heap.size k _ rfl HM1.out (by unfold maxLen; omega) _ _ _ rfl rfl (key_of _ HKF.out) _ [] (plainElem_bool Tryz.underlying4 true) ?_; intro w2 hown2 hg2; have HM2 := hide hown2; have hB2 : Below w.heap.size w w2 := hB1.grown hg2 hz1 (fun j hj => by cases hj; exact Nat.le_refl _); have HX2 := (hg2.block wr.heap.size (lt_of_block HX1.out) (by simp; omega)).trans HX1.out; have hz2 := hB2.size; have y0 : w2.cell? ⟨wr.heap.size, 0, none⟩ = some (.string x.name) := (block_cell HX2 0).trans rfl; have y1 : w2.cell? ⟨wr.heap.size, 1, none⟩ = some (.string x.key) := (block_cell HX2 1).trans rfl; have y2 : w2.cell? ⟨wr.heap.size, 2, none⟩ = some (.int .i64 x.ask) := (block_cell HX2 2).trans rfl; have y3 : w2.cell? ⟨wr.heap.size, 3, none⟩ = some (.int .i64 x.limit) := (block_cell HX2 3).trans rfl; have y4 : w2.cell? ⟨wr.heap.size, 4, none⟩ = some (.int .i64 x.window) := (block_cell HX2 4).trans rfl; have y5 : w2.cell? ⟨wr.heap.size, 5, none⟩ = some (.int .i64 x.hold) := (block_cell HX2 5).trans rfl; have y6 : w2.cell? ⟨wr.heap.size, 6, none⟩ = some (.int .i64 x.rest) := (block_cell HX2 6).trans rfl; clear hg2 hown2 HX2) | (go_at_call 49; refine (CR.out _).mono ?_; rintro r w3 ⟨rfl, hw3⟩; have hB3 : Below w.heap.size w w3 := hB2.trans (hw3.mono hz2); have HM3 := hide (HM2.out.kept (grown_of_below hw3) (by simp)); clear hw3))
            go_ret
            exact ⟨by rw [E.out]; rfl, hB3⟩
        · have HC := hide (show (rlKeys (l.take k)).contains x.name.data.toList = true by rw [← anyName_keys]; exact hany)
          have E := hide (rlErr_hit H50.out HNO.out hkl (rlErrAt_twice HX.out hnm hany) (by decide))
          clear hnm hany
          go_wp2_with (first | (go_at_call 45; refine (CN.out _).mono ?_; rintro r w1 ⟨rfl, hw1⟩; have hB1 : Below w.heap.size w w1 := hB.trans (((Below.refl _ _).alloc hz _).trans (hw1.mono (by simp; omega))); have HX1 := hide (block_below HBX.out hw1); have HM1 := hide ((HM.out.alloc (.cells #[.string x.name, .string x.key, .int .i64 x.ask, .int .i64 x.limit, .int .i64 x.window, .int .i64 x.hold, .int .i64 x.rest] 34)).kept (grown_of_below hw1) (by simp)); have hz1 := hB1.size; have y0 : w1.cell? ⟨wr.heap.size, 0, none⟩ = some (.string x.name) := (block_cell HX1.out 0).trans rfl; have y1 : w1.cell? ⟨wr.heap.size, 1, none⟩ = some (.string x.key) := (block_cell HX1.out 1).trans rfl; have y2 : w1.cell? ⟨wr.heap.size, 2, none⟩ = some (.int .i64 x.ask) := (block_cell HX1.out 2).trans rfl; have y3 : w1.cell? ⟨wr.heap.size, 3, none⟩ = some (.int .i64 x.limit) := (block_cell HX1.out 3).trans rfl; have y4 : w1.cell? ⟨wr.heap.size, 4, none⟩ = some (.int .i64 x.window) := (block_cell HX1.out 4).trans rfl; have y5 : w1.cell? ⟨wr.heap.size, 5, none⟩ = some (.int .i64 x.hold) := (block_cell HX1.out 5).trans rfl; have y6 : w1.cell? ⟨wr.heap.size, 6, none⟩ = some (.int .i64 x.rest) := (block_cell HX1.out 6).trans rfl; clear hw1) | (at_lookup; refine wpList_lookup_seen _ rfl _ _ 124 rfl 9 4 law_str Tryz.underlying124 Tryz.underlying4 (zero_bool _) w.heap.size k _ rfl HM1.out x.name rfl (key_of _ HKF.out) ?_; rw [HC.out]))
          go_ret
          exact ⟨by rw [E.out]; rfl, hB1⟩
      · have E := hide (show rlErr l = 0 from rlErr_none H50.out fun j hj => HNO.out j (by have := HL.out; omega))
        go_wp2_with (fail)
        go_ret
        exact ⟨by rw [E.out]; rfl, hB⟩
end Go.Proofs.YtkkhjlomicokgaaGreatDoor.al
/- Counts; walks of the sums of both watches (printed by gen_a3.py). -/
namespace Go.Proofs.YtkkhjlomicokgaaGreatDoor.al
open Go.RowKit
set_option linter.unusedVariables false
set_option linter.unusedSimpArgs false
structure Ct where
  key : ByteArray
  at_ : Int
  n : Int
/-- The cells of a count. -/
def Ct.cs (c : Ct) : List Value := [.string c.key, .int .i64 c.at_, .int .i64 c.n]
def hitB (key : ByteArray) (a t : Int) (c : Ct) : Bool := decide (a < c.at_) && decide (c.at_ ≤ t) && (decide (key.size = 0) || beqS c.key key)
def sumC (key : ByteArray) (a t : Int) (l : List Ct) : Int := (l.map fun c => if hitB key a t c then c.n else 0).sum
theorem sumC_snoc (key : ByteArray) (a t : Int) (l : List Ct) (c : Ct) : sumC key a t (l ++ [c]) = sumC key a t l + (if hitB key a t c then c.n else 0) := by simp [sumC]
/-- Counts that are as they may be, and not too many. -/
def CtFit (l : List Ct) : Prop := l.length ≤ 1000 ∧ ∀ c ∈ l, 0 ≤ c.n ∧ c.n ≤ 1000000 ∧ c.key.size ≤ maxLen
theorem sumC_le (key : ByteArray) (a t : Int) : ∀ l : List Ct, (∀ c ∈ l, 0 ≤ c.n ∧ c.n ≤ 1000000 ∧ c.key.size ≤ maxLen) → 0 ≤ sumC key a t l ∧ sumC key a t l ≤ 1000000 * l.length
  | [], _ => by simp [sumC]
  | c :: l, h => by
    have ih := sumC_le key a t l (fun x hx => h x (by simp [hx]))
    have h0 := h c (by simp)
    have e : sumC key a t (c :: l) = (if hitB key a t c then c.n else 0) + sumC key a t l := by simp [sumC]
    rw [e, List.length_cons]
    split <;> constructor <;> omega
theorem str_ne {s t : ByteArray} (h : s ≠ t) : (s.toList == t.toList) = false ∧ ¬ s.toList = t.toList := by
  have h1 : ¬ s.toList = t.toList := by
    rw [ByteArray.toList_eq, ByteArray.toList_eq]
    intro e
    apply h
    obtain ⟨⟨l⟩⟩ := s
    obtain ⟨⟨m⟩⟩ := t
    simp at e
    rw [e]
  exact ⟨by simpa using h1, h1⟩
theorem beqS_ne {s t : ByteArray} (h : s ≠ t) : beqS s t = false := by rw [← beqS_toList]; exact (str_ne h).1
theorem beqS_self (s : ByteArray) : beqS s s = true := by simp [beqS]
theorem s_empty {s : ByteArray} (h : s.size = 0) : s = ⟨#[]⟩ := by
  obtain ⟨⟨l⟩⟩ := s
  have : l.length = 0 := h
  rw [List.length_eq_zero_iff.1 this]
theorem s_full {s : ByteArray} (h : s.size ≠ 0) : s.toList.isEmpty = false ∧ ¬ s.toList = [] ∧ (s.toList == []) = false := by
  have h1 : ¬ s.toList = [] := by
    rw [ByteArray.toList_eq]
    intro e
    have : s.data.toList.length = s.size := by simp
    rw [e] at this
    exact h (by simpa using this.symm)
  exact ⟨by simpa [List.isEmpty_iff] using h1, h1, by simpa using h1⟩
set_option maxRecDepth 100000 in
set_option maxHeartbeats 4000000 in
theorem nSum_any (pw : Nat) (key : ByteArray) (a t : Int) (A : Option Addr) (n cap : Nat) (l : List Ct) (w : World) (hc0 : w.cell? ⟨pw, 1, none⟩ = some (.slice A n cap)) (hl : Sl w w.heap.size Ct.cs 3 A n l) (hf : CtFit l) :
    Calls Tryz.prog 65 #[.pointer (some ⟨pw, 0, none⟩), .string key, .int .i64 a, .int .i64 t] w fun e w' => e = .returned (.int .i64 (sumC key a t l)) ∧ Below w.heap.size w w' := by
  obtain ⟨hf1, hf2⟩ := hf
  have HL := hide hl.len
  have HSL := hide hl
  have hn := hl.len
  have hpw := World.block_lt_of_cell? w _ hc0
  simp only at hpw
  clear hl
  rw [hn] at hf1
  have HN := hide hn
  clear hn
  go_enter Tryz.func65, Tryz.ntmps65
  go_wp2_with (fail)
  go_loopw [9, 17] (fun v i wr => ∃ j : Nat, j ≤ n ∧ i = .int .i64 j ∧ v = .int .i64 (sumC key a t (l.take j)) ∧ Below w.heap.size w wr) (fun _ i _ => n - (intOf i).toNat)
  case atStart => exact ⟨0, Nat.zero_le _, rfl, rfl, Below.refl _ _⟩
  case round =>
    obtain ⟨j, hj, rfl, rfl, hB⟩ := hrel
    have hz := hB.size
    by_cases hlt : j < n
    · obtain ⟨bb, oo, x, rfl, hbb, hx, hc⟩ := (HSL.out.below hB).at_ hlt
      obtain ⟨ck, cat, cn⟩ := x
      have c0 : wr.cell? ⟨bb, oo + j * 3, none⟩ = some (.string ck) := by simpa using hc 0 _ rfl
      have c1 : wr.cell? ⟨bb, oo + j * 3 + 1, none⟩ = some (.int .i64 cat) := hc 1 _ rfl
      have c2 : wr.cell? ⟨bb, oo + j * 3 + 2, none⟩ = some (.int .i64 cn) := hc 2 _ rfl
      have HX := hide hx
      have HF2 := hide hf2
      have hcn := hf2 _ (List.mem_of_getElem? hx)
      have hcn0 : 0 ≤ cn := hcn.1
      have hcn1 : cn ≤ 1000000 := hcn.2.1
      have HBA := hide (hB.alloc hz (.cells #[.string ck, .int .i64 cat, .int .i64 cn] 106))
      clear hc hx hcn
      by_cases h1 : a < cat
      · by_cases h2 : cat ≤ t
        · by_cases h3 : key.size = 0
          · obtain rfl := s_empty h3
            have HH := hide (show hitB ⟨#[]⟩ a t ⟨ck, cat, cn⟩ = true by rw [hitB, decide_eq_true h1, decide_eq_true h2]; rfl)
            have HS := hide (show sumC ⟨#[]⟩ a t (l.take (j + 1)) = sumC ⟨#[]⟩ a t (l.take j) + cn by rw [take_succ_get HX.out, sumC_snoc, HH.out]; rfl)
            have hsb : 0 ≤ sumC ⟨#[]⟩ a t (l.take j) ∧ sumC ⟨#[]⟩ a t (l.take j) ≤ 1000000 * (l.take j).length := sumC_le _ a t (l.take j) (fun c hc => hf2 c (List.mem_of_mem_take hc))
            have hlen : (l.take j).length ≤ 1000 := by rw [List.length_take]; omega
            obtain ⟨v, hv⟩ : ∃ v, sumC ⟨#[]⟩ a t (l.take j) = v := ⟨_, rfl⟩
            rw [hv] at HS hsb ⊢
            clear hv HX HH
            go_wp2_with (fail)
            go_roundw
            case rel => exact ⟨j + 1, by omega, by go_num, by rw [HS.out], HBA.out⟩
            case measure => simp [intOf]; omega
          · obtain ⟨e1, e2, e3⟩ := s_full h3
            by_cases h4 : ck = key
            · subst h4
              have HH := hide (show hitB ck a t ⟨ck, cat, cn⟩ = true by rw [hitB, decide_eq_true h1, decide_eq_true h2]; simp [beqS_self])
              clear h3
              have HS := hide (show sumC ck a t (l.take (j + 1)) = sumC ck a t (l.take j) + cn by rw [take_succ_get HX.out, sumC_snoc, HH.out]; rfl)
              have hsb : 0 ≤ sumC ck a t (l.take j) ∧ sumC ck a t (l.take j) ≤ 1000000 * (l.take j).length := sumC_le _ a t (l.take j) (fun c hc => hf2 c (List.mem_of_mem_take hc))
              have hlen : (l.take j).length ≤ 1000 := by rw [List.length_take]; omega
              obtain ⟨v, hv⟩ : ∃ v, sumC ck a t (l.take j) = v := ⟨_, rfl⟩
              rw [hv] at HS hsb ⊢
              clear hv HX HH
              go_wp2_with (fail)
              go_roundw
              case rel => exact ⟨j + 1, by omega, by go_num, by rw [HS.out], HBA.out⟩
              case measure => simp [intOf]; omega
            · obtain ⟨e4, e5⟩ := str_ne h4
              have HH := hide (show hitB key a t ⟨ck, cat, cn⟩ = false by rw [hitB, decide_eq_true h1, decide_eq_true h2, decide_eq_false h3, beqS_ne h4]; rfl)
              clear h3 h4
              have HS := hide (show sumC key a t (l.take (j + 1)) = sumC key a t (l.take j) by rw [take_succ_get HX.out, sumC_snoc, HH.out]; simp)
              clear HX HH
              go_wp2_with (fail)
              go_roundw
              case rel => exact ⟨j + 1, by omega, by go_num, by rw [HS.out], HBA.out⟩
              case measure => simp [intOf]; omega
        · have h2' : decide (cat ≤ t) = false := by simpa using h2
          have HH := hide (show hitB key a t ⟨ck, cat, cn⟩ = false by rw [hitB, decide_eq_false h2, Bool.and_false]; rfl)
          
          have HS := hide (show sumC key a t (l.take (j + 1)) = sumC key a t (l.take j) by rw [take_succ_get HX.out, sumC_snoc, HH.out]; simp)
          clear HX HH
          go_wp2_with (fail)
          go_roundw
          case rel => exact ⟨j + 1, by omega, by go_num, by rw [HS.out], HBA.out⟩
          case measure => simp [intOf]; omega
      · have h1' : decide (a < cat) = false := by simpa using h1
        have HH := hide (show hitB key a t ⟨ck, cat, cn⟩ = false by rw [hitB, decide_eq_false h1]; rfl)
        
        have HS := hide (show sumC key a t (l.take (j + 1)) = sumC key a t (l.take j) by rw [take_succ_get HX.out, sumC_snoc, HH.out]; simp)
        clear HX HH
        go_wp2_with (fail)
        go_roundw
        case rel => exact ⟨j + 1, by omega, by go_num, by rw [HS.out], HBA.out⟩
        case measure => simp [intOf]; omega
    · obtain rfl : j = n := by omega
      have E := hide (show l.take j = l from take_len l (by rw [HN.out]; exact Nat.le_refl _))
      go_wp2_with (fail)
      go_ret
      exact ⟨by rw [E.out]; rfl, hB⟩
end Go.Proofs.YtkkhjlomicokgaaGreatDoor.al