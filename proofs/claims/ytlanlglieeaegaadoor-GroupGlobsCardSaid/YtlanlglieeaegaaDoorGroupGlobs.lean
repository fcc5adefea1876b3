/- The law GroupGlobs: a pattern without signs fits itself alone; a star at an end takes what stands there. -/
import Derived.Test.YtlanlglieeaegaaDoorGrPlain
import Derived.SizedLaws
namespace Go.Proofs.YtlanlglieeaegaaDoor.groupGlobs
open Go.RowKit
open Go.Proofs.YtlanlglieeaegaaDoor
set_option linter.unusedVariables false
def starB : ByteArray := ⟨#[42]⟩
theorem fits_of {p s : ByteArray} (h : p.size ≤ 100) (hg : gm p.data.toList s.data.toList = true) : fitsB p s = true := by
  rw [fitsB, decide_eq_true h, hg]; rfl
theorem app_list (a b : ByteArray) : (a ++ b).data.toList = a.data.toList ++ b.data.toList := by rw [ByteArray.data_append, Array.toList_append]
theorem eq_lists (a b : ByteArray) : (a.data.toList == b.data.toList) = decide (a = b) := by
  by_cases h : a = b
  · subst h; simp
  · rw [decide_eq_false h]
    refine beq_false_of_ne fun e => h ?_
    cases a; cases b
    simp only [ByteArray.mk.injEq]
    exact Array.toList_inj.1 e
theorem awake_any (w : World) : Calls Tryd.prog 9 #[] w fun e w' => e = .returned (.bool true) ∧ Below w.heap.size w w' := by
  have F := hide (show ∀ W, Calls Tryd.prog 7 #[.string ⟨#[49]⟩] W fun e w' => e = .returned (.string ⟨#[60, 110, 62]⟩) ∧ Below W.heap.size W w' from fun W => Plain_any ⟨#[49]⟩ W (by decide))
  go_enter Tryd.func9, Tryd.ntmps9
  go_wp2_with (go_at_call 7; refine (F.out _).mono ?_; rintro r w1 ⟨rfl, hw1⟩)
  go_ret
  exact ⟨rfl, hw1⟩
set_option maxRecDepth 100000 in
set_option maxHeartbeats 4000000 in
theorem walk (s : ByteArray) (hs : s.size ≤ reachBytes) (t : ByteArray) (ht : t.size ≤ reachBytes) (w : World) :
    Calls Tryd.prog 4 #[.string s, .string t] w fun e w' => e = .returned (.bool true) ∧ Below w.heap.size w w' := by
  have hr : reachBytes < 140737488355328 := reachBytes_lt
  have A := hide (fun W => awake_any W)
  by_cases h98 : 98 < s.size
  · have h1 : (98 : Int) < (s.size : Int) := by omega
    by_cases h100 : s.size ≤ 100
    · have h2 : (s.size : Int) ≤ 100 := by omega
      go_enter Tryd.func4, Tryd.ntmps4
      go_wp2_with (go_at_call 9; refine (A.out _).mono ?_; rintro r w1 ⟨rfl, hw1⟩)
      go_ret
      exact ⟨rfl, hw1⟩
    · have h2 : decide ((s.size : Int) ≤ 100) = false := by simp; omega
      have F := hide (show ∀ W, Calls Tryd.prog 5 #[.string s, .string s] W fun e w' => e = .returned (.bool false) ∧ Below W.heap.size W w' from fun W => by
        have := Fits_any s s W (by unfold maxLen; omega)
        rw [show fitsB s s = false by rw [fitsB, decide_eq_false h100]; rfl] at this
        exact this)
      go_enter Tryd.func4, Tryd.ntmps4
      go_wp2_with (first | (go_at_call 9; refine (A.out _).mono ?_; rintro r w1 ⟨rfl, hw1⟩) | (go_at_call 5; refine (F.out _).mono ?_; rintro r w2 ⟨rfl, hw2⟩; have hB2 := hw1.trans (hw2.mono hw1.size)))
      go_ret
      exact ⟨rfl, hB2⟩
  · have h1 : ¬ (98 : Int) < (s.size : Int) := by omega
    have hss : s.size + s.size ≤ maxLen := by unfold maxLen; omega
    go_enter Tryd.func4, Tryd.ntmps4
    go_wp2_with (go_at_call 9; refine (A.out _).mono ?_; rintro r w1 ⟨rfl, hw1⟩)
    go_loopw [22] (fun i wr => ∃ k : Nat, k ≤ s.size ∧ i = .int .i64 k ∧ Below w.heap.size w wr ∧ ∀ (j : Nat) c, j < k → s.data.toList[j]? = some c → c ≠ 42 ∧ c ≠ 63) (fun i _ => s.size - (intOf i).toNat)
    case atStart => exact ⟨0, Nat.zero_le _, rfl, hw1, fun j c h => by omega⟩
    case round =>
      obtain ⟨k, hk, rfl, hB, hall⟩ := hrel
      have HALL := hide hall
      clear hall
      by_cases hlt : k < s.size
      · obtain ⟨c, hc⟩ : ∃ c, s[k] = c := ⟨_, rfl⟩
        have HG := hide (show s.data.toList[k]? = some c by rw [get_at s k hlt, hc])
        have FA := hide (show ∀ W, Calls Tryd.prog 5 #[.string ⟨#[42]⟩, .string s] W fun e w' => e = .returned (.bool true) ∧ Below W.heap.size W w' from fun W => by
          have := Fits_any starB s W (by unfold maxLen; omega)
          rw [fits_of (p := starB) (by decide) (star_any _)] at this
          exact this)
        have FB := hide (show ∀ W, Calls Tryd.prog 5 #[.string s, .string s] W fun e w' => e = .returned (.bool true) ∧ Below W.heap.size W w' from fun W => by
          have := Fits_any s s W (by unfold maxLen; omega)
          rw [fits_of (p := s) (by omega) (gm_self _)] at this
          exact this)
        by_cases h42 : c = 42
        · have t1 : (s[k].toNat : Int) = 42 := by rw [hc, h42]; rfl
          clear hc
          go_wp2_with (first | (go_at_call 5; with_reducible refine (FA.out _).mono ?_; rintro r w2 ⟨rfl, hw2⟩; have hB2 := hB.trans (hw2.mono hB.size)) | (go_at_call 5; with_reducible refine (FB.out _).mono ?_; rintro r w3 ⟨rfl, hw3⟩; have hB3 := hB2.trans (hw3.mono hB2.size)))
          go_ret
          exact ⟨rfl, hB3⟩
        · have t1 : ¬ (s[k].toNat : Int) = 42 := by rw [hc]; exact u8_ne h42
          have t1b : ((s[k].toNat : Int) == 42) = false := by simpa using t1
          by_cases h63 : c = 63
          · have t2 : (s[k].toNat : Int) = 63 := by rw [hc, h63]; rfl
            clear hc t1 t1b
            go_wp2_with (first | (go_at_call 5; with_reducible refine (FA.out _).mono ?_; rintro r w2 ⟨rfl, hw2⟩; have hB2 := hB.trans (hw2.mono hB.size)) | (go_at_call 5; with_reducible refine (FB.out _).mono ?_; rintro r w3 ⟨rfl, hw3⟩; have hB3 := hB2.trans (hw3.mono hB2.size)))
            go_ret
            exact ⟨rfl, hB3⟩
          · have t2 : ¬ (s[k].toNat : Int) = 63 := by rw [hc]; exact u8_ne h63
            have t2b : ((s[k].toNat : Int) == 63) = false := by simpa using t2
            clear hc
            go_wp2_with (fail)
            go_roundw
            case rel => exact ⟨k + 1, by omega, by go_num, hB, fun j d hj hd => by (by_cases e : j = k); (subst e; rw [HG.out] at hd; cases hd; exact ⟨h42, h63⟩); exact HALL.out j d (by omega) hd⟩
            case measure => simp [intOf]; omega
      · have hno : ∀ c ∈ s.data.toList, c ≠ 42 ∧ c ≠ 63 := fun c hc => by
          obtain ⟨j, hj, rfl⟩ := List.getElem_of_mem hc
          exact HALL.out j _ (by have : s.data.toList.length = s.size := by simp
                                 omega) (List.getElem?_eq_getElem hj)
        have FA := hide (show ∀ W, Calls Tryd.prog 5 #[.string s, .string t] W fun e w' => e = .returned (.bool (decide (s = t))) ∧ Below W.heap.size W w' from fun W => by
          have := Fits_any s t W (by unfold maxLen; omega)
          rw [fitsB, decide_eq_true (show s.size ≤ 100 by omega), gm_plain _ _ hno, Bool.true_and, eq_lists] at this
          exact this)
        have FB := hide (show ∀ W, Calls Tryd.prog 5 #[.string (s ++ ⟨#[42]⟩), .string (s ++ t)] W fun e w' => e = .returned (.bool true) ∧ Below W.heap.size W w' from fun W => by
          have := Fits_any (s ++ starB) (s ++ t) W (by rw [ByteArray.size_append]; unfold maxLen; omega)
          rw [fits_of (p := s ++ starB) (by rw [ByteArray.size_append]; show _ + 1 ≤ _; omega) (by rw [app_list, app_list, gm_append]; exact ⟨_, _, rfl, gm_self _, star_any _⟩)] at this
          exact this)
        have FC := hide (show ∀ W, Calls Tryd.prog 5 #[.string ((⟨#[42]⟩ : ByteArray) ++ s), .string (t ++ s)] W fun e w' => e = .returned (.bool true) ∧ Below W.heap.size W w' from fun W => by
          have := Fits_any (starB ++ s) (t ++ s) W (by rw [ByteArray.size_append]; unfold maxLen; omega)
          rw [fits_of (p := starB ++ s) (by rw [ByteArray.size_append]; show 1 + _ ≤ _; omega) (by rw [app_list, app_list, gm_append]; exact ⟨_, _, rfl, star_any _, gm_self _⟩)] at this
          exact this)
        have FD := hide (show ∀ W, Calls Tryd.prog 5 #[.string ((⟨#[42]⟩ : ByteArray) ++ s ++ ⟨#[42]⟩), .string (t ++ s ++ t)] W fun e w' => e = .returned (.bool true) ∧ Below W.heap.size W w' from fun W => by
          have := Fits_any (starB ++ s ++ starB) (t ++ s ++ t) W (by rw [ByteArray.size_append, ByteArray.size_append]; unfold maxLen; omega)
          rw [fits_of (p := starB ++ s ++ starB) (by rw [ByteArray.size_append, ByteArray.size_append]; show 1 + _ + 1 ≤ _; omega) (by rw [app_list, app_list, app_list, app_list, gm_append]; exact ⟨_, _, rfl, (gm_append _ _ _).2 ⟨_, _, rfl, star_any _, gm_self _⟩, star_any _⟩)] at this
          exact this)
        clear hno
        by_cases he : s = t
        · subst he
          have he1 : decide (s = s) = true := decide_eq_true rfl
          rw [he1] at FA
          clear he1
          go_wp2_with (first | (go_at_call 5; with_reducible refine (FA.out _).mono ?_; rintro r w2 ⟨rfl, hw2⟩; have hB2 := hB.trans (hw2.mono hB.size)) | (go_at_call 5; with_reducible refine (FB.out _).mono ?_; rintro r w3 ⟨rfl, hw3⟩; have hB3 := hB2.trans (hw3.mono hB2.size)) | (go_at_call 5; with_reducible refine (FC.out _).mono ?_; rintro r w4 ⟨rfl, hw4⟩; have hB4 := hB3.trans (hw4.mono hB3.size)) | (go_at_call 5; with_reducible refine (FD.out _).mono ?_; rintro r w5 ⟨rfl, hw5⟩; have hB5 := hB4.trans (hw5.mono hB4.size)))
          go_ret
          exact ⟨rfl, hB5⟩
        · have he1 : decide (s = t) = false := decide_eq_false he
          rw [he1] at FA
          clear he1
          have he2 : ¬ s.toList = t.toList := fun e => he (by
            rw [ByteArray.toList_eq, ByteArray.toList_eq] at e
            have := eq_lists s t
            rw [e] at this
            simpa using this)
          have he3 : (s.toList == t.toList) = false := beq_false_of_ne he2
          go_wp2_with (first | (go_at_call 5; with_reducible refine (FA.out _).mono ?_; rintro r w2 ⟨rfl, hw2⟩; have hB2 := hB.trans (hw2.mono hB.size)) | (go_at_call 5; with_reducible refine (FB.out _).mono ?_; rintro r w3 ⟨rfl, hw3⟩; have hB3 := hB2.trans (hw3.mono hB2.size)) | (go_at_call 5; with_reducible refine (FC.out _).mono ?_; rintro r w4 ⟨rfl, hw4⟩; have hB4 := hB3.trans (hw4.mono hB3.size)) | (go_at_call 5; with_reducible refine (FD.out _).mono ?_; rintro r w5 ⟨rfl, hw5⟩; have hB5 := hB4.trans (hw5.mono hB4.size)))
          go_ret
          exact ⟨rfl, hB5⟩
end Go.Proofs.YtlanlglieeaegaaDoor.groupGlobs
