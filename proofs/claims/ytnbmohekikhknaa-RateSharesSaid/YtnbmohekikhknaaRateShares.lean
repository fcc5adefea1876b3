/- The law RateShares. -/
import Derived.Test.YtnbmohekikhknaaRateShP
import Derived.Test.YtnbmohekikhknaaRateEqu
import Derived.Test.YtnbmohekikhknaaRateOpnS
import Derived.Test.YtnbmohekikhknaaRows
namespace Go.Proofs.Ytnbmohekikhknaa
open Go.RowKit
/-- What the law asks of Stands, at a world above the first. -/
def RatesIn (l : List Int) (k : Nat) : Prop := ∀ j, j < k → ∀ r, l[j]? = some r → rateOk r = true
theorem standsM_large {l : List Int} {n : Nat} (hl : l.length = n) (h : 1000 < n) : standsM l = (0, 4) := by rw [standsM, if_pos (by omega)]
theorem standsM_bad {l : List Int} {n k : Nat} {a : Int} (hl : l.length = n) (h : ¬ 1000 < n) (ha : l[k]? = some a) (hf : rateOk a = false) : standsM l = (0, 2) := by
  rw [standsM, if_neg (by omega), all_false_of ha hf]; rfl
theorem standsM_ok {l : List Int} {n : Nat} (hl : l.length = n) (h : ¬ 1000 < n) (ha : ∀ r ∈ l, rateOk r = true) : standsM l = ((standSum l + 500000) / 1000000, 0) := by
  rw [standsM, if_neg (by omega), if_pos (by rw [List.all_eq_true]; exact ha)]
theorem rateOk_lt {a : Int} (h : rateOk a = false) (h1 : ¬ a < 1) : 1000000 < a := by
  have : ¬ (1 ≤ a ∧ a ≤ 1000000) := fun e => by rw [(rateOk_iff a).2 e] at h; cases h
  omega
theorem sharesE_len {l : List Share} {most : Int} (h : sharesE l most = 0) : l.length ≤ 200 := by
  rcases Nat.lt_or_ge 200 l.length with h2 | h2
  · rw [sharesE_of (show shErr l = 4 by rw [shErr, if_pos h2]) (by decide)] at h; cases h
  · exact h2
theorem Stands_v {A : Option Addr} {n c : Nat} {l : List Int} {v e : Int} (hst : standsM l = (v, e)) (W : World) (hl : Sl W W.heap.size ci 1 A n l) (hn : n ≤ maxLen) :
    Calls Try.prog 25 #[.slice A n c] W fun x w' => x = .returned (.tuple #[.int .i64 v, .int .i64 e]) ∧ W = w' := by
  have C := Stands_any A n c l W hl hn
  rw [hst] at C
  exact C
theorem SharesError_v {A : Option Addr} {n cap : Nat} {l : List Share} {most v : Int} (hv : sharesE l most = v) (W : World) (hn : n ≤ maxLen) (hnc : n ≤ cap) (hl : Sl W W.heap.size Share.cs 2 A n l) (hf : KeysFit l) :
    Calls Try.prog 26 #[.slice A n cap, .int .i64 most] W fun e w' => e = .returned (.int .i64 v) ∧ Below W.heap.size W w' := by
  have C := SharesError_any A n cap l most W hn hnc hl hf
  rw [hv] at C
  exact C
theorem Sl.up {α : Type} {w w' : World} {sz n : Nat} {f : α → List Value} {A : Option Addr} {l : List α} (h : Sl w w.heap.size f sz A n l) (hb : Below w.heap.size w w') : Sl w' w'.heap.size f sz A n l := (h.below hb).more hb.size
section
variable (A : Option Addr) (n cap : Nat) (l : List Share) (most : Int) (A2 : Option Addr) (n2 cap2 : Nat) (l2 : List Int) (w : World) (hn : n ≤ maxLen) (hnc : n ≤ cap) (hl : Sl w w.heap.size Share.cs 2 A n l) (hf : KeysFit l) (hn2 : n2 ≤ maxLen) (hl2 : Sl w w.heap.size ci 1 A2 n2 l2)
include hn hnc hl hf hn2 hl2
set_option maxRecDepth 100000 in
set_option maxHeartbeats 8000000 in
theorem RateShares_EL (hE : sharesE l most ≠ 0) (ht : 1000 < n2) :
    Calls Try.prog 8 #[.slice A n cap, .int .i64 most, .slice A2 n2 cap2] w fun e w' => e = .returned (.bool true) ∧ Below w.heap.size w w' := by
  have hn2x := hn2
  unfold maxLen at hn2x
  have HL2 := hide hl2.len
  have CP := hide (Shares_bad A n cap l most w hn hl hf hE)
  obtain ⟨E, hEE⟩ : ∃ E, sharesE l most = E := ⟨_, rfl⟩
  have CE := hide (fun W => SharesError_v (A := A) (n := n) (cap := cap) hEE W)
  rw [hEE] at CP hE
  have hE0 : (E == 0) = false := by simpa using hE
  have CS := hide (fun W => Stands_v (A := A2) (n := n2) (c := cap2) (standsM_large HL2.out ht) W)
  go_enter Try.func8, Try.ntmps8
  go_wp2_with (first | (go_at_call 24; (refine CP.out.mono ?_; rintro r w1 ⟨rfl, hB1⟩)) | (go_at_call 25; (refine (CS.out _ (hl2.up hB1) hn2).mono ?_; rintro e w' ⟨rfl, rfl⟩)) | (go_at_call 26; (refine (CE.out _ hn hnc (hl.up hB1) hf).mono ?_; rintro r w2 ⟨rfl, hw2⟩; have hB := hB1.trans (hw2.mono hB1.size))))
  go_ret
  exact ⟨rfl, hB⟩
set_option maxRecDepth 100000 in
set_option maxHeartbeats 8000000 in
theorem RateShares_EO (hE : sharesE l most ≠ 0) (ht : ¬ 1000 < n2) (hok : ∀ r ∈ l2, rateOk r = true) :
    Calls Try.prog 8 #[.slice A n cap, .int .i64 most, .slice A2 n2 cap2] w fun e w' => e = .returned (.bool true) ∧ Below w.heap.size w w' := by
  have hn2x := hn2
  unfold maxLen at hn2x
  have HL2 := hide hl2.len
  have CP := hide (Shares_bad A n cap l most w hn hl hf hE)
  obtain ⟨E, hEE⟩ : ∃ E, sharesE l most = E := ⟨_, rfl⟩
  have CE := hide (fun W => SharesError_v (A := A) (n := n) (cap := cap) hEE W)
  rw [hEE] at CP hE
  have hE0 : (E == 0) = false := by simpa using hE
  have CS := hide (fun W => Stands_v (A := A2) (n := n2) (c := cap2) (standsM_ok HL2.out ht hok) W)
  have HOK := hide hok
  clear hok
  go_enter Try.func8, Try.ntmps8
  go_wp2_with (first | (go_at_call 24; (refine CP.out.mono ?_; rintro r w1 ⟨rfl, hB1⟩)) | (go_at_call 25; (refine (CS.out _ (hl2.up hB1) hn2).mono ?_; rintro e w' ⟨rfl, rfl⟩)) | (go_at_call 26; (refine (CE.out _ hn hnc (hl.up hB1) hf).mono ?_; rintro r w2 ⟨rfl, hw2⟩; have hB := hB1.trans (hw2.mono hB1.size))))
  go_loopw [63] (fun i wr => ∃ k : Nat, k ≤ n2 ∧ i = .int .i64 k ∧ Below w.heap.size w wr) (fun i _ => n2 - (intOf i).toNat)
  case atStart => exact ⟨0, Nat.zero_le _, rfl, hB⟩
  case round =>
    obtain ⟨k, hk, rfl, hBr⟩ := hrel
    by_cases hlt : k < n2
    · obtain ⟨b, o, a, rfl, hb, ha, hc⟩ := (hl2.below hBr).at_ hlt
      have hc0 := hc 0 _ rfl
      simp only [Nat.mul_one, Nat.add_zero] at hc0
      have HA := hide ha
      clear hc ha
      have ⟨ha1, ha2⟩ := (rateOk_iff a).1 (HOK.out a (List.mem_of_getElem? HA.out))
      go_wp2_with (fail)
      go_roundw
      case rel => exact ⟨k + 1, by omega, by go_num, hBr⟩
      case measure => simp [intOf]; omega
    · go_wp2_with (first | (go_at_call 29; (refine (StandsFor_any A2 n2 cap2 l2 _ (hl2.up hBr) (by omega) HOK.out).mono ?_; rintro e w' ⟨rfl, rfl⟩)))
      go_ret
      exact ⟨rfl, hBr⟩
set_option maxRecDepth 100000 in
set_option maxHeartbeats 8000000 in
theorem RateShares_EB (hE : sharesE l most ≠ 0) (ht : ¬ 1000 < n2) (hbad : ¬ ∀ r ∈ l2, rateOk r = true) :
    Calls Try.prog 8 #[.slice A n cap, .int .i64 most, .slice A2 n2 cap2] w fun e w' => e = .returned (.bool true) ∧ Below w.heap.size w w' := by
  have hn2x := hn2
  unfold maxLen at hn2x
  have HL2 := hide hl2.len
  have CP := hide (Shares_bad A n cap l most w hn hl hf hE)
  obtain ⟨E, hEE⟩ : ∃ E, sharesE l most = E := ⟨_, rfl⟩
  have CE := hide (fun W => SharesError_v (A := A) (n := n) (cap := cap) hEE W)
  rw [hEE] at CP hE
  have hE0 : (E == 0) = false := by simpa using hE
  have hbad2 : standsM l2 = (0, 2) := by
    rw [standsM, if_neg (by have := HL2.out; omega), if_neg (by rw [List.all_eq_true]; exact hbad)]
  have HBAD := hide hbad
  clear hbad
  have CS := hide (fun W => Stands_v (A := A2) (n := n2) (c := cap2) (hbad2) W)
  clear hbad2
  go_enter Try.func8, Try.ntmps8
  go_wp2_with (first | (go_at_call 24; (refine CP.out.mono ?_; rintro r w1 ⟨rfl, hB1⟩)) | (go_at_call 25; (refine (CS.out _ (hl2.up hB1) hn2).mono ?_; rintro e w' ⟨rfl, rfl⟩)) | (go_at_call 26; (refine (CE.out _ hn hnc (hl.up hB1) hf).mono ?_; rintro r w2 ⟨rfl, hw2⟩; have hB := hB1.trans (hw2.mono hB1.size))))
  go_loopw [63] (fun i wr => ∃ k : Nat, k ≤ n2 ∧ i = .int .i64 k ∧ (∀ r ∈ l2.take k, rateOk r = true) ∧ Below w.heap.size w wr) (fun i _ => n2 - (intOf i).toNat)
  case atStart => exact ⟨0, Nat.zero_le _, rfl, by simp, hB⟩
  case round =>
    obtain ⟨k, hk, rfl, hall, hBr⟩ := hrel
    have HALL := hide hall
    clear hall
    by_cases hlt : k < n2
    · obtain ⟨b, o, a, rfl, hb, ha, hc⟩ := (hl2.below hBr).at_ hlt
      have hc0 := hc 0 _ rfl
      simp only [Nat.mul_one, Nat.add_zero] at hc0
      have HA := hide ha
      clear hc ha
      by_cases hok : rateOk a = true
      · have ⟨ha1, ha2⟩ := (rateOk_iff a).1 hok
        have HK := hide hok
        clear hok
        go_wp2_with (fail)
        go_roundw
        case rel => exact ⟨k + 1, by omega, by go_num, fun r hr => by (rw [take_succ_get HA.out, List.mem_append, List.mem_singleton] at hr); (rcases hr with hr | rfl); exact HALL.out r hr; exact HK.out, hBr⟩
        case measure => simp [intOf]; omega
      · have hno : rateOk a = false := by simpa using hok
        by_cases h1 : a < 1
        · go_wp2_with (fail)
          go_ret
          exact ⟨rfl, hBr⟩
        · have h2 := rateOk_lt hno h1
          go_wp2_with (fail)
          go_ret
          exact ⟨rfl, hBr⟩
    · exact absurd (by rw [← take_len l2 (k := k) (by have := HL2.out; omega)]; exact HALL.out) HBAD.out
set_option maxRecDepth 100000 in
set_option maxHeartbeats 8000000 in
theorem RateShares_GL (hE : sharesE l most = 0) (ht : 1000 < n2) :
    Calls Try.prog 8 #[.slice A n cap, .int .i64 most, .slice A2 n2 cap2] w fun e w' => e = .returned (.bool true) ∧ Below w.heap.size w w' := by
  have hn2x := hn2
  unfold maxLen at hn2x
  have HL2 := hide hl2.len
  have h200 : n ≤ 200 := by have := sharesE_len hE; have := hl.len; omega
  obtain ⟨hs0, hm, hr⟩ := sharesE_ok (by have := hl.len; omega) hE
  have hmo : 0 ≤ most ∧ most ≤ 1000000000 := by simpa [outsideB] using hm
  have HR := hide hr
  clear hr hs0 hm
  have CP := hide (Shares_walk A n cap l most w h200 hl hf hE)
  have CE := hide (fun W => SharesError_v (A := A) (n := n) (cap := cap) hE W)
  have CS := hide (fun W => Stands_v (A := A2) (n := n2) (c := cap2) (standsM_large HL2.out ht) W)
  clear hE
  go_enter Try.func8, Try.ntmps8
  go_wp2_with (first | (go_at_call 24; (refine CP.out.mono ?_; rintro r w1 ⟨A', c', rfl, hR1, hc1, hm1, hB1⟩)) | (go_at_call 25; (refine (CS.out _ (hl2.up hB1) hn2).mono ?_; rintro e w' ⟨rfl, rfl⟩)) | (go_at_call 26; (refine (CE.out _ hn hnc (hl.up hB1) hf).mono ?_; rintro r w2 ⟨rfl, hw2⟩; have hB2 := hB1.trans (hw2.mono hB1.size); have hR2 := hR1.up hw2)) | (go_at_call 28; (refine (SharesOf_walk A n cap l most _ h200 (hl.up hB2) HR.out hmo.1).mono ?_; rintro r w3 ⟨A3, c3, rfl, hR3, hc3, hm3, hw3⟩; have hB3 := hB2.trans (hw3.mono hB2.size); have hR4 := hR2.up hw3)) | (go_at_call 27; (refine (Equal_rates A' n c' A3 c3 _ _ hn hR4 hR3).mono ?_; rintro r w4 ⟨rfl, hw4⟩; have hB := hB3.trans (hw4.mono hB3.size))))
  go_ret
  exact ⟨rfl, hB⟩
set_option maxRecDepth 100000 in
set_option maxHeartbeats 8000000 in
theorem RateShares_GO (hE : sharesE l most = 0) (ht : ¬ 1000 < n2) (hok : ∀ r ∈ l2, rateOk r = true) :
    Calls Try.prog 8 #[.slice A n cap, .int .i64 most, .slice A2 n2 cap2] w fun e w' => e = .returned (.bool true) ∧ Below w.heap.size w w' := by
  have hn2x := hn2
  unfold maxLen at hn2x
  have HL2 := hide hl2.len
  have h200 : n ≤ 200 := by have := sharesE_len hE; have := hl.len; omega
  obtain ⟨hs0, hm, hr⟩ := sharesE_ok (by have := hl.len; omega) hE
  have hmo : 0 ≤ most ∧ most ≤ 1000000000 := by simpa [outsideB] using hm
  have HR := hide hr
  clear hr hs0 hm
  have CP := hide (Shares_walk A n cap l most w h200 hl hf hE)
  have CE := hide (fun W => SharesError_v (A := A) (n := n) (cap := cap) hE W)
  have CS := hide (fun W => Stands_v (A := A2) (n := n2) (c := cap2) (standsM_ok HL2.out ht hok) W)
  have HOK := hide hok
  clear hok
  clear hE
  go_enter Try.func8, Try.ntmps8
  go_wp2_with (first | (go_at_call 24; (refine CP.out.mono ?_; rintro r w1 ⟨A', c', rfl, hR1, hc1, hm1, hB1⟩)) | (go_at_call 25; (refine (CS.out _ (hl2.up hB1) hn2).mono ?_; rintro e w' ⟨rfl, rfl⟩)) | (go_at_call 26; (refine (CE.out _ hn hnc (hl.up hB1) hf).mono ?_; rintro r w2 ⟨rfl, hw2⟩; have hB2 := hB1.trans (hw2.mono hB1.size); have hR2 := hR1.up hw2)) | (go_at_call 28; (refine (SharesOf_walk A n cap l most _ h200 (hl.up hB2) HR.out hmo.1).mono ?_; rintro r w3 ⟨A3, c3, rfl, hR3, hc3, hm3, hw3⟩; have hB3 := hB2.trans (hw3.mono hB2.size); have hR4 := hR2.up hw3)) | (go_at_call 27; (refine (Equal_rates A' n c' A3 c3 _ _ hn hR4 hR3).mono ?_; rintro r w4 ⟨rfl, hw4⟩; have hB := hB3.trans (hw4.mono hB3.size))))
  go_loopw [63] (fun i wr => ∃ k : Nat, k ≤ n2 ∧ i = .int .i64 k ∧ Below w.heap.size w wr) (fun i _ => n2 - (intOf i).toNat)
  case atStart => exact ⟨0, Nat.zero_le _, rfl, hB⟩
  case round =>
    obtain ⟨k, hk, rfl, hBr⟩ := hrel
    by_cases hlt : k < n2
    · obtain ⟨b, o, a, rfl, hb, ha, hc⟩ := (hl2.below hBr).at_ hlt
      have hc0 := hc 0 _ rfl
      simp only [Nat.mul_one, Nat.add_zero] at hc0
      have HA := hide ha
      clear hc ha
      have ⟨ha1, ha2⟩ := (rateOk_iff a).1 (HOK.out a (List.mem_of_getElem? HA.out))
      go_wp2_with (fail)
      go_roundw
      case rel => exact ⟨k + 1, by omega, by go_num, hBr⟩
      case measure => simp [intOf]; omega
    · go_wp2_with (first | (go_at_call 29; (refine (StandsFor_any A2 n2 cap2 l2 _ (hl2.up hBr) (by omega) HOK.out).mono ?_; rintro e w' ⟨rfl, rfl⟩)))
      go_ret
      exact ⟨rfl, hBr⟩
set_option maxRecDepth 100000 in
set_option maxHeartbeats 8000000 in
theorem RateShares_GB (hE : sharesE l most = 0) (ht : ¬ 1000 < n2) (hbad : ¬ ∀ r ∈ l2, rateOk r = true) :
    Calls Try.prog 8 #[.slice A n cap, .int .i64 most, .slice A2 n2 cap2] w fun e w' => e = .returned (.bool true) ∧ Below w.heap.size w w' := by
  have hn2x := hn2
  unfold maxLen at hn2x
  have HL2 := hide hl2.len
  have h200 : n ≤ 200 := by have := sharesE_len hE; have := hl.len; omega
  obtain ⟨hs0, hm, hr⟩ := sharesE_ok (by have := hl.len; omega) hE
  have hmo : 0 ≤ most ∧ most ≤ 1000000000 := by simpa [outsideB] using hm
  have HR := hide hr
  clear hr hs0 hm
  have CP := hide (Shares_walk A n cap l most w h200 hl hf hE)
  have CE := hide (fun W => SharesError_v (A := A) (n := n) (cap := cap) hE W)
  have hbad2 : standsM l2 = (0, 2) := by
    rw [standsM, if_neg (by have := HL2.out; omega), if_neg (by rw [List.all_eq_true]; exact hbad)]
  have HBAD := hide hbad
  clear hbad
  have CS := hide (fun W => Stands_v (A := A2) (n := n2) (c := cap2) (hbad2) W)
  clear hbad2
  clear hE
  go_enter Try.func8, Try.ntmps8
  go_wp2_with (first | (go_at_call 24; (refine CP.out.mono ?_; rintro r w1 ⟨A', c', rfl, hR1, hc1, hm1, hB1⟩)) | (go_at_call 25; (refine (CS.out _ (hl2.up hB1) hn2).mono ?_; rintro e w' ⟨rfl, rfl⟩)) | (go_at_call 26; (refine (CE.out _ hn hnc (hl.up hB1) hf).mono ?_; rintro r w2 ⟨rfl, hw2⟩; have hB2 := hB1.trans (hw2.mono hB1.size); have hR2 := hR1.up hw2)) | (go_at_call 28; (refine (SharesOf_walk A n cap l most _ h200 (hl.up hB2) HR.out hmo.1).mono ?_; rintro r w3 ⟨A3, c3, rfl, hR3, hc3, hm3, hw3⟩; have hB3 := hB2.trans (hw3.mono hB2.size); have hR4 := hR2.up hw3)) | (go_at_call 27; (refine (Equal_rates A' n c' A3 c3 _ _ hn hR4 hR3).mono ?_; rintro r w4 ⟨rfl, hw4⟩; have hB := hB3.trans (hw4.mono hB3.size))))
  go_loopw [63] (fun i wr => ∃ k : Nat, k ≤ n2 ∧ i = .int .i64 k ∧ (∀ r ∈ l2.take k, rateOk r = true) ∧ Below w.heap.size w wr) (fun i _ => n2 - (intOf i).toNat)
  case atStart => exact ⟨0, Nat.zero_le _, rfl, by simp, hB⟩
  case round =>
    obtain ⟨k, hk, rfl, hall, hBr⟩ := hrel
    have HALL := hide hall
    clear hall
    by_cases hlt : k < n2
    · obtain ⟨b, o, a, rfl, hb, ha, hc⟩ := (hl2.below hBr).at_ hlt
      have hc0 := hc 0 _ rfl
      simp only [Nat.mul_one, Nat.add_zero] at hc0
      have HA := hide ha
      clear hc ha
      by_cases hok : rateOk a = true
      · have ⟨ha1, ha2⟩ := (rateOk_iff a).1 hok
        have HK := hide hok
        clear hok
        go_wp2_with (fail)
        go_roundw
        case rel => exact ⟨k + 1, by omega, by go_num, fun r hr => by (rw [take_succ_get HA.out, List.mem_append, List.mem_singleton] at hr); (rcases hr with hr | rfl); exact HALL.out r hr; exact HK.out, hBr⟩
        case measure => simp [intOf]; omega
      · have hno : rateOk a = false := by simpa using hok
        by_cases h1 : a < 1
        · go_wp2_with (fail)
          go_ret
          exact ⟨rfl, hBr⟩
        · have h2 := rateOk_lt hno h1
          go_wp2_with (fail)
          go_ret
          exact ⟨rfl, hBr⟩
    · exact absurd (by rw [← take_len l2 (k := k) (by have := HL2.out; omega)]; exact HALL.out) HBAD.out
theorem RateShares_all :
    Calls Try.prog 8 #[.slice A n cap, .int .i64 most, .slice A2 n2 cap2] w fun e w' => e = .returned (.bool true) ∧ Below w.heap.size w w' := by
  by_cases hE : sharesE l most = 0
  · by_cases ht : 1000 < n2
    · exact RateShares_GL A n cap l most A2 n2 cap2 l2 w hn hnc hl hf hn2 hl2 hE ht
    · by_cases ho : ∀ r ∈ l2, rateOk r = true
      · exact RateShares_GO A n cap l most A2 n2 cap2 l2 w hn hnc hl hf hn2 hl2 hE ht ho
      · exact RateShares_GB A n cap l most A2 n2 cap2 l2 w hn hnc hl hf hn2 hl2 hE ht ho
  · by_cases ht : 1000 < n2
    · exact RateShares_EL A n cap l most A2 n2 cap2 l2 w hn hnc hl hf hn2 hl2 hE ht
    · by_cases ho : ∀ r ∈ l2, rateOk r = true
      · exact RateShares_EO A n cap l most A2 n2 cap2 l2 w hn hnc hl hf hn2 hl2 hE ht ho
      · exact RateShares_EB A n cap l most A2 n2 cap2 l2 w hn hnc hl hf hn2 hl2 hE ht ho
end
namespace rateShares
set_option maxRecDepth 100000 in
theorem walk {H : Type} {enc : TypeId × Value → H} {d0 d2 : DataW H} {p0 p2 : List MemPlace} {base : Nat} {W : World}
    (v0 : Value) (k0 : DataW.Trod enc Try.prog W 0 (fun _ => true) true 46 v0 d0 p0) (ok0 : Value.okWide Try.prog W .any base 46 v0)
    (a1 : Int) (_w1 : (Lit.int .i64 a1).wf = true)
    (v2 : Value) (k2 : DataW.Trod enc Try.prog W 0 (fun _ => true) true 56 v2 d2 p2) (ok2 : Value.okWide Try.prog W .any base 56 v2) :
    Calls Try.prog 8 #[v0, .int .i64 a1, v2] W fun e w' => e = .returned (.bool true) ∧ Below W.heap.size W w' := by
  obtain ⟨A, n, cap, l, rfl, hl, hnc, hcm, hf⟩ := open_shares ok0 k0
  obtain ⟨A2, n2, cap2, l2, rfl, hl2, hnc2, hcm2, _⟩ := open_ints ok2 k2
  exact RateShares_all A n cap l a1 A2 n2 cap2 l2 W (Nat.le_trans hnc hcm) hnc hl hf (Nat.le_trans hnc2 hcm2) hl2
end rateShares
end Go.Proofs.Ytnbmohekikhknaa
