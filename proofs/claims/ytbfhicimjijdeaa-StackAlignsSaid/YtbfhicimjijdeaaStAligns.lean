/- The law StackAligns. -/
import Derived.Test.YtbfhicimjijdeaaStAl
import Derived.Test.YtbfhicimjijdeaaStFrV
import Derived.Test.YtbfhicimjijdeaaStOpen
import Derived.Test.YtbfhicimjijdeaaRows
import Derived.BigQuiet
import Derived.ChangeKeysEq
namespace Go.Proofs.Ytbfhicimjijdeaa
open Go.RowKit
set_option linter.unusedVariables false
theorem pr_len : ∀ (l : List Frame) (i : Nat) (bs : List Frame) (k : Nat), (pr l i bs k).length ≤ l.length := by
  intro l
  induction l with
  | nil => intro i bs k; exact Nat.le_refl _
  | cons x xs ih =>
    intro i bs k
    have h1 := ih (i + 1) bs k
    rw [pr]
    split
    · simp only [List.length_cons]; omega
    · rename_i d _
      have h2 := ih (i + 1) (bs.drop (d + 1)) (k + d + 1)
      split <;> simp only [List.length_cons] <;> omega
def errB (a b : List Frame) : Int := if frsErr a = 0 then frsErr b else frsErr a
/-- How near two rows are. -/
def nearN (a b : List Frame) : Nat := if a.length + b.length = 0 then 1000 else 2000 * (pairsL a b).length / (a.length + b.length)
structure NearNum (n m N s p q : Nat) : Prop where
  a1 : (n : Int) + (m : Int) = (s : Int)
  a2 : IntKind.i64.wrap ((n : Int) + (m : Int)) = (s : Int)
  a3 : IntKind.i64.wrap (s : Int) = (s : Int)
  a4 : (2000 : Int) * (N : Int) = (p : Int)
  a5 : IntKind.i64.wrap ((2000 : Int) * (N : Int)) = (p : Int)
  a6 : IntKind.i64.wrap (p : Int) = (p : Int)
  a7 : Int.tdiv (p : Int) (s : Int) = (q : Int)
  a8 : IntKind.i64.wrap (Int.tdiv (p : Int) (s : Int)) = (q : Int)
  a9 : IntKind.i64.wrap (q : Int) = (q : Int)
  b1 : ((s : Int) == 0) = false
  b2 : decide ((s : Int) = 0) = false
theorem nearNum {n m N : Nat} (hn : n ≤ 200) (hm : m ≤ 200) (hN : N ≤ 200) (h0 : n + m ≠ 0) : ∃ s p q, q = 2000 * N / (n + m) ∧ s ≠ 0 ∧ q ≤ 400000 ∧ NearNum n m N s p q := by
  have hq : 2000 * N / (n + m) ≤ 400000 := Nat.le_trans (Nat.div_le_self _ _) (by omega)
  have e1 : (n : Int) + (m : Int) = ((n + m : Nat) : Int) := by omega
  have e2 : (2000 : Int) * (N : Int) = ((2000 * N : Nat) : Int) := by omega
  have e3 : Int.tdiv ((2000 * N : Nat) : Int) ((n + m : Nat) : Int) = ((2000 * N / (n + m) : Nat) : Int) := rfl
  obtain ⟨q, hq2⟩ : ∃ q, q = 2000 * N / (n + m) := ⟨_, rfl⟩
  rw [← hq2] at hq e3
  refine ⟨n + m, 2000 * N, q, hq2, h0, hq, e1, ?_, ?_, e2, ?_, ?_, e3, ?_, ?_, ?_, ?_⟩
  · rw [e1]; exact IntWalk.i64_in _ (by omega)
  · exact IntWalk.i64_in _ (by omega)
  · rw [e2]; exact IntWalk.i64_in _ (by omega)
  · exact IntWalk.i64_in _ (by omega)
  · rw [e3]; exact IntWalk.i64_in _ (by omega)
  · exact IntWalk.i64_in _ (by omega)
  · simp; omega
  · simp; omega
theorem eq_pair (w : World) (a b a' b' : Int) : (Op.equalIn 10000 39 (.agg #[.int .i64 a, .int .i64 b]) (.agg #[.int .i64 a', .int .i64 b'])).run Try.prog w = .ok ((a == a') && (b == b')) w := by
  obtain ⟨i, hi, _, _, _⟩ := info_parts info_int
  rw [run_equalIn_array w 9999 (n := 2) _ _ (Try.underlying39) hi]
  have hc : Try.prog.cellsOf 3 = 1 := by kernel_rfl
  rw [hc, show List.range 2 = [0, 1] from rfl]
  simp only [Op.eqItems]
  go_simp
  by_cases h1 : a = a' <;> by_cases h2 : b = b' <;> simp [h1, h2]
attribute [local go_sem] eq_pair
set_option maxRecDepth 100000 in
set_option maxHeartbeats 2000000 in
theorem Equal_pairs (A : Option Addr) (n c : Nat) (A' : Option Addr) (c' : Nat) (l : List (Nat × Nat)) (w : World) (hn : n ≤ maxLen) (hl : Sl w w.heap.size pcs 2 A n l) (hl' : Sl w w.heap.size pcs 2 A' n l) :
    Calls Try.prog 14 #[.slice A n c, .slice A' n c'] w fun e w' => e = .returned (.bool true) ∧ Below w.heap.size w w' := by
  unfold maxLen at hn
  go_enter Try.func14, Try.ntmps14
  go_wp2_with (fail)
  go_loopw [13] (fun i wr => ∃ j : Nat, j ≤ n ∧ i = .int .i64 j ∧ Below w.heap.size w wr) (fun i _ => n - (intOf i).toNat)
  case atStart => exact ⟨0, Nat.zero_le _, rfl, Below.refl _ _⟩
  case round =>
    obtain ⟨j, hj, rfl, hB⟩ := hrel
    by_cases hlt : j < n
    · obtain ⟨bb, oo, x, rfl, hbb, hx, hc⟩ := (hl.below hB).at_ hlt
      obtain ⟨bb', oo', x', rfl, hbb', hx', hc'⟩ := (hl'.below hB).at_ hlt
      obtain rfl : x = x' := by rw [hx] at hx'; exact Option.some.inj hx'
      have c0 := hc 0 _ rfl
      have c1 := hc 1 _ rfl
      have d0 := hc' 0 _ rfl
      have d1 := hc' 1 _ rfl
      simp only [Nat.add_zero] at c0 d0
      clear hc hc' hx hx'
      go_wp2_with (go_quiet (fail))
      all_goals first
        | go_roundw
        | skip
      case rel => exact ⟨j + 1, by omega, by go_num, by first | exact hB | exact below_drewN hB _⟩
      case measure => simp [intOf]; omega
    · go_wp2_with (fail)
      go_ret
      exact ⟨rfl, hB⟩
section
variable (A : Option Addr) (n c : Nat) (A' : Option Addr) (m c' : Nat) (a b : List Frame) (w : World) (hn : n ≤ maxLen) (hm : m ≤ maxLen) (hl : Sl w w.heap.size Frame.cs 6 A n a) (hl' : Sl w w.heap.size Frame.cs 6 A' m b) (hf : FramesFit a) (hf' : FramesFit b)
include hn hm hl hl' hf hf'
set_option maxHeartbeats 1000000 in
theorem checkBoth_any : Calls Try.prog 37 #[.slice A n c, .slice A' m c'] w fun e w' => e = .returned (.int .i64 (errB a b)) ∧ Below w.heap.size w w' := by
  obtain ⟨E, hE⟩ : ∃ E, frsErr a = E := ⟨_, rfl⟩
  have K1 := hide (checkFrames_v (A := A) (n := n) (cap := c) hE w hn hl hf)
  have K2 := hide (fun W h => checkFrames_any A' m c' b W hm h hf')
  by_cases h0 : E = 0
  · subst h0
    have HE := hide (show errB a b = frsErr b by rw [errB, if_pos hE])
    clear hE
    go_enter Try.func37, Try.ntmps37
    go_wp2_with (first | (go_at_call 34; (with_reducible refine K1.out.mono ?_); rintro r w0 ⟨rfl, hB0⟩) | (go_at_call 34; (with_reducible refine (K2.out _ (hl'.up hB0)).mono ?_); rintro r w1 ⟨rfl, hw1⟩; have hB1 := hB0.trans (hw1.mono hB0.size)))
    go_ret
    exact ⟨by rw [HE.out]; rfl, hB1⟩
  · have HE := hide (show errB a b = E by rw [errB, if_neg (by rw [hE]; exact h0), hE])
    have h0' : (E == 0) = false := by simpa using h0
    clear hE h0
    go_enter Try.func37, Try.ntmps37
    go_wp2_with (go_at_call 34; refine K1.out.mono ?_; rintro r w0 ⟨rfl, hB0⟩)
    go_ret
    exact ⟨by rw [HE.out]; rfl, hB0⟩
set_option maxHeartbeats 1000000 in
theorem pairError_any : Calls Try.prog 13 #[.slice A n c, .slice A' m c'] w fun e w' => e = .returned (.int .i64 (errB a b)) ∧ Below w.heap.size w w' := by
  obtain ⟨E, hE⟩ : ∃ E, frsErr a = E := ⟨_, rfl⟩
  have K1 := hide (FramesError_v (A := A) (n := n) (cap := c) hE w hn hl hf)
  have K2 := hide (fun W h => FramesError_any A' m c' b W hm h hf')
  by_cases h0 : E = 0
  · subst h0
    have HE := hide (show errB a b = frsErr b by rw [errB, if_pos hE])
    clear hE
    go_enter Try.func13, Try.ntmps13
    go_wp2_with (first | (go_at_call 8; (with_reducible refine K1.out.mono ?_); rintro r w0 ⟨rfl, hB0⟩) | (go_at_call 8; (with_reducible refine (K2.out _ (hl'.up hB0)).mono ?_); rintro r w1 ⟨rfl, hw1⟩; have hB1 := hB0.trans (hw1.mono hB0.size)))
    go_ret
    exact ⟨by rw [HE.out]; rfl, hB1⟩
  · have HE := hide (show errB a b = E by rw [errB, if_neg (by rw [hE]; exact h0), hE])
    have h0' : (E == 0) = false := by simpa using h0
    clear hE h0
    go_enter Try.func13, Try.ntmps13
    go_wp2_with (go_at_call 8; refine K1.out.mono ?_; rintro r w0 ⟨rfl, hB0⟩)
    go_ret
    exact ⟨by rw [HE.out]; rfl, hB0⟩
theorem checkBoth_v {v : Int} (hv : errB a b = v) : Calls Try.prog 37 #[.slice A n c, .slice A' m c'] w fun e w' => e = .returned (.int .i64 v) ∧ Below w.heap.size w w' := by
  subst hv; exact checkBoth_any A n c A' m c' a b w hn hm hl hl' hf hf'
theorem pairError_v {v : Int} (hv : errB a b = v) : Calls Try.prog 13 #[.slice A n c, .slice A' m c'] w fun e w' => e = .returned (.int .i64 v) ∧ Below w.heap.size w w' := by
  subst hv; exact pairError_any A n c A' m c' a b w hn hm hl hl' hf hf'
set_option maxHeartbeats 1000000 in
theorem Align_err {E : Int} (hE : errB a b = E) (h0 : E ≠ 0) : Calls Try.prog 11 #[.slice A n c, .slice A' m c'] w fun e w' => e = .returned (.tuple #[.slice none 0 0, .int .i64 E]) ∧ Below w.heap.size w w' := by
  have C := hide (checkBoth_v A n c A' m c' a b w hn hm hl hl' hf hf' hE)
  have h0' : (E == 0) = false := by simpa using h0
  clear hE
  go_enter Try.func11, Try.ntmps11
  go_wp2_with (go_at_call 37; refine C.out.mono ?_; rintro r w0 ⟨rfl, hB0⟩)
  go_ret2
  exact ⟨rfl, hB0⟩
set_option maxHeartbeats 1000000 in
theorem Near_err {E : Int} (hE : errB a b = E) (h0 : E ≠ 0) : Calls Try.prog 12 #[.slice A n c, .slice A' m c'] w fun e w' => e = .returned (.tuple #[.int .i64 0, .int .i64 E]) ∧ Below w.heap.size w w' := by
  have C := hide (checkBoth_v A n c A' m c' a b w hn hm hl hl' hf hf' hE)
  have h0' : (E == 0) = false := by simpa using h0
  clear hE
  go_enter Try.func12, Try.ntmps12
  go_wp2_with (go_at_call 37; refine C.out.mono ?_; rintro r w0 ⟨rfl, hB0⟩)
  go_ret2
  exact ⟨rfl, hB0⟩
set_option maxHeartbeats 1000000 in
theorem Align_ok (hn2 : n ≤ 200) (hm2 : m ≤ 200) (hE : errB a b = 0) : Calls Try.prog 11 #[.slice A n c, .slice A' m c'] w (GivesPairs (fun v => .tuple #[v, .int .i64 0]) (pairsL a b) w) := by
  have C := hide (checkBoth_v A n c A' m c' a b w hn hm hl hl' hf hf' hE)
  have K := hide (fun W h h' => aligned_any A n c A' m c' a b W hn2 hm2 h h')
  clear hE
  go_enter Try.func11, Try.ntmps11
  go_wp2_with (first | (go_at_call 37; refine C.out.mono ?_; rintro r w0 ⟨rfl, hB0⟩) | (go_at_call 38; refine (K.out _ (hl.up hB0) (hl'.up hB0)).mono ?_; rintro r w1 ⟨A1, N1, c1, rfl, hR1, hw1⟩; have hB1 := hB0.trans (hw1.mono hB0.size)))
  go_ret2
  exact ⟨A1, N1, c1, rfl, hR1, hB1⟩
set_option maxHeartbeats 2000000 in
theorem Near_ok (hn2 : n ≤ 200) (hm2 : m ≤ 200) (hE : errB a b = 0) : Calls Try.prog 12 #[.slice A n c, .slice A' m c'] w fun e w' => e = .returned (.tuple #[.int .i64 (nearN a b : Nat), .int .i64 0]) ∧ Below w.heap.size w w' := by
  have C := hide (checkBoth_v A n c A' m c' a b w hn hm hl hl' hf hf' hE)
  have K := hide (fun W h h' => aligned_any A n c A' m c' a b W hn2 hm2 h h')
  have HL := hide hl.len
  have HL' := hide hl'.len
  have HP := hide (pr_len a 0 b 0)
  clear hE
  by_cases h0 : n + m = 0
  · obtain ⟨rfl, rfl⟩ : n = 0 ∧ m = 0 := by omega
    have HN := hide (show nearN a b = 1000 by rw [nearN, if_pos (by rw [HL.out, HL'.out])])
    go_enter Try.func12, Try.ntmps12
    go_wp2_with (go_at_call 37; refine C.out.mono ?_; rintro r w0 ⟨rfl, hB0⟩)
    go_ret2
    exact ⟨by rw [HN.out]; rfl, hB0⟩
  · obtain ⟨N, hN⟩ : ∃ N, (pairsL a b).length = N := ⟨_, rfl⟩
    have hN2 : N ≤ 200 := by have h := HP.out; have := HL.out; rw [pairsL] at hN; omega
    obtain ⟨s, p, q, hq, hs0, hq4, ⟨a1, a2, a3, a4, a5, a6, a7, a8, a9, b1, b2⟩⟩ := nearNum hn2 hm2 hN2 h0
    have HN := hide (show nearN a b = q by rw [nearN, if_neg (by rw [HL.out, HL'.out]; exact h0), hN, HL.out, HL'.out, hq])
    have HNL := hide hN
    clear h0 hq hN
    go_enter Try.func12, Try.ntmps12
    go_wp2_with (first | (go_at_call 37; refine C.out.mono ?_; rintro r w0 ⟨rfl, hB0⟩) | (go_at_call 38; refine (K.out _ (hl.up hB0) (hl'.up hB0)).mono ?_; rintro r w1 ⟨A1, N1, c1, rfl, hR1, hw1⟩; obtain rfl : N1 = N := hR1.len.symm.trans HNL.out; have hB1 := hB0.trans (hw1.mono hB0.size)))
    go_ret2
    exact ⟨by rw [HN.out]; rfl, hB1⟩
omit hn hm hf hf' in
set_option maxHeartbeats 2000000 in
theorem Nearness_any (hn2 : n ≤ 200) (hm2 : m ≤ 200) : Calls Try.prog 16 #[.slice A n c, .slice A' m c'] w fun e w' => e = .returned (.int .i64 (nearN a b : Nat)) ∧ Below w.heap.size w w' := by
  have K := hide (alignedR_any A n c A' m c' a b w hn2 hm2 hl hl')
  have HL := hide hl.len
  have HL' := hide hl'.len
  have HP := hide (pr_len a 0 b 0)
  by_cases h0 : n + m = 0
  · obtain ⟨rfl, rfl⟩ : n = 0 ∧ m = 0 := by omega
    have HN := hide (show nearN a b = 1000 by rw [nearN, if_pos (by rw [HL.out, HL'.out])])
    go_enter Try.func16, Try.ntmps16
    go_wp2_with (fail)
    go_ret
    exact ⟨by rw [HN.out]; rfl, Below.refl _ _⟩
  · obtain ⟨N, hN⟩ : ∃ N, (pairsL a b).length = N := ⟨_, rfl⟩
    have hN2 : N ≤ 200 := by have h := HP.out; have := HL.out; rw [pairsL] at hN; omega
    obtain ⟨s, p, q, hq, hs0, hq4, ⟨a1, a2, a3, a4, a5, a6, a7, a8, a9, b1, b2⟩⟩ := nearNum hn2 hm2 hN2 h0
    have HN := hide (show nearN a b = q by rw [nearN, if_neg (by rw [HL.out, HL'.out]; exact h0), hN, HL.out, HL'.out, hq])
    have HNL := hide hN
    clear h0 hq hN
    go_enter Try.func16, Try.ntmps16
    go_wp2_with (go_at_call 15; refine K.out.mono ?_; rintro r w1 ⟨A1, N1, c1, rfl, hR1, hB1⟩; obtain rfl : N1 = N := hR1.len.symm.trans HNL.out)
    go_ret
    exact ⟨by rw [HN.out]; rfl, hB1⟩
set_option maxHeartbeats 1000000 in
theorem StackAligns_F (hbad : errB a b ≠ 0) : Calls Try.prog 4 #[.slice A n c, .slice A' m c'] w fun e w' => e = .returned (.bool true) ∧ Below w.heap.size w w' := by
  obtain ⟨E, hE⟩ : ∃ E, errB a b = E := ⟨_, rfl⟩
  rw [hE] at hbad
  have K1 := hide (Align_err A n c A' m c' a b w hn hm hl hl' hf hf' hE hbad)
  have K2 := hide (fun W h h' => Near_err A n c A' m c' a b W hn hm h h' hf hf' hE hbad)
  have K3 := hide (fun W h h' => pairError_v A n c A' m c' a b W hn hm h h' hf hf' hE)
  have h0' : (E == 0) = false := by simpa using hbad
  clear hE hbad
  go_enter Try.func4, Try.ntmps4
  go_wp2_with (first | (go_at_call 11; refine K1.out.mono ?_; rintro r w1 ⟨rfl, hB1⟩) | (go_at_call 12; refine (K2.out _ (hl.up hB1) (hl'.up hB1)).mono ?_; rintro r w2 ⟨rfl, hw2⟩; have hB2 := hB1.trans (hw2.mono hB1.size)) | (go_at_call 13; refine (K3.out _ (hl.up hB2) (hl'.up hB2)).mono ?_; rintro r w3 ⟨rfl, hw3⟩; have hB3 := hB2.trans (hw3.mono hB2.size)))
  go_ret
  exact ⟨rfl, hB3⟩
set_option maxHeartbeats 2000000 in
theorem StackAligns_G (hn2 : n ≤ 200) (hm2 : m ≤ 200) (hE : errB a b = 0) : Calls Try.prog 4 #[.slice A n c, .slice A' m c'] w fun e w' => e = .returned (.bool true) ∧ Below w.heap.size w w' := by
  have K1 := hide (Align_ok A n c A' m c' a b w hn hm hl hl' hf hf' hn2 hm2 hE)
  have K2 := hide (fun W h h' => Near_ok A n c A' m c' a b W hn hm h h' hf hf' hn2 hm2 hE)
  have K3 := hide (fun W h h' => pairError_v A n c A' m c' a b W hn hm h h' hf hf' hE)
  have K4 := hide (fun W h h' => alignedR_any A n c A' m c' a b W hn2 hm2 h h')
  have K5 := hide (fun W h h' => Nearness_any A n c A' m c' a b W h h' hn2 hm2)
  have hP : (pairsL a b).length ≤ 200 := by have h := pr_len a 0 b 0; have := hl.len; rw [pairsL]; omega
  generalize pairsL a b = L at K1 K4 hP
  generalize nearN a b = Q at K2 K5
  have HP := hide hP
  clear hE hP
  go_enter Try.func4, Try.ntmps4
  go_wp2_with (first | (go_at_call 11; refine K1.out.mono ?_; rintro r w1 ⟨A1, N1, c1, rfl, hR1, hB1⟩) | (go_at_call 12; refine (K2.out _ (hl.up hB1) (hl'.up hB1)).mono ?_; rintro r w2 ⟨rfl, hw2⟩; have hB2 := hB1.trans (hw2.mono hB1.size); have hS2 := hR1.up hw2) | (go_at_call 13; refine (K3.out _ (hl.up hB2) (hl'.up hB2)).mono ?_; rintro r w3 ⟨rfl, hw3⟩; have hB3 := hB2.trans (hw3.mono hB2.size); have hS3 := hS2.up hw3) | (go_at_call 15; refine (K4.out _ (hl.up hB3) (hl'.up hB3)).mono ?_; rintro r w4 ⟨A4, N4, c4, rfl, hR4, hw4⟩; obtain rfl : N4 = N1 := hR4.len.symm.trans hR1.len; have hB4 := hB3.trans (hw4.mono hB3.size); have hS4 := hS3.up hw4) | (go_at_call 14; refine (Equal_pairs _ _ _ _ _ L _ (by have h1 := HP.out; have h2 := hR4.len; unfold maxLen; omega) hS4 hR4).mono ?_; rintro r w5 ⟨rfl, hw5⟩; have hB5 := hB4.trans (hw5.mono hB4.size)) | (go_at_call 16; refine (K5.out _ (hl.up hB5) (hl'.up hB5)).mono ?_; rintro r w6 ⟨rfl, hw6⟩; have hB6 := hB5.trans (hw6.mono hB5.size)))
  go_ret
  exact ⟨rfl, hB6⟩
theorem StackAligns_all : Calls Try.prog 4 #[.slice A n c, .slice A' m c'] w fun e w' => e = .returned (.bool true) ∧ Below w.heap.size w w' := by
  by_cases hE : errB a b = 0
  · have h1 : frsErr a = 0 := by
      by_cases h : frsErr a = 0
      · exact h
      · rw [errB, if_neg h] at hE; exact hE
    have h2 : frsErr b = 0 := by rw [errB, if_pos h1] at hE; exact hE
    exact StackAligns_G A n c A' m c' a b w hn hm hl hl' hf hf' (by have := frsErr_len h1; have := hl.len; omega) (by have := frsErr_len h2; have := hl'.len; omega) hE
  · exact StackAligns_F A n c A' m c' a b w hn hm hl hl' hf hf' hE
end
namespace stackAligns
set_option maxRecDepth 100000 in
theorem walk {H : Type} {enc : TypeId × Value → H} {d0 : DataW H} {p0 : List MemPlace} {d1 : DataW H} {p1 : List MemPlace} {base : Nat} {W : World}
    (v0 : Value) (k0 : DataW.Trod enc Try.prog W 0 (fun _ => true) true 22 v0 d0 p0) (ok0 : Value.okWide Try.prog W .any base 22 v0)
    (v1 : Value) (k1 : DataW.Trod enc Try.prog W 0 (fun _ => true) true 22 v1 d1 p1) (ok1 : Value.okWide Try.prog W .any base 22 v1) :
    Calls Try.prog 4 #[v0, v1] W fun e w' => e = .returned (.bool true) ∧ Below W.heap.size W w' := by
  obtain ⟨A, n, cap, l, rfl, hl, hnc, hcm, hf⟩ := open_frames ok0 k0
  obtain ⟨A', n', cap', l', rfl, hl', hnc', hcm', hf'⟩ := open_frames ok1 k1
  exact StackAligns_all A n cap A' n' cap' l l' W (Nat.le_trans hnc hcm) (Nat.le_trans hnc' hcm') hl hl' hf hf'
end stackAligns
end Go.Proofs.Ytbfhicimjijdeaa
