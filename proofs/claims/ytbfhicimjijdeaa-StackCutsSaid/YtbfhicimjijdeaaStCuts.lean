/- The law StackCuts. -/
import Derived.Test.YtbfhicimjijdeaaStFolded
import Derived.Test.YtbfhicimjijdeaaStCut
import Derived.Test.YtbfhicimjijdeaaStFoldN
import Derived.Test.YtbfhicimjijdeaaStOpen
import Derived.Test.YtbfhicimjijdeaaRows
import Derived.BigQuiet
import Derived.Test.YtbfhicimjijdeaaStFrV
import Derived.Test.YtbfhicimjijdeaaStEqu
namespace Go.Proofs.Ytbfhicimjijdeaa
open Go.RowKit
set_option linter.unusedVariables false
set_option maxRecDepth 100000 in
set_option maxHeartbeats 2000000 in
theorem Equal_runs (A : Option Addr) (n c : Nat) (A' : Option Addr) (c' : Nat) (l : List RunT) (w : World) (hn : n ≤ maxLen) (hl : Sl w w.heap.size RunT.cs 3 A n l) (hl' : Sl w w.heap.size RunT.cs 3 A' n l) :
    Calls Try.prog 19 #[.slice A n c, .slice A' n c'] w fun e w' => e = .returned (.bool true) ∧ Below w.heap.size w w' := by
  unfold maxLen at hn
  go_enter Try.func19, Try.ntmps19
  go_wp2_with (fail)
  go_loopw [13] (fun i wr => ∃ j : Nat, j ≤ n ∧ i = .int .i64 j ∧ Below w.heap.size w wr) (fun i _ => n - (intOf i).toNat)
  case atStart => exact ⟨0, Nat.zero_le _, rfl, Below.refl _ _⟩
  case round =>
    obtain ⟨j, hj, rfl, hB⟩ := hrel
    by_cases hlt : j < n
    · obtain ⟨bb, oo, x, rfl, hbb, hx, hc⟩ := (hl.below hB).at_ hlt
      obtain ⟨bb', oo', x', rfl, hbb', hx', hc'⟩ := (hl'.below hB).at_ hlt
      obtain rfl : x = x' := by rw [hx] at hx'; exact Option.some.inj hx'
      have c0 := hc 0 _ rfl
      have c1 := hc 1 _ rfl
      have c2 := hc 2 _ rfl
      have d0 := hc' 0 _ rfl
      have d1 := hc' 1 _ rfl
      have d2 := hc' 2 _ rfl
      simp only [Nat.add_zero] at c0 d0
      clear hc hc' hx hx'
      go_wp2_with (go_quiet (fail))
      all_goals first
        | go_roundw
        | skip
      case rel => exact ⟨j + 1, by omega, by go_num, by first | exact hB | exact below_drewN hB _⟩
      case measure => simp [intOf]; omega
    · go_wp2_with (fail)
      go_ret
      exact ⟨rfl, hB⟩
section
variable (A : Option Addr) (n c : Nat) (l : List Frame) (most : Int) (w : World) (hn : n ≤ maxLen) (hnc : n ≤ c) (hcm : c ≤ maxLen) (hl : Sl w w.heap.size Frame.cs 6 A n l) (hf : FramesFit l)
include hn hl hf
set_option maxHeartbeats 1000000 in
theorem Cut_err {E : Int} (hE : frsErr l = E) (h0 : E ≠ 0) : Calls Try.prog 17 #[.slice A n c, .int .i64 most] w fun e w' => e = .returned (.tuple #[.slice none 0 0, .int .i64 0, .int .i64 E]) ∧ Below w.heap.size w w' := by
  have C := hide (checkFrames_v (A := A) (n := n) (cap := c) hE w hn hl hf)
  have h0' : (E == 0) = false := by simpa using h0
  clear hE
  go_enter Try.func17, Try.ntmps17
  go_wp2_with (go_at_call 34; refine C.out.mono ?_; rintro r w0 ⟨rfl, hB0⟩)
  go_ret3
  exact ⟨rfl, hB0⟩
set_option maxHeartbeats 1000000 in
theorem Cut_range (hE : frsErr l = 0) (hm : outsideB most 1 200 = true) : Calls Try.prog 17 #[.slice A n c, .int .i64 most] w fun e w' => e = .returned (.tuple #[.slice none 0 0, .int .i64 0, .int .i64 2]) ∧ Below w.heap.size w w' := by
  have C := hide (checkFrames_v (A := A) (n := n) (cap := c) hE w hn hl hf)
  have O := hide (show ∀ W, Calls Try.prog 35 #[.int .i64 most, .int .i64 1, .int .i64 200] W fun e w' => e = .returned (.bool true) ∧ W = w' from fun W => by have := outside_any most 1 200 W; rw [hm] at this; exact this)
  clear hE hm
  go_enter Try.func17, Try.ntmps17
  go_wp2_with (first | (go_at_call 34; refine C.out.mono ?_; rintro r w0 ⟨rfl, hB0⟩) | (go_at_call 35; refine (O.out _).mono ?_; rintro e w' ⟨rfl, rfl⟩))
  go_ret3
  exact ⟨rfl, hB0⟩
set_option maxHeartbeats 1000000 in
theorem Fold_err {E : Int} (hE : frsErr l = E) (h0 : E ≠ 0) : Calls Try.prog 18 #[.slice A n c] w fun e w' => e = .returned (.tuple #[.slice none 0 0, .int .i64 E]) ∧ Below w.heap.size w w' := by
  have C := hide (checkFrames_v (A := A) (n := n) (cap := c) hE w hn hl hf)
  have h0' : (E == 0) = false := by simpa using h0
  clear hE
  go_enter Try.func18, Try.ntmps18
  go_wp2_with (go_at_call 34; refine C.out.mono ?_; rintro r w0 ⟨rfl, hB0⟩)
  go_ret2
  exact ⟨rfl, hB0⟩
set_option maxRecDepth 100000 in
set_option maxHeartbeats 2000000 in
theorem StackCuts_F (hbad : frsErr l ≠ 0) : Calls Try.prog 5 #[.slice A n c, .int .i64 most] w fun e w' => e = .returned (.bool true) ∧ Below w.heap.size w w' := by
  obtain ⟨E, hE⟩ : ∃ E, frsErr l = E := ⟨_, rfl⟩
  rw [hE] at hbad
  have K1 := hide (Cut_err A n c l most w hn hl hf hE hbad)
  have K2 := hide (fun W h => Fold_err A n c l W hn h hf hE hbad)
  have K3 := hide (fun W h => FramesError_v (A := A) (n := n) (cap := c) hE W hn h hf)
  have h0' : (E == 0) = false := by simpa using hbad
  clear hE hbad
  go_enter Try.func5, Try.ntmps5
  go_wp2_with (first | (go_at_call 17; refine K1.out.mono ?_; rintro r w1 ⟨rfl, hB1⟩) | (go_at_call 18; refine (K2.out _ (hl.up hB1)).mono ?_; rintro r w2 ⟨rfl, hw2⟩; have hB2 := hB1.trans (hw2.mono hB1.size)) | (go_at_call 8; refine (K3.out _ (hl.up hB2)).mono ?_; rintro r w3 ⟨rfl, hw3⟩; have hB3 := hB2.trans (hw3.mono hB2.size)))
  go_ret
  exact ⟨rfl, hB3⟩
include hnc hcm
set_option maxRecDepth 100000 in
set_option maxHeartbeats 4000000 in
theorem StackCuts_R (hE : frsErr l = 0) (hm : outsideB most 1 200 = true) : Calls Try.prog 5 #[.slice A n c, .int .i64 most] w fun e w' => e = .returned (.bool true) ∧ Below w.heap.size w w' := by
  have h200 : n ≤ 200 := by have := frsErr_len hE; have := hl.len; omega
  have K1 := hide (Cut_range A n c l most w hn hl hf hE hm)
  have K2 := hide (fun W h => Fold_ok A n c l W h200 hnc hcm h hf hE)
  have K3 := hide (fun W h => FramesError_v (A := A) (n := n) (cap := c) hE W hn h hf)
  have K4 := hide (fun W h => Folded_ok A n c l W h200 hnc hcm h)
  have hfl : (foldL l).length ≤ 200 := by
    have h := foldL_len l
    have := hl.len
    omega
  have HM : most < 1 ∨ (¬ most < 1 ∧ 200 < most) := by simp [outsideB] at hm; omega
  generalize foldL l = R at K2 K4 hfl
  have HFL := hide hfl
  clear hE hm hfl
  rcases HM with h1 | ⟨h1, h2⟩
  all_goals
    go_enter Try.func5, Try.ntmps5
    go_wp2_with (first | (go_at_call 17; refine K1.out.mono ?_; rintro r w1 ⟨rfl, hB1⟩) | (go_at_call 18; refine (K2.out _ (hl.up hB1)).mono ?_; rintro r w2 ⟨A2, N2, c2, rfl, hR2, hw2⟩; have hB2 := hB1.trans (hw2.mono hB1.size)) | (go_at_call 8; refine (K3.out _ (hl.up hB2)).mono ?_; rintro r w3 ⟨rfl, hw3⟩; have hB3 := hB2.trans (hw3.mono hB2.size); have hR3 := hR2.up hw3) | (go_at_call 20; refine (K4.out _ (hl.up hB3)).mono ?_; rintro r w4 ⟨A4, N4, c4, rfl, hR4, hw4⟩; have hB4 := hB3.trans (hw4.mono hB3.size); have hR5 := hR3.up hw4; obtain rfl : N2 = N4 := by rw [← hR4.len, ← hR5.len]) | (go_at_call 19; refine (Equal_runs _ _ _ _ _ R _ (by rw [← hR4.len]; have := HFL.out; unfold maxLen; omega) hR5 hR4).mono ?_; rintro r w5 ⟨rfl, hw5⟩; have hB5 := hB4.trans (hw5.mono hB4.size)))
    go_ret
    exact ⟨rfl, hB5⟩
set_option maxRecDepth 100000 in
set_option maxHeartbeats 4000000 in
theorem StackCuts_G (mn : Nat) (hmn : most = mn) (hE : frsErr l = 0) (hm1 : 1 ≤ mn) (hm2 : mn ≤ 200) : Calls Try.prog 5 #[.slice A n c, .int .i64 most] w fun e w' => e = .returned (.bool true) ∧ Below w.heap.size w w' := by
  subst hmn
  have h200 : n ≤ 200 := by have := frsErr_len hE; have := hl.len; omega
  have K1 := hide (Cut_ok A n c l mn w h200 hnc hcm hm1 hm2 hl hf hE)
  have K2 := hide (fun W h => Fold_ok A n c l W h200 hnc hcm h hf hE)
  have K3 := hide (fun W h => FramesError_v (A := A) (n := n) (cap := c) hE W hn h hf)
  have K4 := hide (fun W h => Folded_ok A n c l W h200 hnc hcm h)
  have K6 := hide (fun W h => CutOf_ok A n c l mn W h200 hnc hcm hm1 hm2 h)
  have hfl : (foldL l).length ≤ 200 := by
    have h := foldL_len l
    have := hl.len
    omega
  have hcl : (cutL l mn).length ≤ 400 := by
    have := hl.len
    rw [cutL]
    split
    · omega
    · rw [List.length_append, List.length_take, List.length_drop]; omega
  generalize foldL l = R at K2 K4 hfl
  generalize cutL l mn = L at K1 K6 hcl
  generalize goneN l mn = G at K1 K6
  have HFL := hide hfl
  have HCL := hide hcl
  clear hE hfl hcl
  go_enter Try.func5, Try.ntmps5
  go_wp2_with (first | (go_at_call 17; refine K1.out.mono ?_; rintro r w1 ⟨A1, N1, c1, rfl, hR1, hB1⟩) | (go_at_call 18; refine (K2.out _ (hl.up hB1)).mono ?_; rintro r w2 ⟨A2, N2, c2, rfl, hR2, hw2⟩; have hB2 := hB1.trans (hw2.mono hB1.size); have hS2 := hR1.up hw2) | (go_at_call 8; refine (K3.out _ (hl.up hB2)).mono ?_; rintro r w3 ⟨rfl, hw3⟩; have hB3 := hB2.trans (hw3.mono hB2.size); have hR3 := hR2.up hw3; have hS3 := hS2.up hw3) | (go_at_call 20; refine (K4.out _ (hl.up hB3)).mono ?_; rintro r w4 ⟨A4, N4, c4, rfl, hR4, hw4⟩; have hB4 := hB3.trans (hw4.mono hB3.size); have hR5 := hR3.up hw4; have hS4 := hS3.up hw4; obtain rfl : N2 = N4 := by rw [← hR4.len, ← hR5.len]) | (go_at_call 19; refine (Equal_runs _ _ _ _ _ R _ (by rw [← hR4.len]; have := HFL.out; unfold maxLen; omega) hR5 hR4).mono ?_; rintro r w5 ⟨rfl, hw5⟩; have hB5 := hB4.trans (hw5.mono hB4.size); have hS5 := hS4.up hw5) | (go_at_call 21; refine (K6.out _ (hl.up hB5)).mono ?_; rintro r w6 ⟨A6, N6, c6, rfl, hR6, hw6⟩; have hB6 := hB5.trans (hw6.mono hB5.size); have hS6 := hS5.up hw6; obtain rfl : N1 = N6 := by rw [← hR6.len, ← hS6.len]) | (go_at_call 10; refine (Equal_frames _ _ _ _ _ L _ (by rw [← hR6.len]; have := HCL.out; unfold maxLen; omega) hS6 hR6).mono ?_; rintro r w7 ⟨rfl, hw7⟩; have hB7 := hB6.trans (hw7.mono hB6.size)))
  go_ret
  exact ⟨rfl, hB7⟩
theorem StackCuts_all : Calls Try.prog 5 #[.slice A n c, .int .i64 most] w fun e w' => e = .returned (.bool true) ∧ Below w.heap.size w w' := by
  by_cases hE : frsErr l = 0
  · by_cases hm : outsideB most 1 200 = true
    · exact StackCuts_R A n c l most w hn hnc hcm hl hf hE hm
    · have h : 1 ≤ most ∧ most ≤ 200 := by simp [outsideB] at hm; omega
      exact StackCuts_G A n c l most w hn hnc hcm hl hf most.toNat (by omega) hE (by omega) (by omega)
  · exact StackCuts_F A n c l most w hn hl hf hE
end
namespace stackCuts
set_option maxRecDepth 100000 in
theorem walk {H : Type} {enc : TypeId × Value → H} {d0 : DataW H} {p0 : List MemPlace} {base : Nat} {W : World}
    (v0 : Value) (k0 : DataW.Trod enc Try.prog W 0 (fun _ => true) true 22 v0 d0 p0) (ok0 : Value.okWide Try.prog W .any base 22 v0)
    (a1 : Int) (_w1 : (Lit.int .i64 a1).wf = true) :
    Calls Try.prog 5 #[v0, .int .i64 a1] W fun e w' => e = .returned (.bool true) ∧ Below W.heap.size W w' := by
  obtain ⟨A, n, cap, l, rfl, hl, hnc, hcm, hf⟩ := open_frames ok0 k0
  exact StackCuts_all A n cap l a1 W (Nat.le_trans hnc hcm) hnc hcm hl hf
end stackCuts
end Go.Proofs.Ytbfhicimjijdeaa
