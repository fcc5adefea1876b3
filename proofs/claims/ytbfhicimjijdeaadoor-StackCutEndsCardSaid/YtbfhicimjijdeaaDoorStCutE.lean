/- The law StackCutEnds. -/
import Derived.Test.YtbfhicimjijdeaaDoorStCut
import Derived.Test.YtbfhicimjijdeaaDoorStCutX
import Derived.Test.YtbfhicimjijdeaaDoorStEqB
import Derived.Test.YtbfhicimjijdeaaDoorStAwake
import Derived.Test.YtbfhicimjijdeaaDoorStOpen
import Derived.Test.YtbfhicimjijdeaaDoorFam
namespace Go.Proofs.YtbfhicimjijdeaaDoor
open Go.RowKit
set_option linter.unusedVariables false
theorem sl_empty {w : World} {B sz q : Nat} {f : Frame → List Value} {A : Option Addr} {L : List Frame} (hq : q = 0) (hL : L.length = q) : Sl w B f sz A q L := by
  subst hq
  obtain rfl : L = [] := List.eq_nil_of_length_eq_zero hL
  exact Sl.nil _ _ _ _ _
theorem cutL_take {l : List Frame} {n mn N k : Nat} (hl : l.length = n) (hN : (cutL l mn).length = N) (hk : k = (N + 1) / 2) : (cutL l mn).take k = l.take k ∧ (cutL l mn).drop k = l.drop (n - (N - k)) ∧ N + (n - mn) = n ∧ N ≤ mn := by
  rw [cutL] at hN ⊢
  split at hN
  · rename_i h
    rw [if_pos h]
    refine ⟨rfl, by congr 1; omega, by omega, by omega⟩
  · rename_i h
    rw [if_neg h]
    rw [List.length_append, List.length_take, List.length_drop] at hN
    have e1 : N = mn := by omega
    subst e1
    have e2 : (l.take ((N + 1) / 2)).length = k := by rw [List.length_take]; omega
    refine ⟨?_, ?_, by omega, Nat.le_refl _⟩
    · rw [List.take_append_of_le_length (by omega), List.take_take]; congr 1; omega
    · rw [List.drop_append_of_le_length (by omega)]
      rw [List.drop_of_length_le (by omega), List.nil_append]
      congr 1; omega
section
variable (A : Option Addr) (n c : Nat) (l : List Frame) (most : Int) (w : World) (hn : n ≤ maxLen) (hl : Sl w w.heap.size Frame.cs 6 A n l) (hf : FramesFit l)
include hn hl hf
set_option maxRecDepth 100000 in
set_option maxHeartbeats 2000000 in
theorem StackCutEnds_F (hbad : frsErr l ≠ 0) : Calls Tryd.prog 5 #[.slice A n c, .int .i64 most] w fun e w' => e = .returned (.bool true) ∧ Below w.heap.size w w' := by
  obtain ⟨E, hE⟩ : ∃ E, frsErr l = E := ⟨_, rfl⟩
  rw [hE] at hbad
  have K0 := hide (awakeStack_any w)
  have K1 := hide (fun W h => Cut_err A n c l most W hn h hf hE hbad)
  have h0' : (E == 0) = false := by simpa using hbad
  clear hE hbad
  go_enter Tryd.func5, Tryd.ntmps5
  go_wp2_with (first | (go_at_call 10; refine K0.out.mono ?_; rintro r w0 ⟨rfl, hB0⟩) | (go_at_call 13; refine (K1.out _ (hl.up hB0)).mono ?_; rintro r w1 ⟨rfl, hw1⟩; have hB1 := hB0.trans (hw1.mono hB0.size)))
  go_ret
  exact ⟨rfl, hB1⟩
set_option maxRecDepth 100000 in
set_option maxHeartbeats 2000000 in
theorem StackCutEnds_R (hE : frsErr l = 0) (hm : outsideB most 1 200 = true) : Calls Tryd.prog 5 #[.slice A n c, .int .i64 most] w fun e w' => e = .returned (.bool true) ∧ Below w.heap.size w w' := by
  have K0 := hide (awakeStack_any w)
  have K1 := hide (fun W h => Cut_range A n c l most W hn h hf hE hm)
  clear hE hm
  go_enter Tryd.func5, Tryd.ntmps5
  go_wp2_with (first | (go_at_call 10; refine K0.out.mono ?_; rintro r w0 ⟨rfl, hB0⟩) | (go_at_call 13; refine (K1.out _ (hl.up hB0)).mono ?_; rintro r w1 ⟨rfl, hw1⟩; have hB1 := hB0.trans (hw1.mono hB0.size)))
  go_ret
  exact ⟨rfl, hB1⟩
end
section
variable (n c : Nat) (l : List Frame) (mn : Nat) (w : World) (h200 : n ≤ 200) (hnc : n ≤ c) (hcm : c ≤ maxLen) (hm1 : 1 ≤ mn) (hm2 : mn ≤ 200) (hf : FramesFit l) (hE : frsErr l = 0)
include h200 hnc hcm hm1 hm2 hf hE
set_option maxRecDepth 100000 in
set_option maxHeartbeats 8000000 in
theorem StackCutEnds_G (b o : Nat) (hl : Sl w w.heap.size Frame.cs 6 (some ⟨b, o, none⟩) n l) (h1 : 1 ≤ n) : Calls Tryd.prog 5 #[.slice (some ⟨b, o, none⟩) n c, .int .i64 mn] w fun e w' => e = .returned (.bool true) ∧ Below w.heap.size w w' := by
  have HL := hide hl.len
  have K0 := hide (awakeStack_any w)
  have K1 := hide (fun W h => Cut_ok (some ⟨b, o, none⟩) n c l mn W h200 hnc hcm hm1 hm2 h hf hE)
  obtain ⟨N, hN⟩ : ∃ N, (cutL l mn).length = N := ⟨_, rfl⟩
  obtain ⟨k, hk⟩ : ∃ k, (N + 1) / 2 = k := ⟨_, rfl⟩
  obtain ⟨t1, t2, t3, t4⟩ := cutL_take HL.out hN hk.symm
  obtain ⟨q, hq⟩ : ∃ q, N - k = q := ⟨_, rfl⟩
  obtain ⟨r, hr⟩ : ∃ r, n - q = r := ⟨_, rfl⟩
  rw [hq, hr] at t2
  obtain ⟨G, hG⟩ : ∃ G, goneN l mn = G := ⟨_, rfl⟩
  rw [hG] at K1
  have hG' : N + G = n := by rw [← hG, goneN, HL.out]; exact t3
  unfold maxLen at hcm
  have i1 : (N : Int) + (G : Int) = (n : Int) := by omega
  have i2 : IntKind.i64.wrap ((N : Int) + (G : Int)) = (n : Int) := by rw [i1]; exact IntWalk.i64_in _ (by omega)
  have i3 : IntKind.i64.wrap (n : Int) = (n : Int) := IntWalk.i64_in _ (by omega)
  have j1 : ((N : Int) + 1) / 2 = (k : Int) := by omega
  have j2 : ((N : Int) + 1).tdiv 2 = (k : Int) := by rw [Int.tdiv_eq_ediv_of_nonneg (by omega)]; exact j1
  have m1 : (N : Int) - (k : Int) = (q : Int) := by omega
  have m2 : IntKind.i64.wrap ((N : Int) - (k : Int)) = (q : Int) := by rw [m1]; exact IntWalk.i64_in _ (by omega)
  have m3 : IntKind.i64.wrap (q : Int) = (q : Int) := IntWalk.i64_in _ (by omega)
  have p1 : (n : Int) - (q : Int) = (r : Int) := by omega
  have p2 : IntKind.i64.wrap ((n : Int) - (q : Int)) = (r : Int) := by rw [p1]; exact IntWalk.i64_in _ (by omega)
  have p3 : IntKind.i64.wrap (r : Int) = (r : Int) := IntWalk.i64_in _ (by omega)
  have b1 : (0 : Int) ≤ (k : Int) := by omega
  have b2 : (k : Int) ≤ (N : Int) := by omega
  have b3 : (k : Int) ≤ (c : Int) := by omega
  have b4 : (0 : Int) ≤ (r : Int) := by omega
  have b5 : (r : Int) ≤ (n : Int) := by omega
  have b6 : (r : Int) ≤ (c : Int) := by omega
  have x1 : N - k = q := hq
  have x2 : n - r = q := by omega
  have z1 : decide (N ≤ mn) = true := by simpa using t4
  have hk1 : k ≤ N := by omega
  have hk2 : k ≤ n := by omega
  have hr2 : r ≤ n := by omega
  have hN1 : 1 ≤ N := by omega
  have T1 := hide t1
  have T2 := hide t2
  have HN := hide hN
  have HX1 := hide x1
  have HX2 := hide x2
  clear t1 t2 t3 t4 hN hk hq hr hG hG' hE
  go_enter Tryd.func5, Tryd.ntmps5
  go_wp2_with (first | (go_at_call 10; refine K0.out.mono ?_; rintro r w0 ⟨rfl, hB0⟩) | (go_at_call 13; refine (K1.out _ (hl.up hB0)).mono ?_; rintro r w1 ⟨A1, N1, c1, rfl, hR1, hw1, hcc⟩; obtain rfl : N = N1 := HN.out.symm.trans hR1.len; have hB1 := hB0.trans (hw1.mono hB0.size)))
  obtain ⟨g, og, rfl, _⟩ := hR1.cells (by omega)
  have hl1 := hl.up hB1
  have hrf : Below w1.heap.size w1 w1 := Below.refl _ _
  obtain ⟨I1, F1, hi1, hC1, hFB1, hJ1⟩ := fam [] w1 w1 (Cells.nil _) (by assumption); have hJ1 := hide hJ1; haveI : Nonempty I1 := ⟨hi1.choose⟩
  have HF := hide hFB1
  have ET := hide (fun (i : I1) (x y : Option Addr) (m : Nat) (L : List Frame) (hm : m ≤ 400) (hx : Sl w1 w1.heap.size Frame.cs 6 x m L) (hy : Sl w1 w1.heap.size Frame.cs 6 y m L) (c c' : Nat) => show Calls Tryd.prog 14 #[.slice x m c, .slice y m c'] (F1 i) fun e w' => e = .returned (.bool true) ∧ Below (F1 i).heap.size (F1 i) w' from by have h := Equal_any x m c y m c' L L (F1 i) (by unfold maxLen; omega) (by unfold maxLen; omega) (hx.up (HF.out i)) (hy.up (HF.out i)); rw [decide_eq_true rfl] at h; exact h)
  have HEQ1 := hide (fun i c c' => ET.out i (some ⟨g, og, none⟩) (some ⟨b, o, none⟩) k (l.take k) (by omega) (by rw [← T1.out]; exact hR1.first hk1) (hl1.first hk2) c c')
  have SX := hide (show Sl w1 w1.heap.size Frame.cs 6 (some ⟨g, og + k * 6, none⟩) q (l.drop r) by rw [← T2.out, ← HX1.out]; exact hR1.drop hk1)
  have SY := hide (show Sl w1 w1.heap.size Frame.cs 6 (some ⟨b, o + r * 6, none⟩) q (l.drop r) by rw [← HX2.out]; exact hl1.drop hr2)
  have SL := hide (show (l.drop r).length = q by rw [List.length_drop, HL.out]; exact HX2.out)
  have hcn := hnc
  clear hC1 hFB1 hR1 hl1
  have y1 : (k : Int) ≤ (c1 : Int) := by omega
  have HCN := hide hnc
  have HCC := hide hcc
  by_cases hck : c1 = k
  · have HQ0 := hide (show q = 0 by omega)
    have y2 : (c1 : Int) ≤ (N : Int) := by omega
    by_cases hcr : c = r
    · have y3 : (c : Int) ≤ (n : Int) := by omega
      have HEQ2 := hide (fun i c c' => ET.out i (some ⟨g, og, none⟩) (some ⟨b, o, none⟩) q (l.drop r) (by omega) (sl_empty HQ0.out SL.out) (sl_empty HQ0.out SL.out) c c')
      subst hck
      subst hcr
      go_wp2_with (fail)
      refine wp_region_fam F1 hi1 (by kernel_rfl) (by kernel_rfl) ?_; (repeat (go_big_quiet_step (first | (go_at_call 14; ((with_reducible refine (HEQ1.out _ _ _).mono ?_); rintro r w' ⟨rfl, hw'⟩; exact ⟨rfl, hJ1.out _ _ hw'⟩)) | (go_at_call 14; ((with_reducible refine (HEQ2.out _ _ _).mono ?_); rintro r w' ⟨rfl, hw'⟩; exact ⟨rfl, hJ1.out _ _ hw'⟩))))); refine wpQuiet_nil ?_; rintro _ ⟨i1, rfl⟩
      have hBi := HF.out i1
      go_wp2_with (fail)
      go_ret
      exact ⟨rfl, hB1.trans (hBi.mono hB1.size)⟩
    · have HEQ2 := hide (fun i c c' => ET.out i (some ⟨g, og, none⟩) (some ⟨b, o + r * 6, none⟩) q (l.drop r) (by omega) (sl_empty HQ0.out SL.out) SY.out c c')
      subst hck
      go_wp2_with (fail)
      refine wp_region_fam F1 hi1 (by kernel_rfl) (by kernel_rfl) ?_; (repeat (go_big_quiet_step (first | (go_at_call 14; ((with_reducible refine (HEQ1.out _ _ _).mono ?_); rintro r w' ⟨rfl, hw'⟩; exact ⟨rfl, hJ1.out _ _ hw'⟩)) | (go_at_call 14; ((with_reducible refine (HEQ2.out _ _ _).mono ?_); rintro r w' ⟨rfl, hw'⟩; exact ⟨rfl, hJ1.out _ _ hw'⟩))))); refine wpQuiet_nil ?_; rintro _ ⟨i1, rfl⟩
      have hBi := HF.out i1
      go_wp2_with (fail)
      go_ret
      exact ⟨rfl, hB1.trans (hBi.mono hB1.size)⟩
  · by_cases hcr : c = r
    · have y3 : (c : Int) ≤ (n : Int) := by omega
      have HQ0 := hide (show q = 0 by omega)
      have HEQ2 := hide (fun i c c' => ET.out i (some ⟨g, og + k * 6, none⟩) (some ⟨b, o, none⟩) q (l.drop r) (by omega) SX.out (sl_empty HQ0.out SL.out) c c')
      subst hcr
      go_wp2_with (fail)
      refine wp_region_fam F1 hi1 (by kernel_rfl) (by kernel_rfl) ?_; (repeat (go_big_quiet_step (first | (go_at_call 14; ((with_reducible refine (HEQ1.out _ _ _).mono ?_); rintro r w' ⟨rfl, hw'⟩; exact ⟨rfl, hJ1.out _ _ hw'⟩)) | (go_at_call 14; ((with_reducible refine (HEQ2.out _ _ _).mono ?_); rintro r w' ⟨rfl, hw'⟩; exact ⟨rfl, hJ1.out _ _ hw'⟩))))); refine wpQuiet_nil ?_; rintro _ ⟨i1, rfl⟩
      have hBi := HF.out i1
      go_wp2_with (fail)
      go_ret
      exact ⟨rfl, hB1.trans (hBi.mono hB1.size)⟩
    · have HEQ2 := hide (fun i c c' => ET.out i (some ⟨g, og + k * 6, none⟩) (some ⟨b, o + r * 6, none⟩) q (l.drop r) (by omega) SX.out SY.out c c')
      go_wp2_with (fail)
      refine wp_region_fam F1 hi1 (by kernel_rfl) (by kernel_rfl) ?_; (repeat (go_big_quiet_step (first | (go_at_call 14; ((with_reducible refine (HEQ1.out _ _ _).mono ?_); rintro r w' ⟨rfl, hw'⟩; exact ⟨rfl, hJ1.out _ _ hw'⟩)) | (go_at_call 14; ((with_reducible refine (HEQ2.out _ _ _).mono ?_); rintro r w' ⟨rfl, hw'⟩; exact ⟨rfl, hJ1.out _ _ hw'⟩))))); refine wpQuiet_nil ?_; rintro _ ⟨i1, rfl⟩
      have hBi := HF.out i1
      go_wp2_with (fail)
      go_ret
      exact ⟨rfl, hB1.trans (hBi.mono hB1.size)⟩
end
section
variable (c : Nat) (mn : Nat) (w : World) (hcm : c ≤ maxLen) (hm1 : 1 ≤ mn) (hm2 : mn ≤ 200)
include hcm hm1 hm2
set_option maxRecDepth 100000 in
set_option maxHeartbeats 4000000 in
theorem StackCutEnds_0 (A : Option Addr) : Calls Tryd.prog 5 #[.slice A 0 c, .int .i64 mn] w fun e w' => e = .returned (.bool true) ∧ Below w.heap.size w w' := by
  have K0 := hide (awakeStack_any w)
  have hf : FramesFit [] := fun x hx => by cases hx
  have K1 := hide (fun W => Cut_ok A 0 c [] mn W (by omega) (Nat.zero_le _) hcm hm1 hm2 (Sl.nil _ _ _ _ _) hf rfl)
  have hG : goneN [] mn = 0 := by simp [goneN]
  have hc : cutL [] mn = [] := by simp [cutL]
  rw [hG, hc] at K1
  unfold maxLen at hcm
  clear hG hc hf
  have z1 : ((0 : Nat) : Int) ≤ (mn : Int) := by omega
  have z2 : (0 : Int) ≤ (c : Int) := by omega
  have z3 : decide ((0 : Int) ≤ (mn : Int)) = true := by simp
  cases A with
  | none =>
    go_enter Tryd.func5, Tryd.ntmps5
    go_wp2_with (first | (go_at_call 10; refine K0.out.mono ?_; rintro r w0 ⟨rfl, hB0⟩) | (go_at_call 13; refine (K1.out _).mono ?_; rintro r w1 ⟨A1, N1, c1, rfl, hR1, hw1, hcc⟩; obtain rfl : N1 = 0 := hR1.len.symm; have hB1 := hB0.trans (hw1.mono hB0.size)))
    have hrf : Below w1.heap.size w1 w1 := Below.refl _ _
    have z4 : (0 : Int) ≤ (c1 : Int) := by omega
    cases A1 with
    | none =>
      obtain ⟨I1, F1, hi1, hC1, hFB1, hJ1⟩ := fam [] w1 w1 (Cells.nil _) (by assumption); have hJ1 := hide hJ1; haveI : Nonempty I1 := ⟨hi1.choose⟩
      have HF := hide hFB1
      have HEQ := hide (fun (i : I1) (x y : Option Addr) (c c' : Nat) => show Calls Tryd.prog 14 #[.slice x 0 c, .slice y 0 c'] (F1 i) fun e w' => e = .returned (.bool true) ∧ Below (F1 i).heap.size (F1 i) w' from by have h := Equal_any x 0 c y 0 c' [] [] (F1 i) (Nat.zero_le _) (Nat.zero_le _) (Sl.nil _ _ _ _ _) (Sl.nil _ _ _ _ _); rw [decide_eq_true rfl] at h; exact h)
      clear hC1 hFB1 hR1
      go_wp2_with (fail)
      refine wp_region_fam F1 hi1 (by kernel_rfl) (by kernel_rfl) ?_; (repeat (go_big_quiet_step ((go_at_call 14; refine (HEQ.out _ _ _ _ _).mono ?_; rintro r w' ⟨rfl, hw'⟩; exact ⟨rfl, hJ1.out _ _ hw'⟩)))); refine wpQuiet_nil ?_; rintro _ ⟨i1, rfl⟩
      have hBi := HF.out i1
      go_wp2_with (fail)
      go_ret
      exact ⟨rfl, hB1.trans (hBi.mono hB1.size)⟩
    | some a1 =>
      obtain ⟨I1, F1, hi1, hC1, hFB1, hJ1⟩ := fam [] w1 w1 (Cells.nil _) (by assumption); have hJ1 := hide hJ1; haveI : Nonempty I1 := ⟨hi1.choose⟩
      have HF := hide hFB1
      have HEQ := hide (fun (i : I1) (x y : Option Addr) (c c' : Nat) => show Calls Tryd.prog 14 #[.slice x 0 c, .slice y 0 c'] (F1 i) fun e w' => e = .returned (.bool true) ∧ Below (F1 i).heap.size (F1 i) w' from by have h := Equal_any x 0 c y 0 c' [] [] (F1 i) (Nat.zero_le _) (Nat.zero_le _) (Sl.nil _ _ _ _ _) (Sl.nil _ _ _ _ _); rw [decide_eq_true rfl] at h; exact h)
      clear hC1 hFB1 hR1
      go_wp2_with (fail)
      refine wp_region_fam F1 hi1 (by kernel_rfl) (by kernel_rfl) ?_; (repeat (go_big_quiet_step ((go_at_call 14; refine (HEQ.out _ _ _ _ _).mono ?_; rintro r w' ⟨rfl, hw'⟩; exact ⟨rfl, hJ1.out _ _ hw'⟩)))); refine wpQuiet_nil ?_; rintro _ ⟨i1, rfl⟩
      have hBi := HF.out i1
      go_wp2_with (fail)
      go_ret
      exact ⟨rfl, hB1.trans (hBi.mono hB1.size)⟩
  | some ad =>
    go_enter Tryd.func5, Tryd.ntmps5
    go_wp2_with (first | (go_at_call 10; refine K0.out.mono ?_; rintro r w0 ⟨rfl, hB0⟩) | (go_at_call 13; refine (K1.out _).mono ?_; rintro r w1 ⟨A1, N1, c1, rfl, hR1, hw1, hcc⟩; obtain rfl : N1 = 0 := hR1.len.symm; have hB1 := hB0.trans (hw1.mono hB0.size)))
    have hrf : Below w1.heap.size w1 w1 := Below.refl _ _
    have z4 : (0 : Int) ≤ (c1 : Int) := by omega
    cases A1 with
    | none =>
      obtain ⟨I1, F1, hi1, hC1, hFB1, hJ1⟩ := fam [] w1 w1 (Cells.nil _) (by assumption); have hJ1 := hide hJ1; haveI : Nonempty I1 := ⟨hi1.choose⟩
      have HF := hide hFB1
      have HEQ := hide (fun (i : I1) (x y : Option Addr) (c c' : Nat) => show Calls Tryd.prog 14 #[.slice x 0 c, .slice y 0 c'] (F1 i) fun e w' => e = .returned (.bool true) ∧ Below (F1 i).heap.size (F1 i) w' from by have h := Equal_any x 0 c y 0 c' [] [] (F1 i) (Nat.zero_le _) (Nat.zero_le _) (Sl.nil _ _ _ _ _) (Sl.nil _ _ _ _ _); rw [decide_eq_true rfl] at h; exact h)
      clear hC1 hFB1 hR1
      go_wp2_with (fail)
      refine wp_region_fam F1 hi1 (by kernel_rfl) (by kernel_rfl) ?_; (repeat (go_big_quiet_step ((go_at_call 14; refine (HEQ.out _ _ _ _ _).mono ?_; rintro r w' ⟨rfl, hw'⟩; exact ⟨rfl, hJ1.out _ _ hw'⟩)))); refine wpQuiet_nil ?_; rintro _ ⟨i1, rfl⟩
      have hBi := HF.out i1
      go_wp2_with (fail)
      go_ret
      exact ⟨rfl, hB1.trans (hBi.mono hB1.size)⟩
    | some a1 =>
      obtain ⟨I1, F1, hi1, hC1, hFB1, hJ1⟩ := fam [] w1 w1 (Cells.nil _) (by assumption); have hJ1 := hide hJ1; haveI : Nonempty I1 := ⟨hi1.choose⟩
      have HF := hide hFB1
      have HEQ := hide (fun (i : I1) (x y : Option Addr) (c c' : Nat) => show Calls Tryd.prog 14 #[.slice x 0 c, .slice y 0 c'] (F1 i) fun e w' => e = .returned (.bool true) ∧ Below (F1 i).heap.size (F1 i) w' from by have h := Equal_any x 0 c y 0 c' [] [] (F1 i) (Nat.zero_le _) (Nat.zero_le _) (Sl.nil _ _ _ _ _) (Sl.nil _ _ _ _ _); rw [decide_eq_true rfl] at h; exact h)
      clear hC1 hFB1 hR1
      go_wp2_with (fail)
      refine wp_region_fam F1 hi1 (by kernel_rfl) (by kernel_rfl) ?_; (repeat (go_big_quiet_step ((go_at_call 14; refine (HEQ.out _ _ _ _ _).mono ?_; rintro r w' ⟨rfl, hw'⟩; exact ⟨rfl, hJ1.out _ _ hw'⟩)))); refine wpQuiet_nil ?_; rintro _ ⟨i1, rfl⟩
      have hBi := HF.out i1
      go_wp2_with (fail)
      go_ret
      exact ⟨rfl, hB1.trans (hBi.mono hB1.size)⟩
end
section
variable (A : Option Addr) (n c : Nat) (l : List Frame) (most : Int) (w : World) (hn : n ≤ maxLen) (hnc : n ≤ c) (hcm : c ≤ maxLen) (hl : Sl w w.heap.size Frame.cs 6 A n l) (hf : FramesFit l)
include hn hnc hcm hl hf
theorem StackCutEnds_all : Calls Tryd.prog 5 #[.slice A n c, .int .i64 most] w fun e w' => e = .returned (.bool true) ∧ Below w.heap.size w w' := by
  by_cases hE : frsErr l = 0
  · by_cases hm : outsideB most 1 200 = true
    · exact StackCutEnds_R A n c l most w hn hl hf hE hm
    · have h : 1 ≤ most ∧ most ≤ 200 := by simp [outsideB] at hm; omega
      have h200 : n ≤ 200 := by have := frsErr_len hE; have := hl.len; omega
      obtain ⟨mn, rfl⟩ : ∃ mn : Nat, most = mn := ⟨most.toNat, by omega⟩
      rcases Nat.eq_zero_or_pos n with h0 | h0
      · subst h0
        exact StackCutEnds_0 c mn w hcm (by omega) (by omega) A
      · obtain ⟨b, o, rfl, _⟩ := hl.cells h0
        exact StackCutEnds_G n c l mn w h200 hnc hcm (by omega) (by omega) hf hE b o hl h0
  · exact StackCutEnds_F A n c l most w hn hl hf hE
end
namespace stackCutEnds
set_option maxRecDepth 100000 in
theorem walk {H : Type} {enc : TypeId × Value → H} {d0 : DataW H} {p0 : List MemPlace} {base : Nat} {W : World}
    (v0 : Value) (k0 : DataW.Trod enc Tryd.prog W 0 (fun _ => true) true 30 v0 d0 p0) (ok0 : Value.okWide Tryd.prog W .any base 30 v0)
    (a1 : Int) (_w1 : (Lit.int .i64 a1).wf = true) :
    Calls Tryd.prog 5 #[v0, .int .i64 a1] W fun e w' => e = .returned (.bool true) ∧ Below W.heap.size W w' := by
  obtain ⟨A, n, cap, l, rfl, hl, hnc, hcm, hf⟩ := open_frames ok0 k0
  exact StackCutEnds_all A n cap l a1 W (Nat.le_trans hnc hcm) hnc hcm hl hf
end stackCutEnds
end Go.Proofs.YtbfhicimjijdeaaDoor
