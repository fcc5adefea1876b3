/- The law StackPairs (printed by gen_pairs.py). -/
import Derived.Test.YtbfhicimjijdeaaDoorStAlX
import Derived.Test.YtbfhicimjijdeaaDoorStPairP
import Derived.Test.YtbfhicimjijdeaaDoorStAwake
import Derived.Test.YtbfhicimjijdeaaDoorStOpen
import Derived.Test.YtbfhicimjijdeaaDoorStFolN
import Derived.BigRegion
namespace Go.Proofs.YtbfhicimjijdeaaDoor
open Go.RowKit Go.Joins
set_option linter.unusedVariables false
theorem errB_zero {a b : List Frame} : errB a b = 0 ↔ frsErr a = 0 ∧ frsErr b = 0 := by
  rw [errB]
  by_cases h : frsErr a = 0
  · rw [if_pos h]; exact ⟨fun e => ⟨h, e⟩, fun e => e.2⟩
  · rw [if_neg h]; exact ⟨fun e => absurd e h, fun e => absurd e.1 h⟩
theorem nearN_symm (a b : List Frame) : nearN b a = nearN a b := by
  rw [nearN, nearN, pairs_len, pairs_len, lcs_symm b a, Nat.add_comm b.length a.length]
theorem nearN_le (a b : List Frame) : nearN a b ≤ 1000 := by
  rw [nearN]
  split
  · exact Nat.le_refl _
  · rw [pairs_len]
    have := lcs_le a b
    exact Nat.div_le_of_le_mul (by omega)
theorem nearN_self (a : List Frame) : nearN a a = 1000 := by
  rw [nearN]
  split
  · rfl
  · rw [pairs_len, lcs_self]
    exact Nat.div_eq_of_eq_mul_left (by omega) (by omega)
section
variable (A : Option Addr) (n c : Nat) (A' : Option Addr) (m c' : Nat) (a b : List Frame) (w : World) (hn : n ≤ maxLen) (hm : m ≤ maxLen) (hl : Sl w w.heap.size Frame.cs 6 A n a) (hl' : Sl w w.heap.size Frame.cs 6 A' m b) (hf : FramesFit a) (hf' : FramesFit b)
include hn hm hl hl' hf hf'
set_option maxRecDepth 100000 in
set_option maxHeartbeats 2000000 in
theorem StackPairs_F (hbad : errB a b ≠ 0) : Calls Tryd.prog 4 #[.slice A n c, .slice A' m c'] w fun e w' => e = .returned (.bool true) ∧ Below w.heap.size w w' := by
  obtain ⟨E, hE⟩ : ∃ E, errB a b = E := ⟨_, rfl⟩
  obtain ⟨E', hE'⟩ : ∃ E, errB b a = E := ⟨_, rfl⟩
  have hbad' : E' ≠ 0 := by rw [← hE']; intro h; exact hbad (errB_zero.2 (errB_zero.1 h).symm)
  rw [hE] at hbad
  have K0 := hide (awakeStack_any w)
  have K1 := hide (fun W h h' => Align_err A n c A' m c' a b W hn hm h h' hf hf' hE hbad)
  have K2 := hide (fun W h h' => Align_err A' m c' A n c b a W hm hn h' h hf' hf hE' hbad')
  have K3 := hide (fun W h h' => Near_err A n c A' m c' a b W hn hm h h' hf hf' hE hbad)
  have K4 := hide (fun W h h' => Near_err A' m c' A n c b a W hm hn h' h hf' hf hE' hbad')
  have h0 : (E == 0) = false := by simpa using hbad
  have h0' : (E' == 0) = false := by simpa using hbad'
  clear hE hbad hE' hbad'
  go_enter Tryd.func4, Tryd.ntmps4
  go_wp2_with (first | (go_at_call 10; refine K0.out.mono ?_; rintro r w0 ⟨rfl, hB0⟩) | (go_at_call 11; (with_reducible refine (K1.out _ (hl.up hB0) (hl'.up hB0)).mono ?_); rintro r w1 ⟨rfl, hw1⟩; have hB1 := hB0.trans (hw1.mono hB0.size)) | (go_at_call 11; (with_reducible refine (K2.out _ (hl.up hB1) (hl'.up hB1)).mono ?_); rintro r w2 ⟨rfl, hw2⟩; have hB2 := hB1.trans (hw2.mono hB1.size)) | (go_at_call 12; (with_reducible refine (K3.out _ (hl.up hB2) (hl'.up hB2)).mono ?_); rintro r w3 ⟨rfl, hw3⟩; have hB3 := hB2.trans (hw3.mono hB2.size)) | (go_at_call 12; (with_reducible refine (K4.out _ (hl.up hB3) (hl'.up hB3)).mono ?_); rintro r w4 ⟨rfl, hw4⟩; have hB4 := hB3.trans (hw4.mono hB3.size)))
  go_ret
  exact ⟨rfl, hB4⟩
set_option maxRecDepth 100000 in
set_option maxHeartbeats 8000000 in
theorem StackPairs_G (hn2 : n ≤ 200) (hm2 : m ≤ 200) (hE : errB a b = 0) : Calls Tryd.prog 4 #[.slice A n c, .slice A' m c'] w fun e w' => e = .returned (.bool true) ∧ Below w.heap.size w w' := by
  have hE' : errB b a = 0 := errB_zero.2 (errB_zero.1 hE).symm
  have hEa : errB a a = 0 := errB_zero.2 ⟨(errB_zero.1 hE).1, (errB_zero.1 hE).1⟩
  have K0 := hide (awakeStack_any w)
  have K1 := hide (fun W h h' => Align_ok A n c A' m c' a b W hn hm h h' hf hf' hn2 hm2 hE)
  have K2 := hide (fun W h h' => Align_ok A' m c' A n c b a W hm hn h' h hf' hf hm2 hn2 hE')
  have K3 := hide (fun W h h' => Near_ok A n c A' m c' a b W hn hm h h' hf hf' hn2 hm2 hE)
  have K4 := hide (fun W h h' => nearN_symm a b ▸ Near_ok A' m c' A n c b a W hm hn h' h hf' hf hm2 hn2 hE')
  have K5 := hide (fun W h => nearN_self a ▸ Near_ok A n c A n c a a W hn hn h h hf hf hn2 hn2 hEa)
  have HL := hide hl.len
  have HL' := hide hl'.len
  obtain ⟨N, hN⟩ : ∃ N, (pairsL a b).length = N := ⟨_, rfl⟩
  have HN := hide hN
  have HN' := hide (show (pairsL b a).length = N by rw [← hN, pairs_len, pairs_len, lcs_symm])
  have hN2 : N ≤ 200 := by have := (lcs_le a b).1; rw [← pairs_len, hN] at this; have := hl.len; omega
  have hQ := nearN_le a b
  generalize nearN a b = Q at K3 K4 hQ
  have hQ1 : ¬ (Q : Int) < 0 := by omega
  have hQ2 : ¬ (1000 : Int) < (Q : Int) := by omega
  have hQ3 : decide ((Q : Int) < 0) = false := by simp
  have hQ4 : decide ((1000 : Int) < (Q : Int)) = false := by simp; omega
  clear hE hE' hEa hN
  go_enter Tryd.func4, Tryd.ntmps4
  go_wp2_with (first | (go_at_call 10; refine K0.out.mono ?_; rintro r w0 ⟨rfl, hB0⟩) | (go_at_call 11; (with_reducible refine (K1.out _ (hl.up hB0) (hl'.up hB0)).mono ?_); rintro r w1 ⟨A1, N1, c1, rfl, hR1, hw1⟩; obtain rfl : N1 = N := hR1.len.symm.trans HN.out; have hB1 := hB0.trans (hw1.mono hB0.size)) | (go_at_call 11; (with_reducible refine (K2.out _ (hl.up hB1) (hl'.up hB1)).mono ?_); rintro r w2 ⟨A2, N2, c2, rfl, hR2, hw2⟩; obtain rfl : N2 = N1 := hR2.len.symm.trans HN'.out; have hB2 := hB1.trans (hw2.mono hB1.size); have hS2 := hR1.up hw2) | (go_at_call 12; (with_reducible refine (K3.out _ (hl.up hB2) (hl'.up hB2)).mono ?_); rintro r w3 ⟨rfl, hw3⟩; have hB3 := hB2.trans (hw3.mono hB2.size); have hS3 := hS2.up hw3) | (go_at_call 12; (with_reducible refine (K4.out _ (hl.up hB3) (hl'.up hB3)).mono ?_); rintro r w4 ⟨rfl, hw4⟩; have hB4 := hB3.trans (hw4.mono hB3.size); have hS4 := hS3.up hw4))
  have HS := hide hS4
  clear hS2 hS3 hS4 hR1 hR2
  go_loopw [89] (fun i wr => ∃ t : Nat, t ≤ N2 ∧ i = .int .i64 t ∧ Below w4.heap.size w4 wr) (fun i _ => N2 - (intOf i).toNat)
  case atStart => exact ⟨0, Nat.zero_le _, rfl, Below.refl _ _⟩
  case round =>
    obtain ⟨t, ht, rfl, hB⟩ := hrel
    have hz := hB.size
    by_cases hlt : t < N2
    · obtain ⟨t0, et0⟩ : ∃ t0 : Nat, t0 = t := ⟨_, rfl⟩
      obtain ⟨bp, op, p, hA1, hbp, hp, hc⟩ := (HS.out.below hB).at_ hlt
      subst hA1
      obtain ⟨x, y, hx, hy, hal⟩ := pairs_at hp
      have HP := hide hp
      obtain ⟨p1, p2⟩ := p
      have c0 := hc 0 _ rfl
      have c1 := hc 1 _ rfl
      simp only [Nat.add_zero] at c0 c1 hx hy
      have hp1 : p1 < n := by have := (List.getElem?_eq_some_iff.1 hx).1; have := HL.out; omega
      have hp2 : p2 < m := by have := (List.getElem?_eq_some_iff.1 hy).1; have := HL'.out; omega
      obtain ⟨ba, oa, x', hA, hba, hx', hcx⟩ := hl.at_ hp1
      obtain rfl : x = x' := by rw [hx] at hx'; exact Option.some.inj hx'
      subst hA
      obtain ⟨bb, ob, y', hA', hbb, hy', hcy⟩ := hl'.at_ hp2
      obtain rfl : y = y' := by rw [hy] at hy'; exact Option.some.inj hy'
      subst hA'
      simp only [al, Bool.and_eq_true, decide_eq_true_eq] at hal
      obtain ⟨m1, m2, m3⟩ := hal
      have HXC := hide hcx
      have HCY := hide hcy
      have HM1 := hide m1
      have HM2 := hide m2
      have HM3 := hide m3
      clear hc hx hy hx' hy' hcx hcy m1 m2 m3 hp
      have hlp : bp < wr.heap.size := by have := hB.size; omega
      go_wp2_with (fail)
      have hblk : (wr.alloc (.cells #[.int .i64 (p1 : Nat), .int .i64 (p2 : Nat)] 37)).heap[wr.heap.size]? = some (.cells #[.int .i64 (p1 : Nat), .int .i64 (p2 : Nat)] 37) := by (show (wr.heap.push _)[wr.heap.size]? = _; exact Array.getElem?_push_size)
      have hB5 : Below wr.heap.size wr (wr.alloc (.cells #[.int .i64 (p1 : Nat), .int .i64 (p2 : Nat)] 37)) := (Below.refl _ _).alloc (Nat.le_refl _) _
      generalize (wr.alloc (.cells #[.int .i64 (p1 : Nat), .int .i64 (p2 : Nat)] 37)) = w5 at hblk hB5 ⊢
      have HBLK := hide hblk
      have hrf : Below w5.heap.size w5 w5 := Below.refl _ _
      obtain ⟨I1, F1, hi1, hC1, hFB1, hJ1⟩ := fam [] w5 w5 (Cells.nil _) (by assumption); have hJ1 := hide hJ1; haveI : Nonempty I1 := ⟨hi1.choose⟩
      have HF := hide hFB1
      clear hC1 hFB1 hblk c0 c1
      have d0 := fun z => (block_cell (block_below HBLK.out (HF.out z)) 0).trans (rfl : _ = some (Value.int .i64 (p1 : Nat)))
      have d1 := fun z => (block_cell (block_below HBLK.out (HF.out z)) 1).trans (rfl : _ = some (Value.int .i64 (p2 : Nat)))
      have g1 : ¬ (p1 : Int) < 0 := by omega
      have g2 : ¬ (p2 : Int) < 0 := by omega
      have g3 : ¬ (n : Int) ≤ (p1 : Int) := by omega
      have g4 : ¬ (m : Int) ≤ (p2 : Int) := by omega
      have g1' : decide ((p1 : Int) < 0) = false := by simp
      have g2' : decide ((p2 : Int) < 0) = false := by simp
      have g3' : decide ((n : Int) ≤ (p1 : Int)) = false := by simp; omega
      have g4' : decide ((m : Int) ≤ (p2 : Int)) = false := by simp; omega
      have g3n : decide (n ≤ p1) = false := by simp; omega
      have g4n : decide (m ≤ p2) = false := by simp; omega
      have HB5 := hide (hB.trans (hB5.mono hz))
      have HBW := hide (hB4.trans (HB5.out.mono hB4.size))
      rcases Nat.eq_zero_or_pos t with h0 | h0
      · subst h0
        have k1 : decide ((0 : Int) < ((0 : Nat) : Int)) = false := rfl
        go_wp2_with (fail)
        refine wp_region_fam F1 hi1 (by kernel_rfl) (by kernel_rfl) ?_; (repeat (go_big_quiet_step (fail))); refine wpQuiet_nil ?_; rintro _ ⟨i1, rfl⟩
        have hB6 := HB5.out.trans ((HF.out i1).mono HB5.out.size)
        have hBW6 := HBW.out.trans ((HF.out i1).mono HBW.out.size)
        have e0 := d0 i1
        have e1 := d1 i1
        have x0 := (hBW6.cell (p := ⟨ba, oa + p1 * 6, none⟩) hba).trans (by simpa using HXC.out 0 _ rfl : _ = some (Value.string x.mod))
        have x1 := (hBW6.cell (p := ⟨ba, oa + p1 * 6 + 1, none⟩) hba).trans (HXC.out 1 _ rfl : _ = some (Value.string x.fn))
        have x2 := (hBW6.cell (p := ⟨ba, oa + p1 * 6 + 2, none⟩) hba).trans (HXC.out 2 _ rfl : _ = some (Value.string x.file))
        have x3 := (hBW6.cell (p := ⟨ba, oa + p1 * 6 + 3, none⟩) hba).trans (HXC.out 3 _ rfl : _ = some (Value.int .i64 x.line))
        have x4 := (hBW6.cell (p := ⟨ba, oa + p1 * 6 + 4, none⟩) hba).trans (HXC.out 4 _ rfl : _ = some (Value.int .i64 x.addr))
        have x5 := (hBW6.cell (p := ⟨ba, oa + p1 * 6 + 5, none⟩) hba).trans (HXC.out 5 _ rfl : _ = some (Value.bool x.own))
        have y0 := (hBW6.cell (p := ⟨bb, ob + p2 * 6, none⟩) hbb).trans (by simpa [HM1.out] using HCY.out 0 _ rfl : _ = some (Value.string x.mod))
        have y1 := (hBW6.cell (p := ⟨bb, ob + p2 * 6 + 1, none⟩) hbb).trans (by rw [HM2.out]; exact HCY.out 1 _ rfl : _ = some (Value.string x.fn))
        have y2 := (hBW6.cell (p := ⟨bb, ob + p2 * 6 + 2, none⟩) hbb).trans (by rw [HM3.out]; exact HCY.out 2 _ rfl : _ = some (Value.string x.file))
        have y3 := (hBW6.cell (p := ⟨bb, ob + p2 * 6 + 3, none⟩) hbb).trans (HCY.out 3 _ rfl : _ = some (Value.int .i64 y.line))
        have y4 := (hBW6.cell (p := ⟨bb, ob + p2 * 6 + 4, none⟩) hbb).trans (HCY.out 4 _ rfl : _ = some (Value.int .i64 y.addr))
        have y5 := (hBW6.cell (p := ⟨bb, ob + p2 * 6 + 5, none⟩) hbb).trans (HCY.out 5 _ rfl : _ = some (Value.bool y.own))
        clear d0 d1 g1 g2 g3 g4 g1' g2' g3' g4' g3n g4n
        generalize F1 i1 = w6 at hB6 hBW6 e0 e1 x0 x1 x2 x3 x4 x5 y0 y1 y2 y3 y4 y5 ⊢
        have hz6 := hB6.size
        have j1 : (p1 : Int) < (n : Int) := by omega
        have j2 : (p2 : Int) < (m : Int) := by omega
        go_wp2_with (fail)
        go_region
        all_goals
          go_wp2_with (fail)
          go_roundw
          case rel => exact ⟨0 + 1, by omega, by go_num, by first | exact hB6.trans (Below.mono (show Below w6.heap.size w6 _ by go_grown) hz6) | exact (hB6.alloc hz6 _).alloc (by simp; omega) _ | exact ((below_drewN hB6 _).alloc (by simp [World.drewN]; omega) _).alloc (by simp [World.drewN]; omega) _⟩
          case measure => simp [intOf]; try omega
      · obtain ⟨s, hs⟩ : ∃ s : Nat, t = s + 1 := ⟨t - 1, by omega⟩
        obtain ⟨bq, oq, q, hAq, hbq, hq, hcq⟩ := HS.out.at_ (show s < N2 by omega)
        simp only [Option.some.injEq, Addr.mk.injEq, and_true] at hAq
        obtain ⟨rfl, rfl⟩ := hAq
        have hrise := pairs_rise hq (by rw [← hs]; exact HP.out)
        obtain ⟨q1, q2⟩ := q
        simp only at hrise
        have HCQ := hide hcq
        have k1 : (0 : Int) < (t : Int) := by omega
        have k2 : (t : Int) - 1 = (s : Int) := by omega
        have k3 : IntKind.i64.wrap ((t : Int) - 1) = (s : Int) := by rw [k2]; exact IntWalk.i64_in _ (by omega)
        have k4 : IntKind.i64.wrap (s : Int) = (s : Int) := IntWalk.i64_in _ (by omega)
        have k5 : ¬ (p1 : Int) ≤ (q1 : Int) := by omega
        have k6 : ¬ (p2 : Int) ≤ (q2 : Int) := by omega
        have k5' : decide ((p1 : Int) ≤ (q1 : Int)) = false := by simp; omega
        have k6' : decide ((p2 : Int) ≤ (q2 : Int)) = false := by simp; omega
        have k7 : (s : Int) < (N2 : Int) := by omega
        have k8 : decide ((0 : Int) < (t : Int)) = true := by simp; omega
        have k8n : decide (0 < t) = true := by simp; omega
        have k5n : decide (p1 ≤ q1) = false := by simp; omega
        have k6n : decide (p2 ≤ q2) = false := by simp; omega
        have f0 := fun z => ((HB5.out.trans ((HF.out z).mono HB5.out.size)).cell (p := ⟨bp, op + s * 2, none⟩) hbq).trans (by simpa using HCQ.out 0 _ rfl : _ = some (Value.int .i64 (q1 : Nat)))
        have f1 := fun z => ((HB5.out.trans ((HF.out z).mono HB5.out.size)).cell (p := ⟨bp, op + s * 2 + 1, none⟩) hbq).trans (HCQ.out 1 _ rfl : _ = some (Value.int .i64 (q2 : Nat)))
        have hlt' : (t : Int) < (N2 : Int) := by omega
        clear hq hcq h0 hs hrise
        go_wp2_with (fail)
        refine wp_region_fam F1 hi1 (by kernel_rfl) (by kernel_rfl) ?_; (repeat (go_big_quiet_step (fail))); refine wpQuiet_nil ?_; rintro _ ⟨i1, rfl⟩
        clear f0 f1 k5 k6 k5' k6' k5n k6n
        have hB6 := HB5.out.trans ((HF.out i1).mono HB5.out.size)
        have hBW6 := HBW.out.trans ((HF.out i1).mono HBW.out.size)
        have e0 := d0 i1
        have e1 := d1 i1
        have x0 := (hBW6.cell (p := ⟨ba, oa + p1 * 6, none⟩) hba).trans (by simpa using HXC.out 0 _ rfl : _ = some (Value.string x.mod))
        have x1 := (hBW6.cell (p := ⟨ba, oa + p1 * 6 + 1, none⟩) hba).trans (HXC.out 1 _ rfl : _ = some (Value.string x.fn))
        have x2 := (hBW6.cell (p := ⟨ba, oa + p1 * 6 + 2, none⟩) hba).trans (HXC.out 2 _ rfl : _ = some (Value.string x.file))
        have x3 := (hBW6.cell (p := ⟨ba, oa + p1 * 6 + 3, none⟩) hba).trans (HXC.out 3 _ rfl : _ = some (Value.int .i64 x.line))
        have x4 := (hBW6.cell (p := ⟨ba, oa + p1 * 6 + 4, none⟩) hba).trans (HXC.out 4 _ rfl : _ = some (Value.int .i64 x.addr))
        have x5 := (hBW6.cell (p := ⟨ba, oa + p1 * 6 + 5, none⟩) hba).trans (HXC.out 5 _ rfl : _ = some (Value.bool x.own))
        have y0 := (hBW6.cell (p := ⟨bb, ob + p2 * 6, none⟩) hbb).trans (by simpa [HM1.out] using HCY.out 0 _ rfl : _ = some (Value.string x.mod))
        have y1 := (hBW6.cell (p := ⟨bb, ob + p2 * 6 + 1, none⟩) hbb).trans (by rw [HM2.out]; exact HCY.out 1 _ rfl : _ = some (Value.string x.fn))
        have y2 := (hBW6.cell (p := ⟨bb, ob + p2 * 6 + 2, none⟩) hbb).trans (by rw [HM3.out]; exact HCY.out 2 _ rfl : _ = some (Value.string x.file))
        have y3 := (hBW6.cell (p := ⟨bb, ob + p2 * 6 + 3, none⟩) hbb).trans (HCY.out 3 _ rfl : _ = some (Value.int .i64 y.line))
        have y4 := (hBW6.cell (p := ⟨bb, ob + p2 * 6 + 4, none⟩) hbb).trans (HCY.out 4 _ rfl : _ = some (Value.int .i64 y.addr))
        have y5 := (hBW6.cell (p := ⟨bb, ob + p2 * 6 + 5, none⟩) hbb).trans (HCY.out 5 _ rfl : _ = some (Value.bool y.own))
        clear d0 d1 g1 g2 g3 g4 g1' g2' g3' g4' g3n g4n
        generalize F1 i1 = w6 at hB6 hBW6 e0 e1 x0 x1 x2 x3 x4 x5 y0 y1 y2 y3 y4 y5 ⊢
        have hz6 := hB6.size
        have j1 : (p1 : Int) < (n : Int) := by omega
        have j2 : (p2 : Int) < (m : Int) := by omega
        go_wp2_with (fail)
        go_region
        all_goals
          go_wp2_with (fail)
          go_roundw
          case rel => exact ⟨t + 1, by omega, by go_num, by first | exact hB6.trans (Below.mono (show Below w6.heap.size w6 _ by go_grown) hz6) | exact (hB6.alloc hz6 _).alloc (by simp; omega) _ | exact ((below_drewN hB6 _).alloc (by simp [World.drewN]; omega) _).alloc (by simp [World.drewN]; omega) _⟩
          case measure => simp [intOf]; try omega
    · have HE := hide (hB4.trans (hB.mono hB4.size))
      go_wp2_with (go_at_call 12; (with_reducible refine (K5.out _ (hl.up HE.out)).mono ?_); rintro r w7 ⟨rfl, hw7⟩; have hB7 := HE.out.trans (hw7.mono HE.out.size))
      go_ret
      exact ⟨rfl, hB7⟩
theorem StackPairs_all : Calls Tryd.prog 4 #[.slice A n c, .slice A' m c'] w fun e w' => e = .returned (.bool true) ∧ Below w.heap.size w w' := by
  by_cases hE : errB a b = 0
  · exact StackPairs_G A n c A' m c' a b w hn hm hl hl' hf hf' (by have := frsErr_len (errB_zero.1 hE).1; have := hl.len; omega) (by have := frsErr_len (errB_zero.1 hE).2; have := hl'.len; omega) hE
  · exact StackPairs_F A n c A' m c' a b w hn hm hl hl' hf hf' hE
end
namespace stackPairs
set_option maxRecDepth 100000 in
theorem walk {H : Type} {enc : TypeId × Value → H} {d0 : DataW H} {p0 : List MemPlace} {d1 : DataW H} {p1 : List MemPlace} {base : Nat} {W : World}
    (v0 : Value) (k0 : DataW.Trod enc Tryd.prog W 0 (fun _ => true) true 30 v0 d0 p0) (ok0 : Value.okWide Tryd.prog W .any base 30 v0)
    (v1 : Value) (k1 : DataW.Trod enc Tryd.prog W 0 (fun _ => true) true 30 v1 d1 p1) (ok1 : Value.okWide Tryd.prog W .any base 30 v1) :
    Calls Tryd.prog 4 #[v0, v1] W fun e w' => e = .returned (.bool true) ∧ Below W.heap.size W w' := by
  obtain ⟨A, n, cap, l, rfl, hl, hnc, hcm, hf⟩ := open_frames ok0 k0
  obtain ⟨A', n', cap', l', rfl, hl', hnc', hcm', hf'⟩ := open_frames ok1 k1
  exact StackPairs_all A n cap A' n' cap' l l' W (Nat.le_trans hnc hcm) (Nat.le_trans hnc' hcm') hl hl' hf hf'
end stackPairs
end Go.Proofs.YtbfhicimjijdeaaDoor
