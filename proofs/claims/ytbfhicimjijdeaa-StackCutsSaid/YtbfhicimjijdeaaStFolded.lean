/- Walk of inqref1.Folded (printed by gen_fd.py). -/
import Derived.Test.YtbfhicimjijdeaaStFold
namespace Go.Proofs.Ytbfhicimjijdeaa
open Go.RowKit Go.Joins
set_option linter.unusedVariables false
def foundB (y : Nat) : Bool := !decide (y = 1)
theorem foundB_one {y : Nat} (h : y = 1) : foundB y = false := by simp [foundB, h]
theorem foundB_many {y : Nat} (h : ¬ y = 1) : foundB y = true := by simp [foundB, h]
/-- What a step of the count computes, behind a. -/
structure AddNum (a b s : Nat) : Prop where
  e : (a : Int) + (b : Int) = (s : Int)
  w : IntKind.i64.wrap ((a : Int) + (b : Int)) = (s : Int)
  v : IntKind.i64.wrap (s : Int) = (s : Int)
theorem addNum {a b : Nat} (h : a + b ≤ 2000000) : ∃ s, s = a + b ∧ AddNum a b s := by
  have e : (a : Int) + (b : Int) = ((a + b : Nat) : Int) := by omega
  exact ⟨a + b, rfl, e, by rw [e]; exact IntWalk.i64_in _ (by omega), IntWalk.i64_in _ (by omega)⟩
set_option maxRecDepth 100000 in
set_option maxHeartbeats 16000000 in
theorem Folded_ok (A : Option Addr) (n c : Nat) (l : List Frame) (w : World) (hn : n ≤ 200) (hnc : n ≤ c) (hcm : c ≤ maxLen) (hl : Sl w w.heap.size Frame.cs 6 A n l) :
    Calls Try.prog 20 #[.slice A n c] w (GivesRuns (fun v => v) (foldL l) w) := by
  have HL := hide hl.len
  have HCM := hide hcm
  unfold maxLen at hcm
  obtain ⟨i0, hi0, iz0, iz1, iz2⟩ := info_parts info_run
  go_enter Try.func20, Try.ntmps20
  go_wp2_with (fail)
  go_loopw [3, 4] (fun v i wr => ∃ (a m : Nat) (out : List RunT), a ≤ n ∧ i = .int .i64 a ∧ wr.ownsRow w.heap.size 48 3 v m (out.flatMap RunT.cs) ∧ out.length = m ∧ RunsIn out a ∧ foldW l (l.length - a) a out = foldL l ∧ Below w.heap.size w wr) (fun _ i _ => n - (intOf i).toNat)
  case atStart => exact ⟨0, 0, [], Nat.zero_le _, rfl, World.ownsRow_nil _ _ _ _, rfl, ⟨Nat.zero_le _, by simp⟩, rfl, Below.refl _ _⟩
  case round =>
    obtain ⟨a, m, out, ha, rfl, hown, hm, hruns, hfold, hB⟩ := hrel
    have HM := hide hm
    have HR := hide hruns
    have HFO := hide hfold
    have HOWN := hide hown
    have hz := hB.size
    have hma : m ≤ a := by have := hruns.1; omega
    have hsl := own_slice hown
    clear hm hruns hfold hown
    by_cases hlt : a < n
    · obtain ⟨b, o, rfl, _⟩ := hl.cells (by omega)
      have HDL := hide (show (l.drop a).length = n - a by rw [List.length_drop, HL.out])
      have hlt' : decide (a < n) = true := by simpa using hlt
      have q5 : ¬ c = a := by omega
      go_wp2_with (fail)
      obtain ⟨wp, rfl⟩ : ∃ wp : World, wp = wr := ⟨_, rfl⟩
      go_loopw [6, 7] (fun fl gl wr => ∃ g x y : Nat, 1 ≤ g ∧ 2 * (g - 1) ≤ n - a ∧ fl = .bool (foundB y) ∧ gl = .int .i64 g ∧ bestUp (l.drop a) (g - 1) = (x, y) ∧ wr.heap[wp.heap.size]? = some (.cells #[.int .i64 a, .int .i64 x, .int .i64 y] 48) ∧ wr.ownsRow w.heap.size 48 3 u3 m (out.flatMap RunT.cs) ∧ Below w.heap.size w wr) (fun _ gl _ => n + 1 - (intOf gl).toNat)
      case atStart => exact ⟨1, 1, 1, Nat.le_refl _, by omega, rfl, rfl, rfl, by (show (wp.heap.push _)[wp.heap.size]? = _; exact Array.getElem?_push_size), HOWN.out.alloc _, hB.alloc hz _⟩
      case round =>
        obtain ⟨g, x, y, hg1, hg2, rfl, rfl, hbest, hblk, hown2, hB2⟩ := hrel
        have HBEST := hide hbest
        have HBLK := hide hblk
        have HOWN2 := hide hown2
        have hz2 := hB2.size
        have hzp : wp.heap.size < wr.heap.size := lt_of_block hblk
        have e1 : wr.cell? ⟨wp.heap.size, 1, none⟩ = some (.int .i64 x) := (block_cell hblk _).trans rfl
        have e2 : wr.cell? ⟨wp.heap.size, 2, none⟩ = some (.int .i64 y) := (block_cell hblk _).trans rfl
        have hbd := bestUp_bd (l.drop a) (by rw [HDL.out]; omega) (g - 1) (by rw [HDL.out]; exact hg2)
        rw [hbest] at hbd
        simp only at hbd
        obtain ⟨hx1, hy1, hxy⟩ := hbd
        rw [HDL.out] at hxy
        obtain ⟨hxn, hyn⟩ := mul_le hx1 hy1 hxy
        clear hbest hblk hown2
        by_cases hgn : 2 * g ≤ n - a
        · obtain ⟨tn, htn⟩ : ∃ tn, timesOf (l.drop a) g = tn := ⟨_, rfl⟩
          have htb := timesOf_bd (l := l.drop a) (g := g) hg1 (by rw [HDL.out]; omega)
          rw [htn, HDL.out] at htb
          obtain ⟨ht1, ht2⟩ := htb
          obtain ⟨P, hP, ⟨p1, p2, p3⟩⟩ := mulNum (a := g) (b := tn) (by rw [Nat.mul_comm]; omega)
          obtain ⟨Q, hQ, ⟨s1, s2, s3⟩⟩ := mulNum (a := x) (b := y) (by omega)
          obtain ⟨ag, hag, ⟨d1, d2, d3⟩⟩ := addNum (a := a) (b := g) (by omega)
          have HTN := hide htn
          have HAG := hide hag
          have HP := hide hP
          have HQ := hide hQ
          have hPn : P ≤ 200 := by rw [hP, Nat.mul_comm]; omega
          have hQn : Q ≤ 200 := by omega
          have htn2 : tn ≤ 200 := by have := (mul_le ht1 hg1 ht2).1; omega
          have NB := hide (own_before HOWN.out (Nat.le_refl wp.heap.size))
          have NZ := hide hz
          have CASES : Hid ((¬ 2 ≤ tn ∧ bestUp (l.drop a) (g + 1 - 1) = (x, y)) ∨ (2 ≤ tn ∧ y = 1 ∧ bestUp (l.drop a) (g + 1 - 1) = (g, tn)) ∨ (2 ≤ tn ∧ ¬ y = 1 ∧ Q < P ∧ bestUp (l.drop a) (g + 1 - 1) = (g, tn)) ∨ (2 ≤ tn ∧ ¬ y = 1 ∧ ¬ Q < P ∧ bestUp (l.drop a) (g + 1 - 1) = (x, y))) := by
            refine hide ?_
            have hb : bestUp (l.drop a) (g + 1 - 1) = if 2 ≤ tn ∧ (y = 1 ∨ Q < P) then (g, tn) else (x, y) := by
              rw [show g + 1 - 1 = (g - 1) + 1 by omega, bestUp, show g - 1 + 1 = g by omega, HTN.out, HBEST.out, HP.out, HQ.out]
            rw [hb]
            by_cases h2 : 2 ≤ tn
            · by_cases hy : y = 1
              · exact .inr (.inl ⟨h2, hy, if_pos ⟨h2, .inl hy⟩⟩)
              · by_cases hPQ : Q < P
                · exact .inr (.inr (.inl ⟨h2, hy, hPQ, if_pos ⟨h2, .inr hPQ⟩⟩))
                · exact .inr (.inr (.inr ⟨h2, hy, hPQ, if_neg (fun e => e.2.elim hy hPQ)⟩))
            · exact .inl ⟨h2, if_neg (fun e => h2 e.1)⟩
          clear htn hP hQ ht2 hxy hag
          go_wp2_with (fail)
          obtain ⟨wq, rfl⟩ : ∃ wq : World, wq = wr := ⟨_, rfl⟩
          have KEEPH : Hid (∀ w1, Below wq.heap.size wq w1 → w1.heap[wp.heap.size]? = some (.cells #[.int .i64 a, .int .i64 x, .int .i64 y] 48) ∧ w1.ownsRow w.heap.size 48 3 u3 m (out.flatMap RunT.cs) ∧ Below w.heap.size w w1) := hide fun w1 h1 => ⟨block_below HBLK.out h1, own_below HOWN2.out h1, hB2.trans (h1.mono hz2)⟩
          have HLQ := hide (hl.up hB2)
          clear e1 e2
          go_loopw [8] (fun i wr => ∃ j : Nat, 1 ≤ j ∧ j ≤ n ∧ i = .int .i64 j ∧ tn = tmFrom (l.drop a) g ((l.drop a).length + 1 - j) j ∧ Below wq.heap.size wq wr) (fun i _ => n + 1 - (intOf i).toNat)
          case atStart => exact ⟨1, Nat.le_refl _, by omega, rfl, HTN.out.symm, Below.refl _ _⟩
          case round =>
            obtain ⟨j, hj1, hj, rfl, htm, hBq⟩ := hrel
            have HTM := hide htm
            clear htm
            obtain ⟨⟨j1, p, q1, e1, e2, e3, w1, w2, w3, v1, v2, v3, hp1, hp, hpp⟩⟩ := stepNums j g n c (by omega) (by omega)
            have hjg : j * g ≤ 200 * 200 := Nat.mul_le_mul (by omega) (by omega)
            have hq1b : q1 = p + g := by rw [hp1, hp, Nat.succ_mul]
            obtain ⟨ap, hap, ⟨k1, k2, k3⟩⟩ := addNum (a := a) (b := p) (by omega)
            obtain ⟨aq, haq, ⟨m1, m2, m3⟩⟩ := addNum (a := a) (b := q1) (by omega)
            have HP1 := hide hp1
            have hag := HAG.out
            have HPP := hide hp
            have x1 : ag - a = g := by omega
            have x2 : aq - ap = g := by omega
            have HAQ := hide haq
            have HAP := hide hap
            have c1 : (0 : Int) ≤ (a : Int) := by omega
            have c2 : (a : Int) ≤ (ag : Int) := by omega
            have c3 : (ag : Int) ≤ (c : Int) := by omega
            clear hag
            have c4 : (0 : Int) ≤ (ap : Int) := by omega
            have c5 : (ap : Int) ≤ (aq : Int) := by omega
            by_cases hle : aq ≤ n
            · have hle' : decide (aq ≤ n) = true := by simpa using hle
              have c6 : (aq : Int) ≤ (c : Int) := by omega
              have c7 : ¬ c = ap := by omega
              have c8 : g ≤ n - a := by omega
              have c9 : g ≤ n - ap := by omega
              have c10 : ap ≤ n := by omega
              obtain ⟨I1, F1, hi1, hC1, hFB1, hJ1⟩ := fam [] wq wr (Cells.nil _) (by assumption); have hJ1 := hide hJ1; haveI : Nonempty I1 := ⟨hi1.choose⟩
              have HF := hide hFB1
              have HEQ := hide (fun i c1 c2 => Equal_any (some ⟨b, o + a * 6, none⟩) g c1 (some ⟨b, o + ap * 6, none⟩) g c2 ((l.drop a).take g) ((l.drop ap).take g) (F1 i) (by unfold maxLen; omega) (by unfold maxLen; omega) ((((HLQ.out.drop ha).first c8).below (HF.out i)).more (HF.out i).size) ((((HLQ.out.drop c10).first c9).below (HF.out i)).more (HF.out i).size))
              clear hC1 hFB1
              by_cases heq : (l.drop a).take g = (l.drop ap).take g
              · have HST := hide (show stepOk (l.drop a) g j from ⟨by rw [HDL.out, ← HP1.out]; have := HAQ.out; omega, by rw [← HPP.out, List.drop_drop, ← HAP.out]; exact heq⟩)
                have HEQ := hide (fun i c1 c2 => by have h := HEQ.out i c1 c2; rw [decide_eq_true heq] at h; exact h)
                have hj1n : j + 1 ≤ n := by
                  have h0 := Nat.mul_le_mul_left (j + 1) hg1
                  rw [← HP1.out] at h0
                  have := HAQ.out
                  omega
                clear hp1 hp heq hap haq hq1b
                go_wp2_with (fail)
                refine wp_region_fam F1 hi1 (by kernel_rfl) (by kernel_rfl) ?_; (repeat (go_big_quiet_step ((go_at_call 10; refine (HEQ.out _ _ _).mono ?_; rintro r w' ⟨rfl, hw'⟩; exact ⟨rfl, hJ1.out _ _ hw'⟩)))); refine wpQuiet_nil ?_; rintro _ ⟨i1, rfl⟩
                have hBi := HF.out i1
                go_wp2_with (fail)
                go_roundw
                case rel => exact ⟨j + 1, by omega, by omega, by go_num, by rw [HTM.out, tmFrom_step HST.out hg1], hBi⟩
                case measure => simp [intOf]; omega
              · have HST := hide (show ¬ stepOk (l.drop a) g j from fun h => heq (by have := h.2; rw [← HPP.out, List.drop_drop, ← HAP.out] at this; exact this))
                have HEQ := hide (fun i c1 c2 => by have h := HEQ.out i c1 c2; rw [decide_eq_false heq] at h; exact h)
                obtain rfl : tn = j := HTM.out.trans (tmFrom_stop HST.out)
                clear hp1 hp heq hap haq hq1b
                rcases CASES.out with ⟨h2, hs⟩ | ⟨h2, hy, hs⟩ | ⟨h2, hy, hPQ, hs⟩ | ⟨h2, hy, hPQ, hs⟩
                · have h2' : decide (2 ≤ tn) = false := by simpa using h2
                  go_wp2_with (fail)
                  refine wp_region_fam F1 hi1 (by kernel_rfl) (by kernel_rfl) ?_; (repeat (go_big_quiet_step ((go_at_call 10; refine (HEQ.out _ _ _).mono ?_; rintro r w' ⟨rfl, hw'⟩; exact ⟨rfl, hJ1.out _ _ hw'⟩)))); refine wpQuiet_nil ?_; rintro _ ⟨i1, rfl⟩
                  have HBX := hide (HF.out i1)
                  obtain ⟨blk1, own1, B1⟩ := KEEPH.out _ HBX.out
                  have f0 : (F1 i1).cell? ⟨wp.heap.size, 0, none⟩ = some (.int .i64 a) := (block_cell blk1 _).trans rfl
                  have f1 : (F1 i1).cell? ⟨wp.heap.size, 1, none⟩ = some (.int .i64 x) := (block_cell blk1 _).trans rfl
                  have f2 : (F1 i1).cell? ⟨wp.heap.size, 2, none⟩ = some (.int .i64 y) := (block_cell blk1 _).trans rfl
                  have z0 := block_free blk1 0
                  have z1 := block_free blk1 1
                  have z2 := block_free blk1 2
                  have BLK1 := hide blk1
                  have OWN1 := hide own1
                  clear blk1 own1
                  go_wp2_with (fail)
                  go_roundw
                  case rel => exact ⟨g + 1, x, y, by omega, by omega, by first | rfl | exact congrArg Value.bool hfb.symm | (trace_state; fail), by go_num, hs, BLK1.out, OWN1.out, B1⟩
                  case measure => simp [intOf]; omega
                · have hfb := foundB_one hy
                  have h2' : decide (2 ≤ tn) = true := by simpa using h2
                  go_wp2_with (fail)
                  refine wp_region_fam F1 hi1 (by kernel_rfl) (by kernel_rfl) ?_; (repeat (go_big_quiet_step ((go_at_call 10; refine (HEQ.out _ _ _).mono ?_; rintro r w' ⟨rfl, hw'⟩; exact ⟨rfl, hJ1.out _ _ hw'⟩)))); refine wpQuiet_nil ?_; rintro _ ⟨i1, rfl⟩
                  have HBX := hide (HF.out i1)
                  obtain ⟨blk1, own1, B1⟩ := KEEPH.out _ HBX.out
                  have f0 : (F1 i1).cell? ⟨wp.heap.size, 0, none⟩ = some (.int .i64 a) := (block_cell blk1 _).trans rfl
                  have f1 : (F1 i1).cell? ⟨wp.heap.size, 1, none⟩ = some (.int .i64 x) := (block_cell blk1 _).trans rfl
                  have f2 : (F1 i1).cell? ⟨wp.heap.size, 2, none⟩ = some (.int .i64 y) := (block_cell blk1 _).trans rfl
                  have z0 := block_free blk1 0
                  have z1 := block_free blk1 1
                  have z2 := block_free blk1 2
                  have BLK1 := hide blk1
                  have OWN1 := hide own1
                  clear blk1 own1
                  go_wp2_with (fail)
                  go_roundw
                  case rel => exact ⟨g + 1, g, tn, by omega, by omega, congrArg Value.bool (foundB_many (by omega)).symm, by go_num, hs, block_set (block_set (block_set BLK1.out _) _) _, ownsRow_setCell_other (ownsRow_setCell_other (ownsRow_setCell_other OWN1.out NB.out _) NB.out _) NB.out _, below_set (below_set (below_set B1 NZ.out _) NZ.out _) NZ.out _⟩
                  case measure => simp [intOf]; omega
                · have hfb := foundB_many hy
                  have h2' : decide (2 ≤ tn) = true := by simpa using h2
                  have hPQ' : decide (Q < P) = true := by simpa using hPQ
                  clear hy
                  go_wp2_with (fail)
                  refine wp_region_fam F1 hi1 (by kernel_rfl) (by kernel_rfl) ?_; (repeat (go_big_quiet_step ((go_at_call 10; refine (HEQ.out _ _ _).mono ?_; rintro r w' ⟨rfl, hw'⟩; exact ⟨rfl, hJ1.out _ _ hw'⟩)))); refine wpQuiet_nil ?_; rintro _ ⟨i1, rfl⟩
                  have HBX := hide (HF.out i1)
                  obtain ⟨blk1, own1, B1⟩ := KEEPH.out _ HBX.out
                  have f0 : (F1 i1).cell? ⟨wp.heap.size, 0, none⟩ = some (.int .i64 a) := (block_cell blk1 _).trans rfl
                  have f1 : (F1 i1).cell? ⟨wp.heap.size, 1, none⟩ = some (.int .i64 x) := (block_cell blk1 _).trans rfl
                  have f2 : (F1 i1).cell? ⟨wp.heap.size, 2, none⟩ = some (.int .i64 y) := (block_cell blk1 _).trans rfl
                  have z0 := block_free blk1 0
                  have z1 := block_free blk1 1
                  have z2 := block_free blk1 2
                  have BLK1 := hide blk1
                  have OWN1 := hide own1
                  clear blk1 own1
                  go_wp2_with (fail)
                  go_roundw
                  case rel => exact ⟨g + 1, g, tn, by omega, by omega, congrArg Value.bool (foundB_many (by omega)).symm, by go_num, hs, block_set (block_set (block_set BLK1.out _) _) _, ownsRow_setCell_other (ownsRow_setCell_other (ownsRow_setCell_other OWN1.out NB.out _) NB.out _) NB.out _, below_set (below_set (below_set B1 NZ.out _) NZ.out _) NZ.out _⟩
                  case measure => simp [intOf]; omega
                · have hfb := foundB_many hy
                  have h2' : decide (2 ≤ tn) = true := by simpa using h2
                  have hPQ' : decide (Q < P) = false := by simpa using hPQ
                  go_wp2_with (fail)
                  refine wp_region_fam F1 hi1 (by kernel_rfl) (by kernel_rfl) ?_; (repeat (go_big_quiet_step ((go_at_call 10; refine (HEQ.out _ _ _).mono ?_; rintro r w' ⟨rfl, hw'⟩; exact ⟨rfl, hJ1.out _ _ hw'⟩)))); refine wpQuiet_nil ?_; rintro _ ⟨i1, rfl⟩
                  have HBX := hide (HF.out i1)
                  obtain ⟨blk1, own1, B1⟩ := KEEPH.out _ HBX.out
                  have f0 : (F1 i1).cell? ⟨wp.heap.size, 0, none⟩ = some (.int .i64 a) := (block_cell blk1 _).trans rfl
                  have f1 : (F1 i1).cell? ⟨wp.heap.size, 1, none⟩ = some (.int .i64 x) := (block_cell blk1 _).trans rfl
                  have f2 : (F1 i1).cell? ⟨wp.heap.size, 2, none⟩ = some (.int .i64 y) := (block_cell blk1 _).trans rfl
                  have z0 := block_free blk1 0
                  have z1 := block_free blk1 1
                  have z2 := block_free blk1 2
                  have BLK1 := hide blk1
                  have OWN1 := hide own1
                  clear blk1 own1
                  go_wp2_with (fail)
                  go_roundw
                  case rel => exact ⟨g + 1, x, y, by omega, by omega, by first | rfl | exact congrArg Value.bool hfb.symm | (trace_state; fail), by go_num, hs, BLK1.out, OWN1.out, B1⟩
                  case measure => simp [intOf]; omega
            · have hle' : decide (aq ≤ n) = false := by simpa using hle
              have HST := hide (show ¬ stepOk (l.drop a) g j from fun h => hle (by have := h.1; rw [HDL.out, ← HP1.out] at this; have := HAQ.out; omega))
              obtain rfl : tn = j := HTM.out.trans (tmFrom_stop HST.out)
              clear hp1 hp hap haq hq1b hle
              rcases CASES.out with ⟨h2, hs⟩ | ⟨h2, hy, hs⟩ | ⟨h2, hy, hPQ, hs⟩ | ⟨h2, hy, hPQ, hs⟩
              · have h2' : decide (2 ≤ tn) = false := by simpa using h2
                go_wp2_with (fail)
                go_quiet (fail)
                have HBX := hide (below_drewN hBq nq)
                obtain ⟨blk1, own1, B1⟩ := KEEPH.out _ HBX.out
                have f0 : (World.drewN wr nq).cell? ⟨wp.heap.size, 0, none⟩ = some (.int .i64 a) := (block_cell blk1 _).trans rfl
                have f1 : (World.drewN wr nq).cell? ⟨wp.heap.size, 1, none⟩ = some (.int .i64 x) := (block_cell blk1 _).trans rfl
                have f2 : (World.drewN wr nq).cell? ⟨wp.heap.size, 2, none⟩ = some (.int .i64 y) := (block_cell blk1 _).trans rfl
                have z0 := block_free blk1 0
                have z1 := block_free blk1 1
                have z2 := block_free blk1 2
                have BLK1 := hide blk1
                have OWN1 := hide own1
                clear blk1 own1
                go_wp2_with (fail)
                go_roundw
                case rel => exact ⟨g + 1, x, y, by omega, by omega, by first | rfl | exact congrArg Value.bool hfb.symm | (trace_state; fail), by go_num, hs, BLK1.out, OWN1.out, B1⟩
                case measure => simp [intOf]; omega
              · have hfb := foundB_one hy
                have h2' : decide (2 ≤ tn) = true := by simpa using h2
                go_wp2_with (fail)
                go_quiet (fail)
                have HBX := hide (below_drewN hBq nq)
                obtain ⟨blk1, own1, B1⟩ := KEEPH.out _ HBX.out
                have f0 : (World.drewN wr nq).cell? ⟨wp.heap.size, 0, none⟩ = some (.int .i64 a) := (block_cell blk1 _).trans rfl
                have f1 : (World.drewN wr nq).cell? ⟨wp.heap.size, 1, none⟩ = some (.int .i64 x) := (block_cell blk1 _).trans rfl
                have f2 : (World.drewN wr nq).cell? ⟨wp.heap.size, 2, none⟩ = some (.int .i64 y) := (block_cell blk1 _).trans rfl
                have z0 := block_free blk1 0
                have z1 := block_free blk1 1
                have z2 := block_free blk1 2
                have BLK1 := hide blk1
                have OWN1 := hide own1
                clear blk1 own1
                go_wp2_with (fail)
                go_roundw
                case rel => exact ⟨g + 1, g, tn, by omega, by omega, congrArg Value.bool (foundB_many (by omega)).symm, by go_num, hs, block_set (block_set (block_set BLK1.out _) _) _, ownsRow_setCell_other (ownsRow_setCell_other (ownsRow_setCell_other OWN1.out NB.out _) NB.out _) NB.out _, below_set (below_set (below_set B1 NZ.out _) NZ.out _) NZ.out _⟩
                case measure => simp [intOf]; omega
              · have hfb := foundB_many hy
                have h2' : decide (2 ≤ tn) = true := by simpa using h2
                have hPQ' : decide (Q < P) = true := by simpa using hPQ
                clear hy
                go_wp2_with (fail)
                go_quiet (fail)
                have HBX := hide (below_drewN hBq nq)
                obtain ⟨blk1, own1, B1⟩ := KEEPH.out _ HBX.out
                have f0 : (World.drewN wr nq).cell? ⟨wp.heap.size, 0, none⟩ = some (.int .i64 a) := (block_cell blk1 _).trans rfl
                have f1 : (World.drewN wr nq).cell? ⟨wp.heap.size, 1, none⟩ = some (.int .i64 x) := (block_cell blk1 _).trans rfl
                have f2 : (World.drewN wr nq).cell? ⟨wp.heap.size, 2, none⟩ = some (.int .i64 y) := (block_cell blk1 _).trans rfl
                have z0 := block_free blk1 0
                have z1 := block_free blk1 1
                have z2 := block_free blk1 2
                have BLK1 := hide blk1
                have OWN1 := hide own1
                clear blk1 own1
                go_wp2_with (fail)
                go_roundw
                case rel => exact ⟨g + 1, g, tn, by omega, by omega, congrArg Value.bool (foundB_many (by omega)).symm, by go_num, hs, block_set (block_set (block_set BLK1.out _) _) _, ownsRow_setCell_other (ownsRow_setCell_other (ownsRow_setCell_other OWN1.out NB.out _) NB.out _) NB.out _, below_set (below_set (below_set B1 NZ.out _) NZ.out _) NZ.out _⟩
                case measure => simp [intOf]; omega
              · have hfb := foundB_many hy
                have h2' : decide (2 ≤ tn) = true := by simpa using h2
                have hPQ' : decide (Q < P) = false := by simpa using hPQ
                go_wp2_with (fail)
                go_quiet (fail)
                have HBX := hide (below_drewN hBq nq)
                obtain ⟨blk1, own1, B1⟩ := KEEPH.out _ HBX.out
                have f0 : (World.drewN wr nq).cell? ⟨wp.heap.size, 0, none⟩ = some (.int .i64 a) := (block_cell blk1 _).trans rfl
                have f1 : (World.drewN wr nq).cell? ⟨wp.heap.size, 1, none⟩ = some (.int .i64 x) := (block_cell blk1 _).trans rfl
                have f2 : (World.drewN wr nq).cell? ⟨wp.heap.size, 2, none⟩ = some (.int .i64 y) := (block_cell blk1 _).trans rfl
                have z0 := block_free blk1 0
                have z1 := block_free blk1 1
                have z2 := block_free blk1 2
                have BLK1 := hide blk1
                have OWN1 := hide own1
                clear blk1 own1
                go_wp2_with (fail)
                go_roundw
                case rel => exact ⟨g + 1, x, y, by omega, by omega, by first | rfl | exact congrArg Value.bool hfb.symm | (trace_state; fail), by go_num, hs, BLK1.out, OWN1.out, B1⟩
                case measure => simp [intOf]; omega
        · have hbo : bestOf (l.drop a) = (x, y) := by rw [bestOf, HDL.out, show (n - a) / 2 = g - 1 by omega]; exact HBEST.out
          obtain ⟨Q, hQ, ⟨s1, s2, s3⟩⟩ := mulNum (a := x) (b := y) (by omega)
          obtain ⟨hn1, hn2, hn3, hn4⟩ := fold_next (by rw [HL.out]; exact hlt) hbo hQ HFO.out HR.out
          rw [HL.out] at hn3
          have HN1 := hide hn1
          have HN2 := hide hn2
          have HZP := hide hzp
          have e0 : wr.cell? ⟨wp.heap.size, 0, none⟩ = some (.int .i64 a) := (block_cell HBLK.out _).trans rfl
          have NB := hide (own_before HOWN.out (Nat.le_refl wp.heap.size))
          have HY := hide (show y = 1 ∨ ¬ y = 1 by omega)
          clear hn1 hn2 hbo hQ hxy
          cases m with
          | zero =>
            obtain rfl : out = [] := List.eq_nil_of_length_eq_zero HM.out
            rcases hsl with ⟨rfl, _⟩ | ⟨g0, c0, rfl⟩
            all_goals
              go_wp2_with (at_builtin; refine wpList_append_own _ rfl (.tmp 112) (.tmp 114) 23 rfl w.heap.size 48 i0 (.agg #[.int .i64 0, .int .i64 0, .int .i64 0]) 3 24 Try.underlying23 hi0 iz0 iz1 iz2 rfl (by decide) _ 0 _ (by rfl) (HOWN2.out.alloc _) ⟨wr.heap.size, 0, none⟩ 1 1 [.int .i64 a, .int .i64 x, .int .i64 y] (by rfl) rfl (cells_at _ [.int .i64 a, .int .i64 x, .int .i64 y] _ _ rfl) (by intro u hu; simp at hu; rcases hu with rfl | rfl | rfl <;> rfl) (by unfold maxLen; omega) (by omega) (by simp; omega) ?_; intro v' w5 hown5 hg5 _; have B5 : Below w.heap.size w w5 := Below.grown (hB2.alloc hz2 _) hg5 (by simp; omega) (fun j hj => (World.ownsRow.lt HOWN2.out j hj).1); have OWN5 := hide hown5; clear hown5 hg5)
              go_roundw
              case rel => exact ⟨a + Q, 0 + 1, _, hn3, by go_num, by rw [pushRun_nil', flat_push]; exact OWN5.out, by rw [pushRun_nil']; simp; try exact HK.out, HN2.out, HN1.out, B5⟩
              case measure => simp [intOf]; omega
          | succ k =>
            obtain ⟨o', r, rfl, hk⟩ := last_split HM.out
            rcases hsl with ⟨_, h0⟩ | ⟨g0, c0, rfl⟩
            · cases h0
            have HK := hide hk
            have r0 := (HOWN2.out.cellAt (k * 3 + 1) (by omega)).trans ((by rw [← hk]; exact flat_last o' r 1 (by decide)) : _ = r.cs[1]?)
            have r1 : wr.cell? ⟨g0, k * 3 + 1, none⟩ = some (.int .i64 r.long) := r0
            have r2 : wr.cell? ⟨g0, k * 3 + 2, none⟩ = some (.int .i64 r.times) := (HOWN2.out.cellAt (k * 3 + 2) (by omega)).trans (by rw [← hk]; exact flat_last o' r 2 (by decide))
            have z1 := HOWN2.out.frozenAt (k * 3 + 1)
            have hrb := HR.out.2 r (by simp)
            obtain ⟨l1, l2, l3, l4⟩ := hrb
            have hne : ¬ g0 = wp.heap.size := fun e => NB.out (by rw [e]; rfl)
            have hne' : ¬ wp.heap.size = g0 := fun e => hne e.symm
            clear hk r0
            by_cases hr : r.times = 1
            · have hr2 : (r.times == 1) = true := by simpa using hr
              rcases HY.out with hy | hy
              · have HJ := hide (pushRun_join o' r ⟨a, x, y⟩ hr (by simp only; omega))
                have HSET := hide (HOWN2.out.stored (k * 3 + 1) (.int .i64 (r.long + 1))).1
                have HLT := hide (HOWN2.out.lt g0 rfl).1
                have hy' : decide ((y : Int) = 1) = true := by simp; omega
                have hy2 : ((y : Int) == 1) = true := by simp; omega
                clear hy
                go_wp2_with (fail)
                go_roundw
                case rel => exact ⟨a + Q, k + 1, _, hn3, by go_num, by rw [HJ.out, ← flat_set, HK.out]; exact HSET.out, by rw [HJ.out]; simp; exact HK.out, HN2.out, HN1.out, below_set hB2 HLT.out _⟩
                case measure => simp [intOf]; omega
              · have HJ := hide (pushRun_many (o' ++ [r]) ⟨a, x, y⟩ (by simp only; omega))
                have hy' : decide ((y : Int) = 1) = false := by simp; omega
                have hy2 : ((y : Int) == 1) = false := by simp; omega
                clear hy
                go_wp2_with (at_builtin; refine wpList_append_own _ rfl (.tmp 112) (.tmp 114) 23 rfl w.heap.size 48 i0 (.agg #[.int .i64 0, .int .i64 0, .int .i64 0]) 3 24 Try.underlying23 hi0 iz0 iz1 iz2 rfl (by decide) _ (k + 1) _ (by rfl) (HOWN2.out.alloc _) ⟨wr.heap.size, 0, none⟩ 1 1 [.int .i64 a, .int .i64 x, .int .i64 y] (by rfl) rfl (cells_at _ [.int .i64 a, .int .i64 x, .int .i64 y] _ _ rfl) (by intro u hu; simp at hu; rcases hu with rfl | rfl | rfl <;> rfl) (by unfold maxLen; omega) (by omega) (by simp; omega) ?_; intro v' w5 hown5 hg5 _; have B5 : Below w.heap.size w w5 := Below.grown (hB2.alloc hz2 _) hg5 (by simp; omega) (fun j hj => (World.ownsRow.lt HOWN2.out j hj).1); have OWN5 := hide hown5; clear hown5 hg5)
                go_roundw
                case rel => exact ⟨a + Q, (k + 1) + 1, _, hn3, by go_num, by rw [HJ.out, flat_push]; exact OWN5.out, by rw [HJ.out]; simp; try exact HK.out, HN2.out, HN1.out, B5⟩
                case measure => simp [intOf]; omega
            · have hr2 : (r.times == 1) = false := by simpa using hr
              have HJ := hide (pushRun_new o' r ⟨a, x, y⟩ (fun e => hr e.1))
              clear hr
              go_wp2_with (at_builtin; refine wpList_append_own _ rfl (.tmp 112) (.tmp 114) 23 rfl w.heap.size 48 i0 (.agg #[.int .i64 0, .int .i64 0, .int .i64 0]) 3 24 Try.underlying23 hi0 iz0 iz1 iz2 rfl (by decide) _ (k + 1) _ (by rfl) (HOWN2.out.alloc _) ⟨wr.heap.size, 0, none⟩ 1 1 [.int .i64 a, .int .i64 x, .int .i64 y] (by rfl) rfl (cells_at _ [.int .i64 a, .int .i64 x, .int .i64 y] _ _ rfl) (by intro u hu; simp at hu; rcases hu with rfl | rfl | rfl <;> rfl) (by unfold maxLen; omega) (by omega) (by simp; omega) ?_; intro v' w5 hown5 hg5 _; have B5 : Below w.heap.size w w5 := Below.grown (hB2.alloc hz2 _) hg5 (by simp; omega) (fun j hj => (World.ownsRow.lt HOWN2.out j hj).1); have OWN5 := hide hown5; clear hown5 hg5)
              go_roundw
              case rel => exact ⟨a + Q, (k + 1) + 1, _, hn3, by go_num, by rw [HJ.out, flat_push]; exact OWN5.out, by rw [HJ.out]; simp; try exact HK.out, HN2.out, HN1.out, B5⟩
              case measure => simp [intOf]; omega
    · have hEND := hide (show foldL l = out from HFO.out.symm.trans (foldW_end (by rw [HL.out]; exact hlt)))
      obtain ⟨A', c', rfl, hsl', _, _⟩ := sl_of_own (f := RunT.cs) (l := out) (fun _ => rfl) HM.out HOWN.out
      have HSL := hide hsl'
      have hlt' : decide (a < n) = false := by simpa using hlt
      clear hsl hsl' HOWN
      go_wp2_with (fail)
      go_ret
      exact ⟨A', m, c', rfl, by rw [hEND.out]; exact HSL.out, hB⟩
end Go.Proofs.Ytbfhicimjijdeaa
