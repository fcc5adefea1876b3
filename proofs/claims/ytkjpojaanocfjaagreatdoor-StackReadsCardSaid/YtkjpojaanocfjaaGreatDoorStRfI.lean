/- Walk of the reference's inner (printed by gen_fi5.py). -/
import Derived.Test.YtkjpojaanocfjaaGreatDoorStRfJ
import Derived.Deep.Cut
import Derived.Deep.CutRange
import Derived.Deep.CutBlock
namespace Go.Proofs.YtkjpojaanocfjaaGreatDoor
open Go.RowKit
set_option linter.unusedVariables false
set_option linter.unusedSimpArgs false

set_option maxRecDepth 100000 in
set_option maxHeartbeats 32000000 in
theorem inner_any {bb oo n c : Nat} {L : List ByteArray} {t : ByteArray} {w : World} (h : Lns w.heap.size bb oo n L w) (htl : t.size ≤ 1000000) :
    Calls Tryz.prog 14 #[.slice (some ⟨bb, oo, none⟩) n c, .string t] w fun e w' => RfOut w.heap.size (innR L t (L.length + 1) 0 [] ⟨#[]⟩) e w' ∧ Below w.heap.size w w' := by
  have hn := h.nl
  have hlen := h.sl.len
  have H0 := hide h
  clear h
  obtain ⟨RR, hRR⟩ : ∃ RR, innR L t (L.length + 1) 0 [] ⟨#[]⟩ = RR := ⟨_, rfl⟩
  rw [hRR]
  have HRR := hide hRR
  have HLEN := hide hlen
  clear hRR hlen
  obtain ⟨i0, hi0, iz0, iz1, iz2⟩ := info_parts info_fault
  obtain ⟨j0, hj0, jz0, jz1, jz2⟩ := info_parts info_frame
  go_enter Tryz.func14, Tryz.ntmps14
  go_wp2_with (fail)
  go_loopw [6, 7] (fun v i wr => ∃ (l : List FaultT) (k : Nat), i = .int .i64 (k : Int) ∧ k ≤ n ∧ Below w.heap.size w wr ∧ Fts w.heap.size wr v l ∧ l.length ≤ k ∧ Hid (∀ x ∈ l, x.frs.length ≤ k) ∧ (((l.length = 0 ∨ k < n) ∧ innR L t (L.length - k + 1) k (l.map FaultT.flt) (preOf l) = RR) ∨ (¬ l.length = 0 ∧ k = n ∧ RR = (some (l.map FaultT.flt), 0)))) (fun _ i _ => n - (intOf i).toNat)
  case atStart => exact ⟨[], 0, rfl, Nat.zero_le _, Below.refl _ _, Fts.nil _ _, Nat.le_refl _, hide (fun x hx => by simp at hx), .inl ⟨.inl rfl, HRR.out⟩⟩
  case round =>
    obtain ⟨l, k, rfl, hkn, hB, hF, hlk, hll, hor⟩ := hrel
    have HF := hide hF
    have HB := hide hB
    have hz := hB.size
    obtain ⟨lA, lc, rfl⟩ := own_sl hF.out
    have HLN := hide (H0.out.up hB)
    clear hB hF
    rcases hor with ⟨hlo, hRk⟩ | ⟨hl0, hke, hRR⟩
    · skip
      have HRK := hide hRk
      clear hRk
      by_cases hk : k < n
      · obtain ⟨x0, hx0, hz0, c0⟩ := HLN.out.line hk
        have hki : (k : Int) < (n : Int) := by omega
        have hkne : ((k : Int) == (n : Int)) = false := by rw [beq_eq_false_iff_ne]; omega
        have hfs0 : l.length = 0 → fltS L k (preOf l) = if headK x0 then some (cutL x0 58, headS x0) else none := fun h => by
          have hpo : preOf l = ⟨#[]⟩ := by unfold preOf; rw [if_pos h]
          rw [hpo]; exact fltS_at hx0
        have hfs1 : ¬ l.length = 0 → fltS L k (preOf l) = if hasP x0 preCaused && headK (x0.extract preCaused.size x0.size) then some (cutL (x0.extract preCaused.size x0.size) 58, headS (x0.extract preCaused.size x0.size)) else none := fun h => by
          have hpo : preOf l = preCaused := by unfold preOf; rw [if_neg h]
          rw [hpo]; unfold fltS; rw [begK_at hx0, lineR_at hx0]
        have HFS0 := hide hfs0
        have HFS1 := hide hfs1
        have HX0 := hide hx0
        clear hfs0 hfs1 hx0
        go_upto_if 46 with (fail)
        go_cut [8] from 26 to 46 (fun s8 wx => ∃ S : ByteArray, s8 = .string S ∧ wx = wr ∧ S.size ≤ 1000000 ∧ fltS L k (preOf l) = (if headK S then some (cutL S 58, headS S) else none))
        case first =>
          by_cases hl0 : l.length = 0
          · have hli2 : ¬ (0 : Int) < (l.length : Int) := by omega
            have HL0 := hide hl0
            clear hl0
            go_wp2_with (fail)
            go_meet
            exact ⟨x0, rfl, rfl, hz0, HFS0.out HL0.out⟩
          · have hli2 : (0 : Int) < (l.length : Int) := by omega
            have hfs := HFS1.out hl0
            clear hl0
            cases hhcau : hasP x0 preCaused
            · skip
              have E := hide (show RR = (none, k + 1) by rw [← HRK.out]; exact inn_end (by unfold innStep; rw [hfs, hhcau]; rfl))
              have hcau : ∀ W, Calls Tryz.prog 27 #[.string x0, .string ⟨#[67, 97, 117, 115, 101, 100, 32, 98, 121, 58, 32]⟩] W fun e w' => e = .returned (.tuple #[.string x0, .bool false]) ∧ w' = W := fun W => by
                have h9 := Tryz.strings_CutPrefix x0 ⟨#[67, 97, 117, 115, 101, 100, 32, 98, 121, 58, 32]⟩ W
                rw [hasP_none (pre := ⟨#[67, 97, 117, 115, 101, 100, 32, 98, 121, 58, 32]⟩) hhcau, show Lib.hasPrefix (x0).data.toList (⟨#[67, 97, 117, 115, 101, 100, 32, 98, 121, 58, 32]⟩ : ByteArray).data.toList = false from hhcau] at h9
                exact h9
              have Hhcau := hide hcau
              clear hcau
              clear hfs hhcau
              go_wp2_with (first | (go_at_call 27; ((with_reducible refine (Hhcau.out _).mono ?_); rintro e wz ⟨rfl, hwz⟩; have hwz := hwz.symm; subst hwz; clear Hhcau)) | fail)
              refine bodyPost_ret (by simp [results, Tryz.results14, go_sem]; try rfl) rfl ?_
              exact ⟨RfOut.bad E.out (by omega), HB.out⟩
            · skip
              have hcau : ∀ W, Calls Tryz.prog 27 #[.string x0, .string ⟨#[67, 97, 117, 115, 101, 100, 32, 98, 121, 58, 32]⟩] W fun e w' => e = .returned (.tuple #[.string (x0.extract preCaused.size x0.size), .bool true]) ∧ w' = W := fun W => by
                have h9 := Tryz.strings_CutPrefix x0 ⟨#[67, 97, 117, 115, 101, 100, 32, 98, 121, 58, 32]⟩ W
                rw [hasP_drop (pre := ⟨#[67, 97, 117, 115, 101, 100, 32, 98, 121, 58, 32]⟩) hhcau, show Lib.hasPrefix (x0).data.toList (⟨#[67, 97, 117, 115, 101, 100, 32, 98, 121, 58, 32]⟩ : ByteArray).data.toList = true from hhcau] at h9
                exact h9
              have Hhcau := hide hcau
              clear hcau
              have hzx : (x0.extract preCaused.size x0.size).size ≤ 1000000 := by rw [ByteArray.size_extract]; omega
              obtain ⟨S, hS⟩ : ∃ S, x0.extract preCaused.size x0.size = S := ⟨_, rfl⟩
              simp only [hS] at Hhcau hzx
              rw [hS, hhcau] at hfs
              simp only [Bool.true_and] at hfs
              have HFS := hide hfs
              clear hS hhcau hfs
              go_wp2_with (first | (go_at_call 27; ((with_reducible refine (Hhcau.out _).mono ?_); rintro e wz ⟨rfl, hwz⟩; have hwz := hwz.symm; subst hwz; clear Hhcau)) | fail)
              go_meet
              exact ⟨S, rfl, rfl, hzx, HFS.out⟩
        case rest =>
          obtain ⟨S, rfl, hw9, hzx, hfs⟩ := hcut
          have hw9 := hw9.symm
          subst hw9
          have hhl := fun W (H : Mx W) => headLine_any S W hzx H
          simp only [HdOut] at hhl
          cases hhk : headK S
          · skip
            have E := hide (show RR = (none, k + 1) by rw [← HRK.out]; exact inn_end (by unfold innStep; rw [hfs, hhk]; rfl))
            simp only [hhk] at hhl
            have HHL := hide hhl
            clear hhl hfs hhk
            go_wp2_with (first | (go_at_call 28; refine (HHL.out _ HLN.out.mx).mono ?_; rintro e w1 ⟨⟨X, Y, rfl, hxy, zx', zy'⟩, hb1⟩; have HB1 := hide (HB.out.trans (hb1.mono hz)); clear hxy hb1) | fail)
            have hal : ∀ ob, Below w.heap.size w (w1.alloc ob) := fun ob => HB1.out.alloc HB1.out.size ob
            refine bodyPost_ret (by simp [results, Tryz.results14, go_sem]; try rfl) rfl ?_
            exact ⟨RfOut.bad E.out (by omega), hal _⟩
          · skip
            have hst : innStep L t k (l.map FaultT.flt) (preOf l) = if (frsFrom L preAt (L.length - (k + 1)) (k + 1) []).1 then innTail L t (k + 2) (cutL S 58) (headS S) (frsFrom L preAt (L.length - (k + 1)) (k + 1) []).2.1 (frsFrom L preAt (L.length - (k + 1)) (k + 1) []).2.2 (l.map FaultT.flt)
                else .inl (none, (frsFrom L preAt (L.length - (k + 1)) (k + 1) []).2.1 + 1) := by unfold innStep; rw [hfs, hhk]; rfl
            simp only [hhk] at hhl
            have HHL := hide hhl
            obtain ⟨RF, hRF⟩ : ∃ RF, frsFrom L preAt (L.length - (k + 1)) (k + 1) [] = RF := ⟨_, rfl⟩
            rw [hRF] at hst
            have HST0 := hide hst
            have HRF := hide hRF
            clear hhl hfs hhk hst hRF
            go_upto_block 2 with (first | (go_at_call 28; refine (HHL.out _ HLN.out.mx).mono ?_; rintro e w1 ⟨⟨X, Y, rfl, hxy, zx', zy'⟩, hb1⟩; have HB1 := hide (HB.out.trans (hb1.mono hz)); have hx1 := (hxy (by simp)).1; have hy1 := (hxy (by simp)).2; have HSTEP := hide HST0.out; rw [← hx1, ← hy1] at HSTEP; have zx : X.size ≤ 1000000 := (by omega); have zy : Y.size ≤ 1000000 := (by omega); have HT1 := hide (HF.out.below hb1); have hz1 := HB1.out.size; clear hxy hb1 hx1 hy1) | fail)
            have HFB0 := hide (FBox.new w1 X Y)
            have HB0 := hide (fun ob : Obj => (Below.refl w1.heap.size w1).alloc (Nat.le_refl _) ob)
            go_cut [7, 14] from 26 to 66 (fun i gone wx => ∃ (k1 : Nat) (fs : List Frame) (v : Value) (gn : Int), i = .int .i64 (k1 : Int) ∧ gone = .int .i64 gn ∧ k1 ≤ n ∧ k + 1 ≤ k1 ∧ FBox w1.heap.size X Y v fs wx ∧ Below w1.heap.size w1 wx ∧ ((gn = -1 ∧ fs.length + (k + 1) ≤ k1 ∧ begK L k1 preDots = false ∧ innStep L t k (l.map FaultT.flt) (preOf l) = innTail L t (k + 2) X Y k1 fs (l.map FaultT.flt)) ∨ (∃ g : Nat, gn = (g : Int) ∧ fs.length ≤ k1 ∧ innStep L t k (l.map FaultT.flt) (preOf l) = .inr (k1, l.map FaultT.flt ++ [⟨X, Y, fs⟩]))))
            case first =>
              rename_i J9 K9 h9 h8
              exact wp_block (innL H0 htl hn HLEN HRK hz1 HB1 HF HT1 hll hlk hk zx zy HSTEP HRF hj0 jz0 jz1 jz2 HFB0 (hide (HB0.out _)) (fun _ _ _ _ e h => ⟨e ▸ h.1, h.2⟩) h9 h8 (fun _ _ h => h))
            case rest =>
              obtain ⟨k1, fs, v, gn, rfl, rfl, hk1n, hkk1, hF2, hK2, hph⟩ := hcut
              obtain ⟨A2, c2, rfl⟩ := own_sl hF2.row
              obtain ⟨w2, hw2⟩ : ∃ w2, w2 = wc := ⟨_, rfl⟩
              subst hw2
              have HF2 := hide hF2
              have HK2 := hide hK2
              have HB2 := hide (HB1.out.trans (hK2.mono hz1))
              have HLN2 := hide (H0.out.up HB2.out)
              have hz2 := hK2.size
              have HPH := hide hph
              clear hF2 hK2 hph
              go_upto_region 36 with (fail)
              go_cut [193] from 193 to 193 (fun b wx => wx = w2 ∧ b = .bool (decide (gn < 0) && (decide (k1 = n) && (hasP t preAt || hasP t preDots))))
              case first =>
                obtain ⟨BT, hBT⟩ : ∃ BT, (hasP t preAt || hasP t preDots) = BT := ⟨_, rfl⟩
                have hbt := fun W => behind_any t W
                simp only [hBT] at hbt
                have HBH := hide hbt
                have HBT := hide hBT
                clear hbt hBT
                by_cases hk1 : k1 = n
                · skip
                  have hk1b : ((k1 : Int) == (n : Int)) = true := by rw [beq_iff_eq]; omega
                  have HKE := hide hk1
                  clear hk1
                  by_cases hg : gn < 0
                  · have hgd : decide (gn < 0) = true := decide_eq_true hg
                    go_wp2_with (first | (go_at_call 29; ((with_reducible refine (HBH.out _).mono ?_); rintro e wz ⟨rfl, hwz⟩; have hwz := hwz.symm; subst hwz; clear HBH)) | fail)
                    go_meet
                    exact ⟨rfl, by rw [HBT.out, decide_eq_true HKE.out, hgd]; simp⟩
                  · have hgd : decide (gn < 0) = false := decide_eq_false hg
                    go_wp2_with (fail)
                    go_meet
                    exact ⟨rfl, by rw [hgd]; simp⟩
                · skip
                  have hk1b : ((k1 : Int) == (n : Int)) = false := by rw [beq_eq_false_iff_ne]; omega
                  go_wp2_with (fail)
                  go_meet
                  exact ⟨rfl, by rw [decide_eq_false hk1]; simp⟩
              case rest =>
                obtain ⟨hw9, rfl⟩ := hcut
                subst hw9
                obtain ⟨w2, hw2⟩ : ∃ w2, w2 = wc := ⟨_, rfl⟩
                subst hw2
                by_cases hbad : gn < 0 ∧ k1 = n ∧ (hasP t preAt || hasP t preDots) = true
                · skip
                  have E := hide (show RR = (none, k1 + 1) by
                    rcases HPH.out with ⟨h1, h2, h3, h4⟩ | ⟨g, h1, h2, h3⟩
                    · rw [← HRK.out]; exact inn_end (by rw [h4, innTail_cut h3 (by rw [hbad.2.2, HLEN.out, decide_eq_true hbad.2.1]; rfl)])
                    · exfalso; have := hbad.1; omega)
                  have hbv : (decide (gn < 0) && (decide (k1 = n) && (hasP t preAt || hasP t preDots))) = true := by rw [hbad.2.2, decide_eq_true hbad.1, decide_eq_true hbad.2.1]; rfl
                  rw [hbv]
                  clear hbv hbad
                  go_wp2_with (fail)
                  refine bodyPost_ret (by simp [results, Tryz.results14, go_sem]; try rfl) rfl ?_
                  exact ⟨RfOut.bad E.out (by omega), HB2.out⟩
                · skip
                  have hbv : (decide (gn < 0) && (decide (k1 = n) && (hasP t preAt || hasP t preDots))) = false := by
                    rw [Bool.eq_false_iff]
                    intro h9
                    simp only [Bool.and_eq_true, decide_eq_true_eq] at h9
                    exact hbad ⟨h9.1, h9.2.1, h9.2.2⟩
                  rw [hbv]
                  have HS1 := hide (show fs.length ≤ k1 ∧ ((gn = -1 ∧ innStep L t k (l.map FaultT.flt) (preOf l) = innShr (k + 2) k1 X Y fs (-1) (l.map FaultT.flt)) ∨ (0 ≤ gn ∧ innStep L t k (l.map FaultT.flt) (preOf l) = .inr (k1, l.map FaultT.flt ++ [⟨X, Y, fs⟩]))) by
                    rcases HPH.out with ⟨h1, h2, h3, h4⟩ | ⟨g, h1, h2, h3⟩
                    · have h7 : (decide (k1 = L.length) && (hasP t preAt || hasP t preDots)) = false := by
                        rw [Bool.eq_false_iff]
                        intro h9
                        simp only [Bool.and_eq_true, decide_eq_true_eq] at h9
                        exact hbad ⟨by omega, by rw [h9.1, HLEN.out], h9.2⟩
                      exact ⟨by omega, .inl ⟨h1, by rw [h4]; exact innTail_none h3 h7⟩⟩
                    · exact ⟨h2, .inr ⟨by omega, h3⟩⟩)
                  clear hbv hbad HPH
                  go_upto_region 38 with (fail)
                  go_cut [201] from 201 to 201 (fun b wx => wx = w2 ∧ b = .bool (decide (gn < 0) && decide (0 < l.length)))
                  case first =>
                    by_cases hg : gn < 0
                    · skip
                      have hgd : decide (gn < 0) = true := decide_eq_true hg
                      go_wp2_with (fail)
                      go_meet
                      exact ⟨rfl, by rw [hgd]; simp⟩
                    · skip
                      have hgd : decide (gn < 0) = false := decide_eq_false hg
                      go_wp2_with (fail)
                      go_meet
                      exact ⟨rfl, by rw [hgd]; simp⟩
                  case rest =>
                    obtain ⟨hw9, rfl⟩ := hcut
                    subst hw9
                    obtain ⟨w2, hw2⟩ : ∃ w2, w2 = wc := ⟨_, rfl⟩
                    subst hw2
                    obtain ⟨hfk, _⟩ := HS1.out
                    go_upto_if 201 with (fail)
                    go_cut [6] from 201 to 201 (fun s6 wx => s6 = .slice lA l.length lc ∧ FBox w1.heap.size X Y (.slice A2 fs.length c2) fs wx ∧ Below w1.heap.size w1 wx ∧ innStep L t k (l.map FaultT.flt) (preOf l) = .inr (k1, l.map FaultT.flt ++ [⟨X, Y, fs⟩]))
                    case first =>
                      by_cases hgl : gn < 0 ∧ ¬ l.length = 0
                      · skip
                        have hl0 := hgl.2
                        rw [decide_eq_true hgl.1]
                        obtain ⟨m, hlm⟩ : ∃ m, l.length = m + 1 := ⟨l.length - 1, by omega⟩
                        obtain ⟨lg, lcap, lcur, hlv, _, _, _, _, _, _⟩ := own_blk HF.out.out (by omega)
                        simp at hlv
                        obtain ⟨rfl, rfl⟩ := hlv
                        obtain ⟨⟨xk, xt, XA, xn, xc, xfr⟩, hxm⟩ : ∃ xl, l[m]? = some xl := ⟨_, List.getElem?_eq_getElem (by omega)⟩
                        have hxl : l.getLast? = some ⟨xk, xt, XA, xn, xc, xfr⟩ := by rw [List.getLast?_eq_getElem?, hlm]; simpa using hxm
                        have hlT : lastT l = some xfr := by unfold lastT; rw [hxl]; rfl
                        have HLL := hide hlm
                        rw [hlm]
                        have hli : (((m : Int) + 1) == 0) = false := by rw [beq_eq_false_iff_ne]; omega
                        have hli2 : (0 : Int) < (m : Int) + 1 := by omega
                        have hlm2 : m + 1 ≤ k := by omega
                        have hwm : IntKind.i64.wrap (m : Int) = (m : Int) := IntWalk.i64_in _ (by omega)
                        have hlm3 : (m : Int) < (m : Int) + 1 := by omega
                        have HCL := hide (show ∀ W, Below w1.heap.size w1 W → W.cell? ⟨lg, m * 3 + 2, none⟩ = some (.slice XA xn xc) ∧ Sl W w1.heap.size Frame.cs 6 XA xn xfr from fun W hb => by
                          have hp := HT1.out.pass (KeepB.of_below hb (Nat.le_refl _) (Nat.le_refl _)) (.inr (Nat.le_refl _))
                          refine ⟨?_, (hp.2 _ hxl).1⟩
                          obtain ⟨b9, o9, e9, _, hc9⟩ := hp.1.cells (by omega)
                          simp at e9
                          obtain ⟨rfl, rfl⟩ := e9
                          have h9 := hc9 m _ hxm 2 _ rfl
                          simpa using h9)
                        have hxok := (HT1.out.pass (KeepB.refl _ _ _) (.inr (Nat.le_refl _))).2 _ hxl
                        have hxnc : xn ≤ xc := hxok.2.nc
                        have hxff : FramesFit xfr := hxok.2.ff
                        have hxL : xfr.length = xn := hxok.1.len
                        have hxk : xfr.length ≤ k := hll.out _ (List.mem_of_getElem? hxm)
                        clear hxok hlm hl0
                        have hld : decide (0 < m + 1) = true := decide_eq_true (by omega)
                        rw [hld]
                        obtain ⟨SN, hSN⟩ : ∃ SN, sharedN xfr fs = SN := ⟨_, rfl⟩
                        have hSNle : SN ≤ fs.length := hSN ▸ sharedN_le xfr fs
                        have HSF := hide (fun W (hb : Below w1.heap.size w1 W) (hf : FBox w1.heap.size X Y (.slice A2 fs.length c2) fs W) => SharedOf_any XA xn xc A2 fs.length c2 xfr fs W (by unfold maxLen; omega) (by unfold maxLen; omega) (((HCL.out W hb).2).more hb.size) hf.sl)
                        simp only [hSN] at HSF
                        have HSS := hide (show innStep L t k (l.map FaultT.flt) (preOf l) = if 0 < (if 2 ≤ SN then k + 2 + fs.length - SN else 0) then .inl (none, if 2 ≤ SN then k + 2 + fs.length - SN else 0) else .inr (k1, l.map FaultT.flt ++ [⟨X, Y, fs⟩]) by
                          rcases HS1.out.2 with ⟨_, h9⟩ | ⟨h9, _⟩
                          · rw [h9]; unfold innShr; rw [lastF_map, hlT, shr_minus, hSN]
                          · exfalso; have := hgl.1; omega)
                        obtain ⟨cl2, _⟩ := HCL.out w2 HK2.out
                        have f2 : w2.cell? ⟨w1.heap.size, 2, none⟩ = some (.slice A2 fs.length c2) := (block_cell HF2.out.box 2).trans rfl
                        clear hSN hgl hld
                        go_wp2_with (fail)
                        refine wp_region_chain (fun W => W.cell? ⟨lg, m * 3 + 2, none⟩ = some (.slice XA xn xc) ∧ W.cell? ⟨w1.heap.size, 2, none⟩ = some (.slice A2 fs.length c2)) 10 (by as_aux_lemma => kernel_rfl) (N := 11) (by as_aux_lemma => kernel_rfl) ?_; intro hsh
                        have HS : w2.drew.cell? ⟨lg, m * 3 + 2, none⟩ = some (.slice XA xn xc) ∧ w2.drew.cell? ⟨w1.heap.size, 2, none⟩ = some (.slice A2 fs.length c2) := ⟨cl2, f2⟩
                        refine wpAnyC_take0 (i := 0) (k := 10) (v := ?_) (d := some 202) rfl (by rfl) (by as_aux_lemma => kernel_rfl) (by as_aux_lemma => kernel_rfl) (by as_aux_lemma => kernel_rfl) hsh (by decide) (by intro _ _ _ h; exact h) (by assumption) (Or.inl ⟨by rfl, ?hy⟩) ?_; (case hy => (intro W _; go_simp; (try with_reducible rfl))); clear hsh; intro hsh
                        refine wpAnyC_take0 (i := 1) (k := 10) (v := ?_) (d := some 203) rfl (by rfl) (by as_aux_lemma => kernel_rfl) (by as_aux_lemma => kernel_rfl) (by as_aux_lemma => kernel_rfl) hsh (by decide) (by intro _ _ _ h; exact h) (by assumption) (Or.inl ⟨by rfl, ?hy⟩) ?_; (case hy => (intro W _; go_simp; (try with_reducible rfl))); clear hsh; intro hsh
                        refine wpAnyC_take0 (i := 2) (k := 10) (v := ?_) (d := some 204) rfl (by rfl) (by as_aux_lemma => kernel_rfl) (by as_aux_lemma => kernel_rfl) (by as_aux_lemma => kernel_rfl) hsh (by decide) (by intro _ _ _ h; exact h) (by assumption) (Or.inl ⟨by rfl, ?hy⟩) ?_; (case hy => (intro W _; go_simp; (try with_reducible rfl))); clear hsh; intro hsh
                        refine wpAnyC_take0 (i := 3) (k := 10) (v := ?_) (d := some 205) rfl (by rfl) (by as_aux_lemma => kernel_rfl) (by as_aux_lemma => kernel_rfl) (by as_aux_lemma => kernel_rfl) hsh (by decide) (by intro _ _ _ h; exact h) (by assumption) (Or.inl ⟨by rfl, ?hy⟩) ?_; (case hy => (intro W _; go_simp; (try with_reducible rfl))); clear hsh; intro hsh
                        refine wpAnyC_take0 (i := 4) (k := 10) (v := ?_) (d := some 206) rfl (by rfl) (by as_aux_lemma => kernel_rfl) (by as_aux_lemma => kernel_rfl) (by as_aux_lemma => kernel_rfl) hsh (by decide) (by intro _ _ _ h; exact h) (by assumption) (Or.inl ⟨by rfl, ?hy⟩) ?_; (case hy => (intro W _; go_simp; (try with_reducible rfl))); clear hsh; intro hsh
                        refine wpAnyC_take0 (i := 5) (k := 10) (v := ?_) (d := some 207) rfl (by rfl) (by as_aux_lemma => kernel_rfl) (by as_aux_lemma => kernel_rfl) (by as_aux_lemma => kernel_rfl) hsh (by decide) (by intro _ _ _ h; exact h) (by assumption) (Or.inl ⟨by rfl, ?hy⟩) ?_; (case hy => (intro W _; go_simp; (try with_reducible rfl))); clear hsh; intro hsh
                        refine wpAnyC_take (i := 6) (k := 10) (f := 40) (v := ?_) (d := some 208) rfl (by rfl) (by as_aux_lemma => kernel_rfl) (by as_aux_lemma => kernel_rfl) (by as_aux_lemma => kernel_rfl) hsh (by decide) (by as_aux_lemma => kernel_rfl) (by intro _ _ _ h; exact h) (by assumption) (Or.inl ⟨by rfl, ?hy⟩) ?_; (case hy => (rintro W ⟨y0, y1⟩; go_simp; (try with_reducible rfl))); clear hsh; intro hsh
                        refine wpAnyC_take0 (i := 7) (k := 10) (v := ?_) (d := some 209) rfl (by rfl) (by as_aux_lemma => kernel_rfl) (by as_aux_lemma => kernel_rfl) (by as_aux_lemma => kernel_rfl) hsh (by decide) (by intro _ _ _ h; exact h) (by assumption) (Or.inl ⟨by rfl, ?hy⟩) ?_; (case hy => (intro W _; go_simp; (try with_reducible rfl))); clear hsh; intro hsh
                        refine wpAnyC_take (i := 8) (k := 10) (f := 40) (v := ?_) (d := some 210) rfl (by rfl) (by as_aux_lemma => kernel_rfl) (by as_aux_lemma => kernel_rfl) (by as_aux_lemma => kernel_rfl) hsh (by decide) (by as_aux_lemma => kernel_rfl) (by intro _ _ _ h; exact h) (by assumption) (Or.inl ⟨by rfl, ?hy⟩) ?_; (case hy => (rintro W ⟨y0, y1⟩; go_simp; (try with_reducible rfl))); clear hsh; intro hsh
                        refine wpAnyC_ready (rs := [9]) (by as_aux_lemma => kernel_rfl) (by simp) ?_; refine AllC.cons (i := 9) rfl (by as_aux_lemma => kernel_rfl) hsh (fun K hK => ?_) AllC.nil
                        go_simp
                        go_at_call 33
                        have hbd1 : Below w2.heap.size w2 w2.drew := below_drewN (Below.refl _ _) 1
                        refine (HSF.out w2.drew (HK2.out.trans (hbd1.mono hz2)) (HF2.out.below hbd1)).mono ?_
                        rintro e w3 ⟨rfl, hb3⟩
                        have hb3' : Below w2.heap.size w2 w3 := hbd1.trans hb3
                        have HF3 := hide (HF2.out.below hb3')
                        have HK3 := hide (HK2.out.trans (hb3'.mono hz2))
                        have HB3 := hide (HB2.out.trans (hb3'.mono HB2.out.size))
                        obtain ⟨cl3, _⟩ := HCL.out w3 HK3.out
                        have f3 : w3.cell? ⟨w1.heap.size, 2, none⟩ = some (.slice A2 fs.length c2) := (block_cell HF3.out.box 2).trans rfl
                        try go_simp
                        refine hK _ _ (fun _ => ⟨cl3, f3⟩) ?_
                        clear hK K hsh HS hb3 hb3' HSF hbd1
                        intro hsh
                        refine wpAnyC_tail (by as_aux_lemma => kernel_rfl) (by simp) (by as_aux_lemma => kernel_rfl) ?_; simp only [List.drop_succ_cons, List.drop_zero]; clear hsh
                        by_cases hs2 : 2 ≤ SN
                        · skip
                          have E := hide (show RR = (none, k + 2 + fs.length - SN) by rw [← HRK.out]; exact inn_end (by rw [HSS.out, if_pos hs2, if_pos (by omega)]))
                          have hs2i : (2 : Int) ≤ (SN : Int) := by omega
                          go_simp
                          go_wp2_with (go_quiet (fail))
                          have hbl : ∀ q, Below w.heap.size w (w3.drewN q) := fun q => below_drewN HB3.out q
                          refine bodyPost_ret (by simp [results, Tryz.results14, go_sem]; try rfl) rfl ?_
                          first | exact ⟨RfOut.bad E.out (by omega), hbl _⟩ | exact ⟨RfOut.bad E.out (by omega), HB3.out⟩
                        · skip
                          have HST := hide (show innStep L t k (l.map FaultT.flt) (preOf l) = .inr (k1, l.map FaultT.flt ++ [⟨X, Y, fs⟩]) by rw [HSS.out, if_neg hs2]; rfl)
                          have hs2i : ¬ (2 : Int) ≤ (SN : Int) := by omega
                          go_simp
                          go_wp2_with (fail)
                          go_meet
                          exact ⟨by rw [HLL.out], HF3.out, HK3.out, HST.out⟩
                      · skip
                        have hbv : (decide (gn < 0) && decide (0 < l.length)) = false := by
                          rw [Bool.eq_false_iff]
                          intro h9
                          simp only [Bool.and_eq_true, decide_eq_true_eq] at h9
                          exact hgl ⟨h9.1, by omega⟩
                        rw [hbv]
                        have HST := hide (show innStep L t k (l.map FaultT.flt) (preOf l) = .inr (k1, l.map FaultT.flt ++ [⟨X, Y, fs⟩]) by
                          rcases HS1.out.2 with ⟨h8, h9⟩ | ⟨_, h9⟩
                          · have hl0 : l = [] := by
                              cases l with
                              | nil => rfl
                              | cons a b => exact absurd ⟨by omega, by simp⟩ hgl
                            have hlT : lastT l = none := by rw [hl0]; rfl
                            rw [h9]; unfold innShr; rw [lastF_map, hlT, shr_none]; rfl
                          · exact h9)
                        clear hbv hgl
                        go_wp2_with (fail)
                        go_meet
                        exact ⟨rfl, HF2.out, HK2.out, HST.out⟩
                    case rest =>
                      obtain ⟨rfl, hF9, hK9, hst9⟩ := hcut
                      obtain ⟨wr, hwr9⟩ : ∃ wr9, wr9 = wc := ⟨_, rfl⟩
                      subst hwr9
                      clear HF2 HK2 HB2 hz2 HLN2
                      have HF2 := hide hF9
                      have HK2 := hide hK9
                      have HB2 := hide (HB1.out.trans (hK9.mono hz1))
                      have HST := hide hst9
                      have hz2 := hK9.size
                      have hF2lt := hF9.lt
                      clear hF9 hK9 hst9 HS1
                      have HRL := hide (show ((¬ k1 = n ∧ innR L t (L.length - k1 + 1) k1 (l.map FaultT.flt ++ [⟨X, Y, fs⟩]) preCaused = RR) ∨ (k1 = n ∧ RR = (some (l.map FaultT.flt ++ [⟨X, Y, fs⟩]), 0))) by
                        by_cases hke : k1 = n
                        · exact .inr ⟨hke, by rw [← HRK.out]; exact inn_last (by rw [HST.out, hke, HLEN.out])⟩
                        · exact .inl ⟨hke, by rw [← HRK.out]; exact (inn_step HST.out (by rw [HLEN.out]; omega)).symm⟩)
                      have HT7 := hide (HT1.out.keep (p := w1.heap.size) (F := w1.heap.size) (KeepB.of_below HK2.out (Nat.le_refl _) (Nat.le_refl _)) (Nat.le_refl _) (.inr (Nat.le_refl _)))
                      have hx7 := HF2.out.flt (B := w.heap.size) zx zy (by omega) (by omega)
                      have HX7 : Hid ((FaultT.mk X Y A2 fs.length c2 fs).ok wr ∧ FIn w.heap.size wr (FaultT.mk X Y A2 fs.length c2 fs)) := hide (by obtain ⟨a9, c9, e9, h9⟩ := hx7; simp at e9; obtain ⟨rfl, rfl⟩ := e9; exact h9)
                      clear hx7
                      have z0 : wr.cell? ⟨w1.heap.size, 0, none⟩ = some (.string X) := (block_cell HF2.out.box 0).trans rfl
                      have z1 : wr.cell? ⟨w1.heap.size, 1, none⟩ = some (.string Y) := (block_cell HF2.out.box 1).trans rfl
                      have z2 : wr.cell? ⟨w1.heap.size, 2, none⟩ = some (.slice A2 fs.length c2) := (block_cell HF2.out.box 2).trans rfl
                      have HAL := hide (fun ob : Obj => (Below.refl wr.heap.size wr).alloc (Nat.le_refl _) ob)
                      have HO7 : Hid (wr.ownsRow w.heap.size 40 3 (.slice lA l.length lc) l.length (l.flatMap FaultT.cs)) := hide (HT7.out.out)
                      have HB7 := HB2
                      go_wp2_with (first | (at_builtin; refine wpList_append_own _ rfl (.tmp 222) (.tmp 224) 22 rfl w.heap.size 40 i0 (.agg #[.string ByteArray.empty, .string ByteArray.empty, .slice none 0 0]) 3 56 Tryz.underlying22 hi0 iz0 iz1 iz2 rfl (by decide) (.slice lA l.length lc) l.length (l.flatMap FaultT.cs) rfl (HO7.out.alloc _) ⟨wr.heap.size, 0, none⟩ 1 1 [.string X, .string Y, .slice A2 fs.length c2] rfl rfl (cells_at _ [.string X, .string Y, .slice A2 fs.length c2] _ _ rfl) (by intro u hu; simp at hu; rcases hu with rfl | rfl | rfl <;> rfl) (by unfold maxLen; omega) (by omega) (by simp; omega) ?_; intro v8 w8 hown8 hg8 _; obtain ⟨A8, c8, rfl⟩ := own_sl hown8; have hlo8 := HT7.out.out.lt; have HT8 := hide ((HT7.out.below (HAL.out _)).push (x := ⟨X, Y, A2, fs.length, c2, fs⟩) hg8 (hown8) (HX7.out.1.up (HAL.out _)) (HX7.out.2.up (HAL.out _))); have HB8 := hide ((HB7.out.trans ((HAL.out _).mono HB7.out.size)).grown hg8 (Nat.le_trans HB7.out.size (HAL.out _).size) (fun j hj => (hlo8 j hj).1)); clear hown8 hg8 hlo8) | fail)
                      go_roundw
                      case rel =>
                        have hall : ∀ x ∈ l ++ [(⟨X, Y, A2, fs.length, c2, fs⟩ : FaultT)], x.frs.length ≤ k1 := fun x hx => by
                          rcases List.mem_append.1 hx with hx | hx
                          · have := hll.out x hx; omega
                          · simp at hx; subst hx; show fs.length ≤ _; omega
                        refine ⟨l ++ [⟨X, Y, A2, fs.length, c2, fs⟩], k1, rfl, hk1n, HB8.out, HT8.out, by rw [List.length_append]; simp; omega, hide hall, ?_⟩
                        rcases HRL.out with ⟨h1, h2⟩ | ⟨h1, h2⟩
                        · exact .inl ⟨.inr (by omega), by rw [List.map_append, preOf_cons]; exact h2⟩
                        · exact .inr ⟨by rw [List.length_append]; simp, h1, by rw [List.map_append]; exact h2⟩
                      case measure => simp [intOf]; omega
      · skip
        have hl0 : l.length = 0 := by omega
        have hln : l = [] := List.eq_nil_of_length_eq_zero hl0
        subst hln
        have hke : k = n := by omega
        have E := hide (show RR = (none, k + 1) by rw [← HRK.out]; exact inn_end (by unfold innStep fltS; rw [begK_out (by have := HLEN.out; omega)]; rfl))
        have hkb : ((k : Int) == (n : Int)) = true := by rw [beq_iff_eq]; omega
        have hkl : ¬ (k : Int) < (n : Int) := by omega
        clear hke
        go_wp2_with (fail)
        refine bodyPost_ret (by simp [results, Tryz.results14, go_sem]; try rfl) rfl ?_
        exact ⟨RfOut.bad E.out (by omega), HB.out⟩
    · skip
      have hkl : ¬ (k : Int) < (n : Int) := by omega
      have hll : ¬ (l.length : Int) = 0 := by omega
      have hlb : ((l.length : Int) == 0) = false := by rw [beq_eq_false_iff_ne]; exact hll
      have E := hide hRR
      have HKE := hide hke
      clear hRR hke
      go_wp2_with (fail)
      refine bodyPost_ret (by simp [results, Tryz.results14, go_sem]; try rfl) rfl ?_
      exact ⟨⟨_, l, -1, rfl, by rw [E.out]; rfl, HF.out, by rw [E.out]; rfl⟩, HB.out⟩
end Go.Proofs.YtkjpojaanocfjaaGreatDoor
