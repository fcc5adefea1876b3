/- Walk of AlertForgets (printed by gen_am.py). -/
import Derived.Test.YtpjfihdbbgencaaDoorAlFoL
import Derived.Test.YtpjfihdbbgencaaDoorAlAwk
import Derived.Test.YtpjfihdbbgencaaDoorAlTrn
import Derived.BigQuiet
namespace Go.Proofs.YtpjfihdbbgencaaDoor
open Go.RowKit
set_option linter.unusedVariables false
set_option linter.unusedSimpArgs false
theorem k_size : (⟨#[107]⟩ : ByteArray).size ≤ maxLen := by show 1 ≤ maxLen; unfold maxLen; omega
/-- What stands when j counts are done. -/
def FoI (W : World) (Ba pa Bb pb : Nat) (l : List Rl) (g : Int) (j : Nat) (t : Int) (w : World) : Prop :=
  ∃ (Ta Tb : Nat → Prop) (ws : List Wd) (cs cs2 : List Ct) (ks : List Bool) (wat watb : Int), PW Ba pa Ta ws cs wat g w ∧ PW Bb pb Tb (l.map (wd0 0)) cs2 watb g w ∧ (∀ k, Ta k → ¬ Tb k) ∧ Pl ws cs cs2 ks wat g (2 * j) ∧ ws.map (·.r) = l ∧ wat ≤ t ∧ watb ≤ t ∧ 0 ≤ watb ∧ 0 ≤ t ∧ t ≤ 604800 * j ∧ Below W.heap.size W w
set_option maxRecDepth 100000 in
set_option maxHeartbeats 16000000 in
theorem AlertForgets_bad (A0 A1 A2 : Option Addr) (n0 c0 n1 c1 n2 c2 : Nat) (l : List Rl) (w : World) (htab : Lib.TabIs Tryd.prog w "internal/strconv.uint64pow10" .u64 Lib.pow10Tab) (hn0 : n0 ≤ maxLen) (hl : Sl w w.heap.size Rl.cs 7 A0 n0 l) (hf : RlFit l) (hE : rlErr l ≠ 0) :
    Calls Tryd.prog 5 #[.slice A0 n0 c0, .slice A1 n1 c1, .slice A2 n2 c2] w fun e w' => e = .returned (.bool true) ∧ Below w.heap.size w w' := by
  have CA := hide (awakeAlert_any w htab)
  have HL := hide hl
  obtain ⟨E, hEE⟩ : ∃ E, rlErr l = E := ⟨_, rfl⟩
  have CN := hide (fun W (h : Sl W W.heap.size Rl.cs 7 A0 n0 l) => hEE ▸ nNewWatch_rules n0 c0 A0 l 0 W hn0 h hf hE)
  rw [hEE] at hE
  have hE' : (E == 0) = false := by simpa using hE
  clear hl htab hf hEE
  go_enter Tryd.func5, Tryd.ntmps5
  go_wp2_with (first | (go_at_call 15; refine CA.out.mono ?_; rintro e w1 ⟨rfl, hw1⟩) | (go_at_call 16; refine (CN.out w1 (Sl.up HL.out hw1)).mono ?_; rintro e w2 ⟨rfl, hw2⟩; have hB2 := hw1.trans (hw2.mono hw1.size)) | (go_at_call 16; refine (CN.out w2 (Sl.up HL.out hB2)).mono ?_; rintro e w3 ⟨rfl, hw3⟩; have hB3 := hB2.trans (hw3.mono hB2.size)))
  go_ret
  exact ⟨rfl, hB3⟩
set_option maxRecDepth 100000 in
set_option maxHeartbeats 16000000 in
theorem AlertForgets_ok (A0 A1 A2 : Option Addr) (n0 c0 n1 c1 n2 c2 : Nat) (l : List Rl) (kl tl : List Int) (w : World) (htab : Lib.TabIs Tryd.prog w "internal/strconv.uint64pow10" .u64 Lib.pow10Tab) (hn0 : n0 ≤ maxLen) (hn1 : n1 ≤ maxLen) (hn2 : n2 ≤ maxLen) (hnc1 : n1 ≤ c1) (hl : Sl w w.heap.size Rl.cs 7 A0 n0 l) (hf : RlFit l) (hk : Sl w w.heap.size ci 1 A1 n1 kl) (ht : Sl w w.heap.size ci 1 A2 n2 tl) (hE : rlErr l = 0) :
    Calls Tryd.prog 5 #[.slice A0 n0 c0, .slice A1 n1 c1, .slice A2 n2 c2] w fun e w' => e = .returned (.bool true) ∧ Below w.heap.size w w' := by
  unfold maxLen at hn1 hn2
  have CA := hide (awakeAlert_any w htab)
  have HL := hide hl
  have HK := hide hk
  have HT := hide ht
  have CN := hide (fun W (h : Sl W W.heap.size Rl.cs 7 A0 n0 l) => NewWatch_pw n0 c0 A0 l W hn0 h hf hE)
  obtain ⟨hl50, hlo⟩ := rl_ok hE
  obtain ⟨g, hg⟩ : ∃ g, lng l = g := ⟨_, rfl⟩
  have HPL0 := hide (show Pl (l.map (wd0 0)) [] [] [] 0 g 0 from ⟨by rw [← hg, List.map_map]; exact congrArg lng (by simp [wd0, Function.comp_def]), rfl, rfl, fun i c hc _ => by simp at hc, fun c hc => by simp at hc, Nat.le_refl _, fun x hx => by
    obtain ⟨y, hy, rfl⟩ := List.mem_map.1 hx
    have := hlo y hy
    exact ⟨this.1, this.2.1, this.2.2.1, this.2.2.2, by simp [wd0], by simp [wd0], by simp [wd0], by simp [wd0]⟩, by decide⟩)
  have HLO := hide hlo
  rw [hg] at CN
  clear hl htab hE hk ht hg hlo hf
  obtain ⟨kk, hkk⟩ : ∃ kk : Nat, min n1 60 = kk := ⟨_, rfl⟩
  have hk60 : kk ≤ 60 := by omega
  have hk2 : kk ≤ n1 := by omega
  have hg01 := HPL0.out.g0
  go_enter Tryd.func5, Tryd.ntmps5
  go_wp2_with (first | (go_at_call 15; refine CA.out.mono ?_; rintro e w1 ⟨rfl, hw1⟩; have HB1 := hide hw1; clear hw1) | (go_at_call 16; refine (CN.out w1 (Sl.up HL.out HB1.out)).mono ?_; rintro e w2 ⟨pa, Ta0, rfl, hp0, hw2, hT0⟩; have HA0 := hide hp0; have HB2 := hide (HB1.out.trans (hw2.mono HB1.out.size)); have hz1 := HB1.out.size; have hz2 := hw2.size; have HTa := hide hT0; clear hp0 hw2 hT0) | (go_at_call 16; refine (CN.out w2 (Sl.up HL.out HB2.out)).mono ?_; rintro e w3 ⟨pb, Tb0, rfl, hp0, hw3, hT0⟩; have HB0 := hide hp0; have HA1 := hide (HA0.out.below hw3); have HD0 := hide (show ∀ k, Ta0 k → ¬ Tb0 k from fun k hk h => by have := HA0.out.lt k hk; have := hT0 k h; omega); have HW0 := hide (HB2.out.trans (hw3.mono HB2.out.size)); clear hp0 hw3 hT0))
  have HWR0 := hide (show (l.map (wd0 0)).map (·.r) = l by rw [List.map_map]; simp [wd0, Function.comp_def])
  obtain ⟨Ba, hBa⟩ : ∃ q, w1.heap.size = q := ⟨_, rfl⟩
  obtain ⟨Bb, hBb⟩ : ∃ q, w2.heap.size = q := ⟨_, rfl⟩
  rw [hBa] at HA1 hz1
  rw [hBb] at HB0 hz2
  have hwa : w.heap.size ≤ Ba := hz1
  have hwb0 : w.heap.size ≤ Bb := by omega
  clear HA0 HB2 HB1 HTa CA CN hBa hBb hz1 hz2
  go_loopw [11, 50] (fun t i wr => ∃ (j : Nat) (tv : Int), j ≤ kk ∧ i = .int .i64 j ∧ t = .int .i64 tv ∧ FoI w Ba pa Bb pb l g j tv wr) (fun _ i _ => kk - (intOf i).toNat)
  case atStart => exact ⟨0, 0, Nat.zero_le _, rfl, rfl, ⟨Ta0, Tb0, _, [], [], [], 0, 0, HA1.out, HB0.out, HD0.out, HPL0.out, HWR0.out, by decide, by decide, by decide, by decide, by decide, HW0.out⟩⟩
  case round =>
    obtain ⟨j, tv, hj, rfl, rfl, Ta, Tb, ws, cs, cs2, ks, wat, watb, hA, hB, hD, hPL, hWR, hwt, hwb, hwb1, ht0, ht6, hW⟩ := hrel
    by_cases hlt : j < kk
    · obtain ⟨bb, oo, kv, rfl, hbb, hx, hc⟩ := (HK.out.below hW).at_ (show j < n1 by omega)
      have d0 : wr.cell? ⟨bb, oo + j, none⟩ = some (.int .i64 kv) := by simpa using hc 0 _ rfl
      have HA := hide hA
      have HB := hide hB
      have HD := hide hD
      have HPL := hide hPL
      have HWR := hide hWR
      have HW := hide hW
      have hwl : ws.length ≤ 50 := by rw [← List.length_map (f := (·.r)), hWR]; exact hl50
      clear hA hB hD hPL hWR hW hc hx
      by_cases hj2 : j < n2
      · obtain ⟨kb, ko, d, rfl, hkb, hkx, hkc⟩ := (HT.out.below HW.out).at_ hj2
        have k0 : wr.cell? ⟨kb, ko + j, none⟩ = some (.int .i64 d) := by simpa using hkc 0 _ rfl
        have hjd : decide ((j : Int) < (n2 : Int)) = true := by simp; omega
        clear hkc hkx
        by_cases hd0 : 0 < d
        · have hd0' : decide (0 < d) = true := by simpa using hd0
          by_cases hd1 : d < 604800
          · have hd1' : decide (d < 604800) = true := by simpa using hd1
            obtain ⟨tq, htq⟩ : ∃ q, tv + d = q := ⟨_, rfl⟩
            have hmo := momB_of (t := tq) (by omega) (by omega)
            obtain ⟨E, hEE⟩ : ∃ E, cntErr ⟨#[107]⟩ tq kv wat = E := ⟨_, rfl⟩
            have hEb : cntErr ⟨#[107]⟩ tq kv watb = E := (cntErr_same (by omega) (by omega)).trans hEE
            obtain ⟨cs3, cs23, ks3, wat3, wb3, hcs3, hwat3, hcs23, hwb3, hpl3, hwt4, hwb4, hwb40⟩ := count_two HPL.out (key := ⟨#[107]⟩) k_size (t := tq) (n := kv) (wb := watb) (by omega) (by omega) hwb1
            have HPL4 := hide hpl3
            clear hpl3
            go_wp2_with (first | (go_at_call 17; (refine (Count_pw HA.out ⟨#[107]⟩ tq kv k_size (by have := HPL.out.le; omega)).mono ?_; rintro e w3 ⟨Ta3, rfl, hp3, hk3, ht3⟩; rw [hcs3, hwat3] at hp3; have HA3 := hide hp3; have HB3 := hide (HB.out.keep hk3 (fun k hk h => HD.out k h hk)); have HD3 := hide (show ∀ k, Ta3 k → ¬ Tb k from fun k hk h => by rcases ht3 k hk with hh | hh; (exact HD.out k hh h); (have := HB.out.lt k h; omega)); have HW3 := hide (HW.out.trans (hk3.be.mono hwa)); have hz3 := hk3.be.size; clear hp3 hk3 ht3 HA HB HD HW)) | (go_at_call 17; (refine (Count_pw HB3.out ⟨#[107]⟩ tq kv k_size (by have := HPL.out.hq; omega)).mono ?_; rintro e w4 ⟨Tb4, rfl, hp4, hk4, ht4⟩; rw [hcs23, hwb3] at hp4; have HB4 := hide hp4; have HA4 := hide (HA3.out.keep hk4 HD3.out); have HD4 := hide (show ∀ k, Ta3 k → ¬ Tb4 k from fun k hk h => by rcases ht4 k h with hh | hh; (exact HD3.out k hk hh); (have := HA3.out.lt k hk; omega)); have HW4 := hide (HW3.out.trans (hk4.be.mono hwb0)); have hz4 := hk4.be.size; clear hp4 hk4 ht4 HA3 HB3 HD3 HW3)) | (go_at_call 18; refine (Tick_pw HA4.out tq hmo (by omega) (by omega) HPL4.out.hok HPL4.out.w0 (HPL4.out.fit (by omega)) hg01.1 hg01.2).mono ?_; rintro e w5 ⟨ov, rfl, hp5, hv5, hk5⟩; have HA5 := hide hp5; have HB5 := hide (HB4.out.keep hk5 (fun k hk h => HD4.out k h hk)); have HPL5 := hide (HPL4.out.tick (sl := []) (t := tq) hwt4); have HW5 := hide (HW4.out.trans (hk5.be.mono hwa)); clear hp5 hv5 hk5))
            go_roundw
            case rel => exact ⟨j + 1, tq, by omega, by go_num, rfl, ⟨Ta3, Tb4, _, _, cs23, _, tq, wb3, HA5.out, HB5.out, HD4.out, HPL5.out, by rw [List.map_map]; exact HWR.out, Int.le_refl _, hwb4, hwb40, by omega, by omega, HW5.out⟩⟩
            case measure => simp [intOf]; omega
          · have hd1' : decide (d < 604800) = false := by simpa using hd1
            obtain ⟨tq, rfl⟩ : ∃ q, q = tv := ⟨_, rfl⟩
            have hmo := momB_of (t := tq) (by omega) (by omega)
            obtain ⟨E, hEE⟩ : ∃ E, cntErr ⟨#[107]⟩ tq kv wat = E := ⟨_, rfl⟩
            have hEb : cntErr ⟨#[107]⟩ tq kv watb = E := (cntErr_same (by omega) (by omega)).trans hEE
            obtain ⟨cs3, cs23, ks3, wat3, wb3, hcs3, hwat3, hcs23, hwb3, hpl3, hwt4, hwb4, hwb40⟩ := count_two HPL.out (key := ⟨#[107]⟩) k_size (t := tq) (n := kv) (wb := watb) (by omega) (by omega) hwb1
            have HPL4 := hide hpl3
            clear hpl3
            go_wp2_with (first | (go_at_call 17; (refine (Count_pw HA.out ⟨#[107]⟩ tq kv k_size (by have := HPL.out.le; omega)).mono ?_; rintro e w3 ⟨Ta3, rfl, hp3, hk3, ht3⟩; rw [hcs3, hwat3] at hp3; have HA3 := hide hp3; have HB3 := hide (HB.out.keep hk3 (fun k hk h => HD.out k h hk)); have HD3 := hide (show ∀ k, Ta3 k → ¬ Tb k from fun k hk h => by rcases ht3 k hk with hh | hh; (exact HD.out k hh h); (have := HB.out.lt k h; omega)); have HW3 := hide (HW.out.trans (hk3.be.mono hwa)); have hz3 := hk3.be.size; clear hp3 hk3 ht3 HA HB HD HW)) | (go_at_call 17; (refine (Count_pw HB3.out ⟨#[107]⟩ tq kv k_size (by have := HPL.out.hq; omega)).mono ?_; rintro e w4 ⟨Tb4, rfl, hp4, hk4, ht4⟩; rw [hcs23, hwb3] at hp4; have HB4 := hide hp4; have HA4 := hide (HA3.out.keep hk4 HD3.out); have HD4 := hide (show ∀ k, Ta3 k → ¬ Tb4 k from fun k hk h => by rcases ht4 k h with hh | hh; (exact HD3.out k hk hh); (have := HA3.out.lt k hk; omega)); have HW4 := hide (HW3.out.trans (hk4.be.mono hwb0)); have hz4 := hk4.be.size; clear hp4 hk4 ht4 HA3 HB3 HD3 HW3)) | (go_at_call 18; refine (Tick_pw HA4.out tq hmo (by omega) (by omega) HPL4.out.hok HPL4.out.w0 (HPL4.out.fit (by omega)) hg01.1 hg01.2).mono ?_; rintro e w5 ⟨ov, rfl, hp5, hv5, hk5⟩; have HA5 := hide hp5; have HB5 := hide (HB4.out.keep hk5 (fun k hk h => HD4.out k h hk)); have HPL5 := hide (HPL4.out.tick (sl := []) (t := tq) hwt4); have HW5 := hide (HW4.out.trans (hk5.be.mono hwa)); clear hp5 hv5 hk5))
            go_roundw
            case rel => exact ⟨j + 1, tq, by omega, by go_num, rfl, ⟨Ta3, Tb4, _, _, cs23, _, tq, wb3, HA5.out, HB5.out, HD4.out, HPL5.out, by rw [List.map_map]; exact HWR.out, Int.le_refl _, hwb4, hwb40, by omega, by omega, HW5.out⟩⟩
            case measure => simp [intOf]; omega
        · have hd0' : decide (0 < d) = false := by simpa using hd0
          obtain ⟨tq, rfl⟩ : ∃ q, q = tv := ⟨_, rfl⟩
          have hmo := momB_of (t := tq) (by omega) (by omega)
          obtain ⟨E, hEE⟩ : ∃ E, cntErr ⟨#[107]⟩ tq kv wat = E := ⟨_, rfl⟩
          have hEb : cntErr ⟨#[107]⟩ tq kv watb = E := (cntErr_same (by omega) (by omega)).trans hEE
          obtain ⟨cs3, cs23, ks3, wat3, wb3, hcs3, hwat3, hcs23, hwb3, hpl3, hwt4, hwb4, hwb40⟩ := count_two HPL.out (key := ⟨#[107]⟩) k_size (t := tq) (n := kv) (wb := watb) (by omega) (by omega) hwb1
          have HPL4 := hide hpl3
          clear hpl3
          go_wp2_with (first | (go_at_call 17; (refine (Count_pw HA.out ⟨#[107]⟩ tq kv k_size (by have := HPL.out.le; omega)).mono ?_; rintro e w3 ⟨Ta3, rfl, hp3, hk3, ht3⟩; rw [hcs3, hwat3] at hp3; have HA3 := hide hp3; have HB3 := hide (HB.out.keep hk3 (fun k hk h => HD.out k h hk)); have HD3 := hide (show ∀ k, Ta3 k → ¬ Tb k from fun k hk h => by rcases ht3 k hk with hh | hh; (exact HD.out k hh h); (have := HB.out.lt k h; omega)); have HW3 := hide (HW.out.trans (hk3.be.mono hwa)); have hz3 := hk3.be.size; clear hp3 hk3 ht3 HA HB HD HW)) | (go_at_call 17; (refine (Count_pw HB3.out ⟨#[107]⟩ tq kv k_size (by have := HPL.out.hq; omega)).mono ?_; rintro e w4 ⟨Tb4, rfl, hp4, hk4, ht4⟩; rw [hcs23, hwb3] at hp4; have HB4 := hide hp4; have HA4 := hide (HA3.out.keep hk4 HD3.out); have HD4 := hide (show ∀ k, Ta3 k → ¬ Tb4 k from fun k hk h => by rcases ht4 k h with hh | hh; (exact HD3.out k hk hh); (have := HA3.out.lt k hk; omega)); have HW4 := hide (HW3.out.trans (hk4.be.mono hwb0)); have hz4 := hk4.be.size; clear hp4 hk4 ht4 HA3 HB3 HD3 HW3)) | (go_at_call 18; refine (Tick_pw HA4.out tq hmo (by omega) (by omega) HPL4.out.hok HPL4.out.w0 (HPL4.out.fit (by omega)) hg01.1 hg01.2).mono ?_; rintro e w5 ⟨ov, rfl, hp5, hv5, hk5⟩; have HA5 := hide hp5; have HB5 := hide (HB4.out.keep hk5 (fun k hk h => HD4.out k h hk)); have HPL5 := hide (HPL4.out.tick (sl := []) (t := tq) hwt4); have HW5 := hide (HW4.out.trans (hk5.be.mono hwa)); clear hp5 hv5 hk5))
          go_roundw
          case rel => exact ⟨j + 1, tq, by omega, by go_num, rfl, ⟨Ta3, Tb4, _, _, cs23, _, tq, wb3, HA5.out, HB5.out, HD4.out, HPL5.out, by rw [List.map_map]; exact HWR.out, Int.le_refl _, hwb4, hwb40, by omega, by omega, HW5.out⟩⟩
          case measure => simp [intOf]; omega
      · have hjd : decide ((j : Int) < (n2 : Int)) = false := by simp; omega
        obtain ⟨tq, rfl⟩ : ∃ q, q = tv := ⟨_, rfl⟩
        have hmo := momB_of (t := tq) (by omega) (by omega)
        obtain ⟨E, hEE⟩ : ∃ E, cntErr ⟨#[107]⟩ tq kv wat = E := ⟨_, rfl⟩
        have hEb : cntErr ⟨#[107]⟩ tq kv watb = E := (cntErr_same (by omega) (by omega)).trans hEE
        obtain ⟨cs3, cs23, ks3, wat3, wb3, hcs3, hwat3, hcs23, hwb3, hpl3, hwt4, hwb4, hwb40⟩ := count_two HPL.out (key := ⟨#[107]⟩) k_size (t := tq) (n := kv) (wb := watb) (by omega) (by omega) hwb1
        have HPL4 := hide hpl3
        clear hpl3
        go_wp2_with (first | (go_at_call 17; (refine (Count_pw HA.out ⟨#[107]⟩ tq kv k_size (by have := HPL.out.le; omega)).mono ?_; rintro e w3 ⟨Ta3, rfl, hp3, hk3, ht3⟩; rw [hcs3, hwat3] at hp3; have HA3 := hide hp3; have HB3 := hide (HB.out.keep hk3 (fun k hk h => HD.out k h hk)); have HD3 := hide (show ∀ k, Ta3 k → ¬ Tb k from fun k hk h => by rcases ht3 k hk with hh | hh; (exact HD.out k hh h); (have := HB.out.lt k h; omega)); have HW3 := hide (HW.out.trans (hk3.be.mono hwa)); have hz3 := hk3.be.size; clear hp3 hk3 ht3 HA HB HD HW)) | (go_at_call 17; (refine (Count_pw HB3.out ⟨#[107]⟩ tq kv k_size (by have := HPL.out.hq; omega)).mono ?_; rintro e w4 ⟨Tb4, rfl, hp4, hk4, ht4⟩; rw [hcs23, hwb3] at hp4; have HB4 := hide hp4; have HA4 := hide (HA3.out.keep hk4 HD3.out); have HD4 := hide (show ∀ k, Ta3 k → ¬ Tb4 k from fun k hk h => by rcases ht4 k h with hh | hh; (exact HD3.out k hk hh); (have := HA3.out.lt k hk; omega)); have HW4 := hide (HW3.out.trans (hk4.be.mono hwb0)); have hz4 := hk4.be.size; clear hp4 hk4 ht4 HA3 HB3 HD3 HW3)) | (go_at_call 18; refine (Tick_pw HA4.out tq hmo (by omega) (by omega) HPL4.out.hok HPL4.out.w0 (HPL4.out.fit (by omega)) hg01.1 hg01.2).mono ?_; rintro e w5 ⟨ov, rfl, hp5, hv5, hk5⟩; have HA5 := hide hp5; have HB5 := hide (HB4.out.keep hk5 (fun k hk h => HD4.out k h hk)); have HPL5 := hide (HPL4.out.tick (sl := []) (t := tq) hwt4); have HW5 := hide (HW4.out.trans (hk5.be.mono hwa)); clear hp5 hv5 hk5))
        go_roundw
        case rel => exact ⟨j + 1, tq, by omega, by go_num, rfl, ⟨Ta3, Tb4, _, _, cs23, _, tq, wb3, HA5.out, HB5.out, HD4.out, HPL5.out, by rw [List.map_map]; exact HWR.out, Int.le_refl _, hwb4, hwb40, by omega, by omega, HW5.out⟩⟩
        case measure => simp [intOf]; omega
    · obtain rfl : j = kk := by omega
      have HA := hide hA
      have HB := hide hB
      have HD := hide hD
      have HPL := hide hPL
      have HWR := hide hWR
      have HW := hide hW
      obtain ⟨nl, hnl⟩ : ∃ q, l.length = q := ⟨_, rfl⟩
      have hwl : ws.length = nl := by rw [← List.length_map (f := (·.r)), hWR]; exact hnl
      have hke : (cs.filter fun c => !oldB tv g c) = cs2.filter fun c => !oldB tv g c := by rw [hPL.hc]; exact kept_fresh hwt _ _ hPL.hl hPL.hd
      have hkl : (cs2.filter fun c => !oldB tv g c).length ≤ 1000 := Nat.le_trans (List.length_filter_le _ _) (hPL.fit2 (by omega)).1
      have hmo := momB_of (t := tv) (by omega) (by omega)
      clear hA hB hD hPL hWR hW
      go_wp2_with (first | (go_at_call 18; (refine (Tick_pw HA.out tv hmo (by omega) (by omega) HPL.out.hok HPL.out.w0 (HPL.out.fit (by omega)) hg01.1 hg01.2).mono ?_; rintro e w3 ⟨ov, rfl, hp3, _, hk3⟩; rw [hke] at hp3; have HA3 := hide hp3; have HB3 := hide (HB.out.keep hk3 (fun k hk h => HD.out k h hk)); have HW3 := hide (HW.out.trans (hk3.be.mono hwa)); clear hp3 hk3 HA HB HW)) | (go_at_call 18; (refine (Tick_pw HB3.out tv hmo (by omega) (by rw [List.length_map]; omega) (wdOk_start HLO.out hwb1) hwb1 (HPL.out.fit2 (by omega)) hg01.1 hg01.2).mono ?_; rintro e w4 ⟨ov2, rfl, hp4, _, hk4⟩; have HB4 := hide hp4; have HA4 := hide (HA3.out.keep hk4 HD.out); have HW4 := hide (HW3.out.trans (hk4.be.mono hwb0)); clear hp4 hk4 HA3 HB3 HW3)) | (go_at_call 19; (refine (Status_pw HA4.out (by rw [List.length_map]; omega)).mono ?_; rintro e w5 ⟨sv, rfl, hs, hb⟩; rw [List.length_map, hwl] at hs; obtain ⟨sa, sc, rfl⟩ := own_sl hs; have HS5 := hide hs; have HA5 := hide (HA4.out.below hb); have HB5 := hide (HB4.out.below hb); have HW5 := hide (HW4.out.trans (hb.mono HW4.out.size)); clear hs hb HA4 HB4 HW4)) | (go_at_call 19; (refine (Status_pw HB5.out (by rw [List.length_map, List.length_map]; omega)).mono ?_; rintro e w6 ⟨sv2, rfl, hs, hb⟩; rw [List.length_map, List.length_map, hnl] at hs; obtain ⟨sa2, sc2, rfl⟩ := own_sl hs; have HS6 := hide hs; have HS7 := hide (own_below HS5.out hb); have HA6 := hide (HA5.out.below hb); have HB6 := hide (HB5.out.below hb); have HW6 := hide (HW5.out.trans (hb.mono HW5.out.size)); clear hs hb HA5 HB5 HW5 HS5)))
      go_loopw [119] (fun i wr => ∃ r : Nat, r ≤ nl ∧ i = .int .i64 r ∧ Below w6.heap.size w6 wr) (fun i _ => nl - (intOf i).toNat)
      case atStart => exact ⟨0, Nat.zero_le _, rfl, Below.refl _ _⟩
      case round =>
        obtain ⟨r, hr, rfl, hB⟩ := hrel
        by_cases hrl : r < nl
        · obtain ⟨sa', sc', hsv, hsl, _⟩ := sl_of_own (f := Stt.cs) (sz := 4) (fun _ => rfl) (by rw [List.length_map, List.length_map]; exact hwl) (own_below HS7.out hB)
          simp only [Value.slice.injEq, true_and] at hsv
          obtain ⟨rfl, rfl⟩ := hsv
          obtain ⟨sb', sd', hsv, hsl2, _⟩ := sl_of_own (f := Stt.cs) (sz := 4) (fun _ => rfl) (by rw [List.length_map, List.length_map, List.length_map]; exact hnl) (own_below HS6.out hB)
          simp only [Value.slice.injEq, true_and] at hsv
          obtain ⟨rfl, rfl⟩ := hsv
          obtain ⟨sb, so, y, rfl, hsb, hsx, hsc⟩ := hsl.at_ hrl
          obtain ⟨sb2, so2, y2, rfl, hsb2, hsx2, hsc2⟩ := hsl2.at_ hrl
          rw [List.getElem?_map] at hsx hsx2
          obtain ⟨x, hxx, rfl⟩ := Option.map_eq_some_iff.1 hsx
          obtain ⟨x2, hxx2, rfl⟩ := Option.map_eq_some_iff.1 hsx2
          obtain ⟨hnm, hva⟩ := forgets_same HPL.out hwt HWR.out hxx hxx2
          have e0 : wr.cell? ⟨sb, so + r * 4, none⟩ = some (.string x.r.name) := by simpa [Wd.stt] using hsc 0 _ rfl
          have e3 : wr.cell? ⟨sb, so + r * 4 + 3, none⟩ = some (.int .i64 x.va) := hsc 3 _ rfl
          have f0 : wr.cell? ⟨sb2, so2 + r * 4, none⟩ = some (.string x.r.name) := by rw [hnm]; simpa [Wd.stt] using hsc2 0 _ rfl
          have f3 : wr.cell? ⟨sb2, so2 + r * 4 + 3, none⟩ = some (.int .i64 x.va) := by rw [hva]; exact hsc2 3 _ rfl
          have e0' : wr.drew.cell? ⟨sb, so + r * 4, none⟩ = some (.string x.r.name) := e0
          have e3' : wr.drew.cell? ⟨sb, so + r * 4 + 3, none⟩ = some (.int .i64 x.va) := e3
          have f0' : wr.drew.cell? ⟨sb2, so2 + r * 4, none⟩ = some (.string x.r.name) := f0
          have f3' : wr.drew.cell? ⟨sb2, so2 + r * 4 + 3, none⟩ = some (.int .i64 x.va) := f3
          obtain ⟨rn, hrn⟩ : ∃ q, x.r.name = q := ⟨_, rfl⟩
          obtain ⟨va, hva2⟩ : ∃ q, x.va = q := ⟨_, rfl⟩
          rw [hrn] at e0 e0' f0 f0'
          rw [hva2] at e3 e3' f3 f3'
          clear hnm hva hsc hsc2 hsx hsx2 hxx hxx2 hrn hva2 hsl hsl2
          have HBR := hide hB
          clear hB
          go_wp2_with (first | go_quiet (fail))
          go_roundw
          case rel => exact ⟨r + 1, by omega, by go_num, by first | exact HBR.out.drew | exact below_drewN HBR.out _⟩
          case measure => simp [intOf]; omega
        · obtain rfl : r = nl := by omega
          have HA7 := hide (HA6.out.below hB)
          have HB7 := hide (HB6.out.below hB)
          have HW7 := hide (HW6.out.trans (hB.mono HW6.out.size))
          clear HA6 HB6 HS6 HS7 hB
          go_wp2_with (first | (go_at_call 20; refine (Kept_pw HA7.out hkl).mono ?_; rintro e w' ⟨rfl, rfl⟩; clear HA7) | (go_at_call 20; refine (Kept_pw HB7.out hkl).mono ?_; rintro e w' ⟨rfl, rfl⟩; clear HB7))
          go_ret
          exact ⟨rfl, HW7.out⟩
end Go.Proofs.YtpjfihdbbgencaaDoor
