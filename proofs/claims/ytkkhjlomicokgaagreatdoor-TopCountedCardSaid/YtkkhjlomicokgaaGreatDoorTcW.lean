/- Walk of TopCounted (printed by gen_tc.py). -/
import Derived.Test.YtkkhjlomicokgaaGreatDoorTcM
import Derived.Test.YtkkhjlomicokgaaGreatDoorTpK
import Derived.Test.YtkkhjlomicokgaaGreatDoorTpI
import Derived.Test.YtkkhjlomicokgaaGreatDoorTpG
namespace Go.Proofs.YtkkhjlomicokgaaGreatDoor.Bk
open Go.RowKit Go.Maps
set_option linter.unusedVariables false
set_option linter.unusedSimpArgs false
def ss (s : ByteArray) : List Value := [.string s]
theorem sl_rlAll (w : World) : Sl (w.alloc (.cells #[.string ⟨#[97, 108, 108]⟩, .string ⟨#[]⟩, .int .i64 1, .int .i64 1, .int .i64 604800, .int .i64 0, .int .i64 0] 34)) (w.alloc (.cells #[.string ⟨#[97, 108, 108]⟩, .string ⟨#[]⟩, .int .i64 1, .int .i64 1, .int .i64 604800, .int .i64 0, .int .i64 0] 34)).heap.size al.Rl.cs 7 (some ⟨w.heap.size, 0, none⟩) 1 [rlAll] := by
  refine ⟨rfl, fun _ => ⟨w.heap.size, 0, rfl, by simp, fun i x hi j v hv => ?_⟩⟩
  match i, hi with
  | 0, hi =>
    simp at hi
    subst hi
    rw [show 0 + 0 * 7 + j = j by omega, block_cell (heap_alloc_new w _) j]
    simpa [al.Rl.cs, rlAll] using hv
  | i + 1, hi => simp at hi
theorem rlAll_fit : al.RlFit [rlAll] := fun x hx => by
  rw [List.mem_singleton.1 hx]
  exact ⟨show (⟨#[97, 108, 108]⟩ : ByteArray).size ≤ maxLen by decide, show (⟨#[]⟩ : ByteArray).size ≤ maxLen by decide⟩
/-- What stands when i prints are done. -/
def TcI (w : World) (X : TX) (i k : Nat) (at_ : Int) (wr : World) : Prop := 0 ≤ at_ ∧ at_ ≤ 10000 * i ∧ k ≤ i ∧ TJ X (2 * i) k k at_ wr ∧ Below w.heap.size w wr
set_option maxRecDepth 100000 in
set_option maxHeartbeats 16000000 in
theorem TopCounted_bad (A0 A1 A2 : Option Addr) (n0 c0 n1 c1 n2 c2 : Nat) (Q : List Qt) (w : World) (htab : Lib.TabIs Tryz.prog w "internal/strconv.uint64pow10" .u64 Lib.pow10Tab) (hn0 : n0 ≤ maxLen) (hq : Sl w w.heap.size Qt.cs 5 A0 n0 Q) (hqf : QtFit Q) (hE : newE Q [] 0 ≠ 0) :
    Calls Tryz.prog 3 #[.slice A0 n0 c0, .slice A1 n1 c1, .slice A2 n2 c2] w fun e w' => e = .returned (.bool true) ∧ Below w.heap.size w w' := by
  have CA := hide (al.awakeAlert_any w htab)
  have HQ := hide hq
  obtain ⟨E, hEE⟩ : ∃ E, newE Q [] 0 = E := ⟨_, rfl⟩
  have hE' : ¬ E = 0 := hEE ▸ hE
  have CG := hide (fun W (h : Sl W W.heap.size Qt.cs 5 A0 n0 Q) => hEE ▸ NewGate_bad n0 c0 0 0 A0 none Q [] 0 W hn0 h hqf (by decide) (Sl.nil _ _ _ _ _) (fun x hx => by cases hx) hE)
  have CW := hide (fun W => al.NewWatch_pw 1 1 (some ⟨W.heap.size, 0, none⟩) [rlAll] (W.alloc (.cells #[.string ⟨#[97, 108, 108]⟩, .string ⟨#[]⟩, .int .i64 1, .int .i64 1, .int .i64 604800, .int .i64 0, .int .i64 0] 34)) (by decide) (sl_rlAll W) rlAll_fit rlAll_ok)
  clear hq htab hE hqf hEE
  go_enter Tryz.func3, Tryz.ntmps3
  go_wp2_with (first | (go_at_call 4; refine CA.out.mono ?_; rintro e w1 ⟨rfl, hw1⟩; have HB1 := hide hw1; clear hw1) | (go_at_call 5; refine (CG.out _ (Sl.up HQ.out HB1.out)).mono ?_; rintro e w2 ⟨rfl, hw2⟩; have HB2 := hide (HB1.out.trans (hw2.mono HB1.out.size)); clear hw2) | (go_at_call 6; refine (CW.out _).mono ?_; rintro e w3 ⟨pw, T, rfl, _, hw3, _⟩; have HB3 := hide ((HB2.out.alloc HB2.out.size _).trans (hw3.mono (by have := HB2.out.size; simp; omega))); clear hw3))
  go_ret
  exact ⟨rfl, HB3.out⟩
set_option maxRecDepth 100000 in
set_option maxHeartbeats 16000000 in
theorem TopCounted_ok (A0 A1 A2 : Option Addr) (n0 c0 n1 c1 n2 c2 : Nat) (Q : List Qt) (pl : List ByteArray) (wl : List Int) (w : World) (htab : Lib.TabIs Tryz.prog w "internal/strconv.uint64pow10" .u64 Lib.pow10Tab) (hn0 : n0 ≤ maxLen) (hn1 : n1 ≤ maxLen) (hnc1 : n1 ≤ c1) (hn2 : n2 ≤ maxLen)
    (hq : Sl w w.heap.size Qt.cs 5 A0 n0 Q) (hqf : QtFit Q) (hp : Sl w w.heap.size ss 1 A1 n1 pl) (hpf : ∀ s ∈ pl, s.size ≤ maxLen) (hwl : Sl w w.heap.size ci 1 A2 n2 wl) (hE : newE Q [] 0 = 0) :
    Calls Tryz.prog 3 #[.slice A0 n0 c0, .slice A1 n1 c1, .slice A2 n2 c2] w fun e w' => e = .returned (.bool true) ∧ Below w.heap.size w w' := by
  unfold maxLen at hn1 hn2
  have CA := hide (al.awakeAlert_any w htab)
  have HQ := hide hq
  have HP := hide hp
  have HPF := hide hpf
  have HWL := hide hwl
  have hqe : qtErr Q = 0 := by
    unfold newE at hE
    split at hE
    · assumption
    · exact hE
  have HQB := hide (qt_ok hqe)
  have hql : Q.length = n0 := hq.len
  have HQL := hide hql
  have HQN := hide (show ∀ q ∈ Q, q.name.size ≤ maxLen from fun q hq => (hqf q hq).1)
  have CG := hide (fun W (h : Sl W W.heap.size Qt.cs 5 A0 n0 Q) => NewGate_ok n0 c0 0 0 A0 none Q [] 0 W hn0 h hqf (by decide) (Sl.nil _ _ _ _ _) (fun x hx => by cases hx) hE)
  have CW := hide (fun W => al.NewWatch_pw 1 1 (some ⟨W.heap.size, 0, none⟩) [rlAll] (W.alloc (.cells #[.string ⟨#[97, 108, 108]⟩, .string ⟨#[]⟩, .int .i64 1, .int .i64 1, .int .i64 604800, .int .i64 0, .int .i64 0] 34)) (by decide) (sl_rlAll W) rlAll_fit rlAll_ok)
  clear hq htab hE hqf hp hwl hpf hqe hql
  obtain ⟨kk, hkk⟩ : ∃ kk : Nat, min n1 40 = kk := ⟨_, rfl⟩
  have hk40 : kk ≤ 40 := by omega
  have hk1 : kk ≤ n1 := by omega
  go_enter Tryz.func3, Tryz.ntmps3
  go_wp2_with (first
    | (go_at_call 4; refine CA.out.mono ?_; rintro e w1 ⟨rfl, hw1⟩; have HB1 := hide hw1; clear hw1)
    | (go_at_call 5; refine (CG.out _ (Sl.up HQ.out HB1.out)).mono ?_; rintro e w2 ⟨p, qc, lc, rb, tb, m, qA, lA, RD, rfl, hmade⟩; have HG2 := hide (GP.made hmade); have HB2 := hide (HB1.out.trans (hmade.be.mono HB1.out.size)); have HZ2 := hide hmade.be.size; clear hmade)
    | (go_at_call 6; refine (CW.out _).mono ?_; rintro e w3 ⟨pw, T, rfl, hpw, hw3, hT⟩; have HPW := hide hpw; have HT := hide hT; have HB3 := hide hw3; clear hpw hw3 hT)
    | (go_at_call 7; refine (NewBook_ok _).mono ?_; rintro e w4 ⟨rfl, hbm, hw4⟩; have HBM := hide hbm; have HB4 := hide hw4; clear hbm hw4))
  obtain ⟨X, hXp, hXw, hXb, HXO, HTJ, hXz, HBW⟩ : ∃ X : TX, p = X.p ∧ pw = X.pw ∧ w3.heap.size + 1 = X.pb ∧ Hid X.Ok ∧ Hid (TJ X 0 0 0 0 w4) ∧ w.heap.size ≤ X.Wz ∧ Hid (Below w.heap.size w w4) := by
    obtain ⟨wa, hwa⟩ : ∃ wa, w2.alloc (.cells #[.string ⟨#[97, 108, 108]⟩, .string ⟨#[]⟩, .int .i64 1, .int .i64 1, .int .i64 604800, .int .i64 0, .int .i64 0] 34) = wa := ⟨_, rfl⟩
    have hba : Below w2.heap.size w2 wa := hwa ▸ (Below.refl _ _).alloc (Nat.le_refl _) _
    have h3 := HB3.out
    have h4 := HPW.out
    have h5 := HT.out
    rw [hwa] at h3 h4 h5
    have hza := hba.size
    have hz1 := HB1.out.size
    have hz2 := HZ2.out
    have hz3 := h3.size
    have hz4 := HB4.out.size
    have hlng : al.lng ([rlAll] : List al.Rl) = 604800 := by decide
    rw [hlng] at h4
    have hbal := hba.trans (h3.mono hza)
    have hall := hbal.trans (HB4.out.mono (by omega))
    refine ⟨⟨w1.heap.size, wa.heap.size, w3.heap.size, p, n0, qc, lc, rb, tb, m, qA, lA, RD, Q, pw, w3.heap.size + 1, w3.heap.size⟩, rfl, rfl, rfl, hide ⟨fun j hj => Nat.lt_of_lt_of_le (HG2.out.lt hj) hza, hz3, by show w1.heap.size ≤ wa.heap.size; omega, HQL.out, by have := HQB.out.1; rw [← HQL.out]; exact this, HQN.out⟩, hide ⟨0, 0, _, [], T, [], 0, 0, 0, [], _, ⟨HG2.out.below hall, VI.start HQB.out.2 (by decide) (by decide), TI.empty, Nat.le_refl _, Int.le_refl _⟩, ⟨h4.below HB4.out, (fun c hc => by cases hc), rfl, Int.le_refl _, Int.le_refl _, h5⟩, ⟨HBM.out, One.start, Nat.le_refl _⟩, fun i hi hb => ?_, hz4⟩, hz1, hide (HB2.out.trans (hall.mono (by omega)))⟩
    have := h4.lt i hi
    rcases hb with hb | hb | ⟨r, hr, hb⟩
    · have hb' : i = w3.heap.size + 1 := hb
      omega
    · have hb' : i = w3.heap.size := hb
      omega
    · cases hr
  subst hXp hXw
  rw [hXb]
  clear hXb HPW HT HB3 HBM HB4 HG2 HB2 HZ2 HB1 CA CG CW HQ HQB HQL HQN
  go_wp2_with (fail)
  go_loopw [12, 13, 57] (fun ta tk ti wr => ∃ (i k : Nat) (at_ : Int), i ≤ kk ∧ ta = .int .i64 at_ ∧ tk = .int .i64 (k : Int) ∧ ti = .int .i64 (i : Int) ∧ TcI w X i k at_ wr) (fun _ _ i _ => kk - (intOf i).toNat)
  case atStart => exact ⟨0, 0, 0, Nat.zero_le _, rfl, rfl, rfl, by decide, by decide, Nat.le_refl _, HTJ.out, HBW.out⟩
  case round =>
    obtain ⟨i, k, at_, hi, rfl, rfl, rfl, hat0, hat1, hki, hTJ, hBW⟩ := hrel
    clear HTJ HBW
    have HTJ := hide hTJ
    have HBW := hide hBW
    have hzr := hBW.size
    clear hTJ hBW
    by_cases hlt : i < kk
    · obtain ⟨bb, oo, d, hA1, hbb, hx, hc⟩ := (HP.out.below HBW.out).at_ (show i < n1 by omega)
      have hd : d.size ≤ maxLen := HPF.out d (List.mem_of_getElem? hx)
      have d0 : wr.cell? ⟨bb, oo + i, none⟩ = some (.string d) := by simpa [ss] using hc 0 _ rfl
      clear hc hx
      subst hA1
      have hlt' : (i : Int) < (kk : Int) := by omega
      by_cases hw : i < n2
      · obtain ⟨b2, o2, v, hA2, hb2, hx2, hc2⟩ := (HWL.out.below HBW.out).at_ hw
        have e0 : wr.cell? ⟨b2, o2 + i, none⟩ = some (.int .i64 v) := by simpa using hc2 0 _ rfl
        clear hc2 hx2
        subst hA2
        have hw' : (i : Int) < (n2 : Int) := by omega
        by_cases hv0 : 0 < v
        · by_cases hv1 : v < 10000
          · obtain ⟨T, hT⟩ : ∃ T, at_ + v = T := ⟨_, rfl⟩
            have hT0 : 0 ≤ T := by omega
            have hT1 : T ≤ 10000 * i + 10000 := by omega
            have HTT := hide (HTJ.out.later (t := T) (by omega))
            clear HTJ
            have CA := hide (Ask_tj HXO.out HTT.out (by omega) hT0 (by omega) d hd)
            go_wp2_with (fail)
            refine CA.out.mono ?_
            rintro e4 w4 ⟨y, nm, nn, x, rfl, hq, hT4, hB4⟩
            have HT4 := hide hT4; have HB4 := hide (HBW.out.trans (hB4.mono hXz))
            clear hT4 hB4 CA
            by_cases hx0 : x = 0
            · subst hx0
              by_cases hy0 : y = 0
              · subst hy0
                have hnn := hq rfl rfl
                subst hnn
                have CT := hide (Take_tj HXO.out HT4.out (by omega) (by omega) hT0 (by omega) d hd)
                clear hq
                go_wp2_with (fail)
                refine CT.out.mono ?_
                rintro e5 w5 ⟨y5, b5, x5, rfl, hT5a, hT5b, hB5⟩
                have HB5 := hide (HB4.out.trans (hB5.mono hXz))
                by_cases hx5 : x5 = 0
                · subst hx5
                  have CC := hide (Count_tj HXO.out (hT5a rfl) (by omega) hT0 (by omega))
                  clear hT5a hT5b hB5 CT
                  go_wp2_with (fail)
                  refine CC.out.mono ?_
                  rintro e6 w6 ⟨rfl, hT6, hB6⟩
                  have HT6 := hide hT6; have HB6 := hide (HB5.out.trans (hB6.mono hXz))
                  clear hT6 hB6 CC
                  go_wp2_with (fail)
                  go_roundw
                  case rel => exact ⟨i + 1, k + 1, T, by omega, rfl, by go_num, by go_num, hT0, by omega, by omega, (show 2 * (i + 1) = 2 * i + 1 + 1 by omega) ▸ HT6.out, HB6.out⟩
                  case measure => simp [intOf]; omega
                · have HT5 := hide (hT5b hx5)
                  clear hT5a hT5b hB5 CT
                  go_wp2_with (fail)
                  go_roundw
                  case rel => exact ⟨i + 1, k, T, by omega, rfl, by go_num, by go_num, hT0, by omega, by omega, (show 2 * (i + 1) = 2 * i + 1 + 1 by omega) ▸ HT5.out, HB5.out⟩
                  case measure => simp [intOf]; omega
              · clear hq
                go_wp2_with (fail)
                go_roundw
                case rel => exact ⟨i + 1, k, T, by omega, rfl, by go_num, by go_num, hT0, by omega, by omega, (show 2 * (i + 1) = 2 * i + 1 + 1 by omega) ▸ HT4.out.more (Nat.le_succ _), HB4.out⟩
                case measure => simp [intOf]; omega
            · clear hq
              go_wp2_with (fail)
              go_roundw
              case rel => exact ⟨i + 1, k, T, by omega, rfl, by go_num, by go_num, hT0, by omega, by omega, (show 2 * (i + 1) = 2 * i + 1 + 1 by omega) ▸ HT4.out.more (Nat.le_succ _), HB4.out⟩
              case measure => simp [intOf]; omega
          · obtain ⟨T, rfl⟩ : ∃ T, T = at_ := ⟨_, rfl⟩
            have hT0 : 0 ≤ T := hat0
            have hT1 : T ≤ 10000 * i + 10000 := by omega
            have HTT := HTJ
            clear HTJ
            have CA := hide (Ask_tj HXO.out HTT.out (by omega) hT0 (by omega) d hd)
            go_wp2_with (fail)
            refine CA.out.mono ?_
            rintro e4 w4 ⟨y, nm, nn, x, rfl, hq, hT4, hB4⟩
            have HT4 := hide hT4; have HB4 := hide (HBW.out.trans (hB4.mono hXz))
            clear hT4 hB4 CA
            by_cases hx0 : x = 0
            · subst hx0
              by_cases hy0 : y = 0
              · subst hy0
                have hnn := hq rfl rfl
                subst hnn
                have CT := hide (Take_tj HXO.out HT4.out (by omega) (by omega) hT0 (by omega) d hd)
                clear hq
                go_wp2_with (fail)
                refine CT.out.mono ?_
                rintro e5 w5 ⟨y5, b5, x5, rfl, hT5a, hT5b, hB5⟩
                have HB5 := hide (HB4.out.trans (hB5.mono hXz))
                by_cases hx5 : x5 = 0
                · subst hx5
                  have CC := hide (Count_tj HXO.out (hT5a rfl) (by omega) hT0 (by omega))
                  clear hT5a hT5b hB5 CT
                  go_wp2_with (fail)
                  refine CC.out.mono ?_
                  rintro e6 w6 ⟨rfl, hT6, hB6⟩
                  have HT6 := hide hT6; have HB6 := hide (HB5.out.trans (hB6.mono hXz))
                  clear hT6 hB6 CC
                  go_wp2_with (fail)
                  go_roundw
                  case rel => exact ⟨i + 1, k + 1, T, by omega, rfl, by go_num, by go_num, hT0, by omega, by omega, (show 2 * (i + 1) = 2 * i + 1 + 1 by omega) ▸ HT6.out, HB6.out⟩
                  case measure => simp [intOf]; omega
                · have HT5 := hide (hT5b hx5)
                  clear hT5a hT5b hB5 CT
                  go_wp2_with (fail)
                  go_roundw
                  case rel => exact ⟨i + 1, k, T, by omega, rfl, by go_num, by go_num, hT0, by omega, by omega, (show 2 * (i + 1) = 2 * i + 1 + 1 by omega) ▸ HT5.out, HB5.out⟩
                  case measure => simp [intOf]; omega
              · clear hq
                go_wp2_with (fail)
                go_roundw
                case rel => exact ⟨i + 1, k, T, by omega, rfl, by go_num, by go_num, hT0, by omega, by omega, (show 2 * (i + 1) = 2 * i + 1 + 1 by omega) ▸ HT4.out.more (Nat.le_succ _), HB4.out⟩
                case measure => simp [intOf]; omega
            · clear hq
              go_wp2_with (fail)
              go_roundw
              case rel => exact ⟨i + 1, k, T, by omega, rfl, by go_num, by go_num, hT0, by omega, by omega, (show 2 * (i + 1) = 2 * i + 1 + 1 by omega) ▸ HT4.out.more (Nat.le_succ _), HB4.out⟩
              case measure => simp [intOf]; omega
        · obtain ⟨T, rfl⟩ : ∃ T, T = at_ := ⟨_, rfl⟩
          have hT0 : 0 ≤ T := hat0
          have hT1 : T ≤ 10000 * i + 10000 := by omega
          have HTT := HTJ
          clear HTJ
          have CA := hide (Ask_tj HXO.out HTT.out (by omega) hT0 (by omega) d hd)
          go_wp2_with (fail)
          refine CA.out.mono ?_
          rintro e4 w4 ⟨y, nm, nn, x, rfl, hq, hT4, hB4⟩
          have HT4 := hide hT4; have HB4 := hide (HBW.out.trans (hB4.mono hXz))
          clear hT4 hB4 CA
          by_cases hx0 : x = 0
          · subst hx0
            by_cases hy0 : y = 0
            · subst hy0
              have hnn := hq rfl rfl
              subst hnn
              have CT := hide (Take_tj HXO.out HT4.out (by omega) (by omega) hT0 (by omega) d hd)
              clear hq
              go_wp2_with (fail)
              refine CT.out.mono ?_
              rintro e5 w5 ⟨y5, b5, x5, rfl, hT5a, hT5b, hB5⟩
              have HB5 := hide (HB4.out.trans (hB5.mono hXz))
              by_cases hx5 : x5 = 0
              · subst hx5
                have CC := hide (Count_tj HXO.out (hT5a rfl) (by omega) hT0 (by omega))
                clear hT5a hT5b hB5 CT
                go_wp2_with (fail)
                refine CC.out.mono ?_
                rintro e6 w6 ⟨rfl, hT6, hB6⟩
                have HT6 := hide hT6; have HB6 := hide (HB5.out.trans (hB6.mono hXz))
                clear hT6 hB6 CC
                go_wp2_with (fail)
                go_roundw
                case rel => exact ⟨i + 1, k + 1, T, by omega, rfl, by go_num, by go_num, hT0, by omega, by omega, (show 2 * (i + 1) = 2 * i + 1 + 1 by omega) ▸ HT6.out, HB6.out⟩
                case measure => simp [intOf]; omega
              · have HT5 := hide (hT5b hx5)
                clear hT5a hT5b hB5 CT
                go_wp2_with (fail)
                go_roundw
                case rel => exact ⟨i + 1, k, T, by omega, rfl, by go_num, by go_num, hT0, by omega, by omega, (show 2 * (i + 1) = 2 * i + 1 + 1 by omega) ▸ HT5.out, HB5.out⟩
                case measure => simp [intOf]; omega
            · clear hq
              go_wp2_with (fail)
              go_roundw
              case rel => exact ⟨i + 1, k, T, by omega, rfl, by go_num, by go_num, hT0, by omega, by omega, (show 2 * (i + 1) = 2 * i + 1 + 1 by omega) ▸ HT4.out.more (Nat.le_succ _), HB4.out⟩
              case measure => simp [intOf]; omega
          · clear hq
            go_wp2_with (fail)
            go_roundw
            case rel => exact ⟨i + 1, k, T, by omega, rfl, by go_num, by go_num, hT0, by omega, by omega, (show 2 * (i + 1) = 2 * i + 1 + 1 by omega) ▸ HT4.out.more (Nat.le_succ _), HB4.out⟩
            case measure => simp [intOf]; omega
      · obtain ⟨T, rfl⟩ : ∃ T, T = at_ := ⟨_, rfl⟩
        have hw' : ¬ (i : Int) < (n2 : Int) := by omega
        have hT0 : 0 ≤ T := hat0
        have hT1 : T ≤ 10000 * i + 10000 := by omega
        have HTT := HTJ
        clear HTJ
        have CA := hide (Ask_tj HXO.out HTT.out (by omega) hT0 (by omega) d hd)
        go_wp2_with (fail)
        refine CA.out.mono ?_
        rintro e4 w4 ⟨y, nm, nn, x, rfl, hq, hT4, hB4⟩
        have HT4 := hide hT4; have HB4 := hide (HBW.out.trans (hB4.mono hXz))
        clear hT4 hB4 CA
        by_cases hx0 : x = 0
        · subst hx0
          by_cases hy0 : y = 0
          · subst hy0
            have hnn := hq rfl rfl
            subst hnn
            have CT := hide (Take_tj HXO.out HT4.out (by omega) (by omega) hT0 (by omega) d hd)
            clear hq
            go_wp2_with (fail)
            refine CT.out.mono ?_
            rintro e5 w5 ⟨y5, b5, x5, rfl, hT5a, hT5b, hB5⟩
            have HB5 := hide (HB4.out.trans (hB5.mono hXz))
            by_cases hx5 : x5 = 0
            · subst hx5
              have CC := hide (Count_tj HXO.out (hT5a rfl) (by omega) hT0 (by omega))
              clear hT5a hT5b hB5 CT
              go_wp2_with (fail)
              refine CC.out.mono ?_
              rintro e6 w6 ⟨rfl, hT6, hB6⟩
              have HT6 := hide hT6; have HB6 := hide (HB5.out.trans (hB6.mono hXz))
              clear hT6 hB6 CC
              go_wp2_with (fail)
              go_roundw
              case rel => exact ⟨i + 1, k + 1, T, by omega, rfl, by go_num, by go_num, hT0, by omega, by omega, (show 2 * (i + 1) = 2 * i + 1 + 1 by omega) ▸ HT6.out, HB6.out⟩
              case measure => simp [intOf]; omega
            · have HT5 := hide (hT5b hx5)
              clear hT5a hT5b hB5 CT
              go_wp2_with (fail)
              go_roundw
              case rel => exact ⟨i + 1, k, T, by omega, rfl, by go_num, by go_num, hT0, by omega, by omega, (show 2 * (i + 1) = 2 * i + 1 + 1 by omega) ▸ HT5.out, HB5.out⟩
              case measure => simp [intOf]; omega
          · clear hq
            go_wp2_with (fail)
            go_roundw
            case rel => exact ⟨i + 1, k, T, by omega, rfl, by go_num, by go_num, hT0, by omega, by omega, (show 2 * (i + 1) = 2 * i + 1 + 1 by omega) ▸ HT4.out.more (Nat.le_succ _), HB4.out⟩
            case measure => simp [intOf]; omega
        · clear hq
          go_wp2_with (fail)
          go_roundw
          case rel => exact ⟨i + 1, k, T, by omega, rfl, by go_num, by go_num, hT0, by omega, by omega, (show 2 * (i + 1) = 2 * i + 1 + 1 by omega) ▸ HT4.out.more (Nat.le_succ _), HB4.out⟩
          case measure => simp [intOf]; omega
    · have hik : i = kk := by omega
      obtain ⟨tn, g, V, TL, Tw, cs, wat, mn, last, l, bk, _, ⟨hW, hC1, hcl, hw0, hwt, _⟩, ⟨hBM, hOne, _⟩, _, _⟩ := HTJ.out
      have hlen := hOne.len
      have CGR := hide (Groups_any hBM hOne.nd (by omega) (hOne.ok (by omega) (by omega)))
      have HW := hide hW
      have HC1 := hide hC1
      have HON := hide hOne
      have hkc : cs.length = k := hcl
      clear HTJ hW hC1 hBM hOne hcl
      go_wp2_with (fail)
      refine CGR.out.mono ?_
      rintro e3 wg ⟨v, es, rfl, hgrs, hBg⟩
      obtain ⟨vA, vc, rfl, hsl, _⟩ := sl_of_own (f := Ge.cs) (sz := 6) (fun _ => rfl) rfl hgrs.own
      have HGR := hide hgrs
      have HSL := hide hsl
      have HBg := hide (HBW.out.trans (hBg.mono hzr))
      have HWg := hide (HW.out.below hBg)
      have hesl := len_grs hgrs
      have hesn : es.length ≤ 1000 := by omega
      clear hgrs hsl hBg CGR HW hesl
      go_wp2_with (fail)
      go_loopw [23, 123] (fun ts ti w2 => ∃ j : Nat, j ≤ es.length ∧ ti = .int .i64 (j : Int) ∧ ts = .int .i64 (sumL ((es.take j).map Ge.ev)) ∧ Below wg.heap.size wg w2) (fun _ ti _ => es.length - (intOf ti).toNat)
      case atStart => exact ⟨0, Nat.zero_le _, rfl, rfl, Below.refl _ _⟩
      case round =>
        obtain ⟨j, hj, rfl, rfl, hB2⟩ := hrel
        by_cases hjl : j < es.length
        · obtain ⟨gb, go, x, hvA, hgb, hx, hc⟩ := (HSL.out.below hB2).at_ hjl
          have hxm : x ∈ es := List.mem_of_getElem? hx
          have hps := own_below (HGR.out.ps x hxm) hB2
          have hat := HGR.out.at_ x hxm
          have hev : x.ev = x.wt := by rw [hat.1, hat.2.1]; exact grO_one HON.out.eq _
          have hsr : (grO x.id l).ps.Pairwise fun a b => a ≤ b := srtP_sorted _
          have hpl : (grO x.id l).ps.length ≤ 100000 := by
            have h1 := rawG_len x.id l
            have h2 : (grO x.id l).ps.length = (rawG x.id l).ps.length := srtP_len _
            omega
          obtain ⟨pp, hpp⟩ : ∃ pp, (grO x.id l).ps = pp := ⟨_, rfl⟩
          rw [hpp] at hps hsr hpl
          have HTK := hide (take_succ_get hx)
          have hrng : 0 ≤ x.ev ∧ x.ev ≤ 1000000000 := by
            rw [hat.1]
            exact (rawG_rng (HON.out.ok (by omega) (by omega)) (by omega) x.id).1
          have hsm : 0 ≤ sumL ((es.take j).map Ge.ev) ∧ sumL ((es.take j).map Ge.ev) ≤ 1000 * 1000000000 := by
            have h1 := sumL_le (M := 1000000000) (by decide) ((es.take j).map Ge.ev) (fun y hy => by
              obtain ⟨z, hz, rfl⟩ := List.mem_map.1 hy
              rw [(HGR.out.at_ z (List.mem_of_mem_take hz)).1]
              exact (rawG_rng (HON.out.ok (by omega) (by omega)) (by omega) z.id).1)
            rw [List.length_map, List.length_take] at h1
            omega
          have hpl2 : x.n = pp.length := by
            obtain ⟨_, _, h9⟩ := own_sl hps
            simp only [Ge.sl, Value.slice.injEq] at h9
            exact h9.2.1
          obtain ⟨xi, xA, xn, xc, xe, xw, xf, xl⟩ := x
          simp only [Ge.sl] at hev hps hrng hpl2
          subst hev hpl2
          have HPS := hide hps
          have HSR := hide hsr
          have d0 : wr.cell? ⟨gb, go + j * 6, none⟩ = some (.int .i64 xi) := by simpa using hc 0 _ rfl
          have d1 : wr.cell? ⟨gb, go + j * 6 + 1, none⟩ = some (.slice xA pp.length xc) := hc 1 _ rfl
          have d2 : wr.cell? ⟨gb, go + j * 6 + 2, none⟩ = some (.int .i64 xe) := hc 2 _ rfl
          have d3 : wr.cell? ⟨gb, go + j * 6 + 3, none⟩ = some (.int .i64 xe) := hc 3 _ rfl
          have d4 : wr.cell? ⟨gb, go + j * 6 + 4, none⟩ = some (.int .i64 xf) := hc 4 _ rfl
          have d5 : wr.cell? ⟨gb, go + j * 6 + 5, none⟩ = some (.int .i64 xl) := hc 5 _ rfl
          subst hvA
          have hB2' := hB2.size
          have HB2 := hide hB2
          have hjl' : (j : Int) < (es.length : Int) := by omega
          obtain ⟨S, hS⟩ : ∃ S, sumL ((es.take j).map Ge.ev) = S := ⟨_, rfl⟩
          have HSS := hide (show sumL ((es.take (j + 1)).map Ge.ev) = S + xe by rw [HTK.out, List.map_append, sumL_append, ← hS]; simp [sumL])
          rw [hS] at hsm ⊢
          have hz2 := hB2.size
          clear hc hx hps hsr hat hpp HTK hxm hgb hS hB2 hB2'
          go_wp2_with (fail)
          refine (IsSrt_any (HPS.out.alloc _) hpl HSR.out).mono ?_
          rintro e4 w4 ⟨rfl, q4, hq4⟩
          have hb4 : Below (wr.alloc (.cells #[.int .i64 xi, .slice xA pp.length xc, .int .i64 xe, .int .i64 xe, .int .i64 xf, .int .i64 xl] 46)).heap.size (wr.alloc (.cells #[.int .i64 xi, .slice xA pp.length xc, .int .i64 xe, .int .i64 xe, .int .i64 xf, .int .i64 xl] 46)) w4 := hq4 ▸ below_drewN (Below.refl _ _) _
          have HA4 := hide (block_below (heap_alloc_new wr _) hb4)
          have y2 : w4.cell? ⟨wr.heap.size, 2, none⟩ = some (.int .i64 xe) := (block_cell HA4.out 2).trans rfl
          have HB4 := hide ((HB2.out.alloc hz2 _).trans (hb4.mono (by simp; omega)))
          clear hq4 hb4
          go_wp2_with (fail)
          go_roundw
          case rel => exact ⟨j + 1, by omega, by go_num, by rw [HSS.out], HB4.out⟩
          case measure => simp [intOf]; omega
        · have hje : j = es.length := by omega
          have hS : sumL ((es.take j).map Ge.ev) = (k : Int) := by rw [hje, List.take_length, sum_grs HGR.out, HON.out.sum]
          rw [hS]
          have HW2 := hide (HWg.out.below hB2)
          have hzg := HBg.out.size
          have HBE := hide (HBg.out.trans (hB2.mono hzg))
          have hG1 : w.heap.size ≤ X.G1 := Nat.le_trans hXz HXO.out.wz
          have HSD := hide (said_all (HC1.out.up hwt) (show at_ ≤ 400000 by omega))
          have CT := hide (al.Tick_pw HW2.out at_ (by simp [al.momB, outsideB]; omega) (by omega) (by decide) (fun x hx => by
            rw [List.mem_singleton.1 hx]
            exact ⟨by decide, by decide, by decide, by decide, by decide, by decide, by decide, hw0⟩) hw0 ⟨by omega, fun c hc => by
            obtain ⟨a, rfl, _, _⟩ := HC1.out c hc
            exact ⟨by show (0 : Int) ≤ 1; decide, by show (1 : Int) ≤ 1000000; decide, show (⟨#[107]⟩ : ByteArray).size ≤ maxLen by decide⟩⟩ (by decide) (by decide))
          clear HWg HGR HSL HON HBg HW2 hB2 HC1 hS
          go_wp2_with (fail)
          refine CT.out.mono ?_
          rintro e5 w5 ⟨ov, rfl, hp5, hr5, hk5⟩
          obtain ⟨oA, oc, rfl⟩ := own_sl hr5
          have CS := hide (al.Status_pw hp5 (by simp))
          have HB5 := hide (HBE.out.trans (hk5.be.mono hG1))
          have hz5 := HB5.out.size
          clear CT hp5 hr5 hk5 HBE
          go_wp2_with (fail)
          refine CS.out.mono ?_
          rintro e6 w6 ⟨sv, rfl, hr6, hb6⟩
          obtain ⟨y, hy⟩ : ∃ y, al.tkW cs [] at_ (al.wd0 0 rlAll) = y := ⟨_, rfl⟩
          have HS2 := HSD.out
          rw [hkc, hy] at HS2
          have hr7 : w6.ownsRow w5.heap.size 54 4 sv 1 [.string y.r.name, .int .i64 y.st, .int .i64 y.si, .int .i64 y.va] := by
            rw [← hy]; exact hr6
          obtain ⟨sg, sc, cur, rfl, hsb, hsblk, _⟩ := own_blk hr7 (by decide)
          have s1 : w6.cell? ⟨sg, 1, none⟩ = some (.int .i64 y.st) := own_cell hr7 1 _ rfl
          have s3 : w6.cell? ⟨sg, 3, none⟩ = some (.int .i64 y.va) := own_cell hr7 3 _ rfl
          have HB6 := hide (HB5.out.trans (hb6.mono hz5))
          obtain ⟨hva, hst⟩ := HS2
          rw [hva] at s3
          clear hr6 hr7 hsblk hb6 HSD CS hy hva
          by_cases hst2 : y.st = 2
          · have hk0 : 0 < (k : Int) := by
              rw [decide_eq_true hst2] at hst
              exact of_decide_eq_true hst.symm
            rw [hst2] at s1
            clear hst
            go_wp2_with (fail)
            go_ret
            exact ⟨ret_bool (by simp; omega), HB6.out⟩
          · have hk0 : ¬ 0 < (k : Int) := by
              rw [decide_eq_false hst2] at hst
              exact of_decide_eq_false hst.symm
            clear hst
            go_wp2_with (fail)
            go_ret
            have h9 : (y.st == 2) = false := by simpa using hst2
            have h10 : decide (0 < k) = false := decide_eq_false (by omega)
            exact ⟨ret_bool (by rw [h9, h10]; rfl), HB6.out⟩
end Go.Proofs.YtkkhjlomicokgaaGreatDoor.Bk
