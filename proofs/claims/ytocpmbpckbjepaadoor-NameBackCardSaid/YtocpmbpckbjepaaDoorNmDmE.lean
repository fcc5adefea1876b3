/- Walk of types of the program's reader of mangled names (printed by gen_dc.py). -/
import Derived.Test.YtocpmbpckbjepaaDoorNmDmD
namespace Go.Proofs.YtocpmbpckbjepaaDoor
open Go.RowKit
set_option linter.unusedVariables false
set_option linter.unusedSimpArgs false
set_option maxRecDepth 100000 in
set_option maxHeartbeats 8000000 in
theorem nTys_of {s : ByteArray} {f : Nat} (H : nOneOk s f) (hf : f ≤ 12) : nTysOk s f := by
  intro B c mb D F i d w hBw htb hs hi hDi hd h
  obtain ⟨i0, hi0, iz0, iz1, iz2⟩ := info_parts info_ty
  have HP := hide (nR.refl h)
  have HONE := hide H
  have HTB := hide htb
  have HDD := hide hd
  clear h H htb hd
  obtain ⟨R, hR⟩ : ∃ R, dTys s (dOne s f) (s.size + 1) [] [] D i = R := ⟨_, rfl⟩
  rw [hR]
  have HRR := hide hR
  clear hR
  go_enter Tryd.func47, Tryd.ntmps47
  go_wp2_with (fail)
  go_loopw [6, 7] (fun vrow vk wr => (∃ (n g x : Nat) (acc : List Ty) (ids : List Nat) (D1 : List Nd) (F1 : Nat → Prop) (kb : ByteArray), vk = .string kb ∧ kb.data.toList = pIds ids ∧ kb.size + 5 * i ≤ 5 * x ∧ acc.length = ids.length ∧ ids.length + i ≤ x ∧ nLoc c mb w.heap.size 75 3 TyU F1 wr vrow n acc ∧ x ≤ s.size ∧ s.size < x + g ∧ D1.length ≤ x ∧ dTys s (dOne s f) g acc ids D1 x = R ∧ nR B c mb s x (-1) D1 F F1 w wr) ∨
    (∃ (A : Option Addr) (n q e x : Nat) (D1 : List Nd) (F1 : Nat → Prop) (kb : ByteArray), vrow = .slice A n q ∧ vk = .string kb ∧ kb.size ≤ 5 * s.size ∧ R = .bad e ∧ x ≤ s.size + 2 * f + 2 ∧ nR B c mb s x e D1 F F1 w wr)) (fun _ _ wr => msD c s wr)
  case atStart => exact .inl ⟨0, s.size + 1, i, [], [], D, F, ⟨#[]⟩, rfl, rfl, by show 0 + 5 * i ≤ 5 * i; omega, rfl, by simp, nLoc.nil _ _ _ _ _ _ _ _, hi, by omega, hDi, HRR.out, HP.out⟩
  case round =>
    rcases hrel with ⟨n, g, x, acc, ids, D1, F1, kb, rfl, hkb, hkz, hal, hil, hown, hx, hg, hDx, hR, hp⟩ | ⟨A, n, q, e, x, D1, F1, kb, rfl, rfl, hkz, hR, hx, hp⟩
    · obtain ⟨g, rfl⟩ : ∃ g', g = g' + 1 := ⟨g - 1, by omega⟩
      have hzw := hp.size
      have hBz := Nat.le_trans hBw hzw
      have hnl := hown.own.len
      obtain ⟨A0, q0, rfl⟩ := hown.own.sl
      have c2 := hp.st.c2
      have hokD := hide hp.st.ok
      have HQ := hide hp
      have HOW := hide hown
      have HR := hide hR
      have HKB := hide hkb
      have HMS := hide (msD_on hp.st)
      have HPK := hide (nPeek B c mb s D1 F1 wr hBz x hs hp.st)
      have HC := hide (fun (W : World) (h : nR B c mb s x (-1) D1 F F1 w W) => HONE.out B c mb D1 F1 x d W (Nat.le_trans hBw h.size) (HTB.out.below h.be) hs hx hDx HDD.out h.st)
      have HGO := hide (fun j y (h : dOne s f D1 x = .ok j y) => one_go hx hokD.out h)
      clear hown hp hR hkb
      by_cases h0 : n = 0
      · subst h0
        have hno : ¬ (acc.length ≠ 0 ∧ s.data.toList[x]? = some 69) := fun h => h.1 hnl
        cases hr : dOne s f D1 x with
        | bad e0 =>
          have HE := hide (HR.out.symm.trans (dTys_bad hno hr))
          have HRB := hide hr
          clear hr
          go_wp2_with (first | (go_at_call 27; refine (HC.out _ HQ.out).mono ?_; intro e w1 hrp; obtain ⟨rfl, y, D2, F2, hy, hr1⟩ := hrp.of_bad HRB.out; have HR1 := hide ((HQ.out.trans hr1).alloc hBw (.cells #[.int .i64 0, .int .i64 0, .slice none 0 0, .slice none 0 0] 77)); have c2 := HR1.out.st.c2; clear hr1 hrp))
          go_roundw
          case rel => exact .inr ⟨A0, _, q0, e0, y, D2, F2, kb, rfl, rfl, by omega, HE.out, hy, HR1.out⟩
          case measure => rw [HMS.out, msD_off (by omega) HR1.out.st]; omega
        | ok y z =>
          have HE := hide ((dTys_go hno hr).symm.trans HR.out)
          have hgo := HGO.out y z hr
          have HRB := hide hr
          clear hr
          obtain ⟨m, t, D2⟩ := z
          have hxy := hgo.lt
          have hys := hgo.le
          have hle := hgo.ext.len
          have hm := hgo.no
          simp only at hle hm
          go_wp2_with (first | (go_at_call 27; refine (HC.out _ HQ.out).mono ?_; intro e w1 hrp; obtain ⟨F2, k, A1, n1, q1, A2, n2, q2, rfl, hty, hr1⟩ := hrp.of_ok HRB.out; have HTY := hide hty; have HX1 := hide (HOW.out.step stay_tyU hr1); have HR1 := hide (HQ.out.trans hr1); have hz1 := HR1.out.size; have HRA := hide (HR1.out.alloc hBw (.cells #[.int .i64 m, .int .i64 k, .slice A1 n1 q1, .slice A2 n2 q2] 77)); have c2 := HRA.out.st.c2; have HNA := hide (heap_alloc_new w1 (.cells #[.int .i64 m, .int .i64 k, .slice A1 n1 q1, .slice A2 n2 q2] 77)); have m0 := block_cell HNA.out 0; have m1 := block_cell HNA.out 1; have m2 := block_cell HNA.out 2; have m3 := block_cell HNA.out 3; clear hty hr1 hrp) | (at_builtin; refine wpList_append_own_at _ rfl (.tmp 32) (.tmp 35) 23 rfl w.heap.size 75 i0 (.agg #[.int .i64 0, .slice none 0 0, .slice none 0 0]) 3 56 Tryd.underlying23 hi0 iz0 iz1 iz2 rfl (by decide) _ 0 _ rfl ((HX1.out.own.choose_spec.1.alloc _).alloc _) ⟨w1.heap.size + 1, 0, none⟩ 1 1 [.int .i64 k, .slice A1 n1 q1, .slice A2 n2 q2] rfl rfl (cells_new2 w1 (.cells #[.int .i64 m, .int .i64 k, .slice A1 n1 q1, .slice A2 n2 q2] 77) [.int .i64 k, .slice A1 n1 q1, .slice A2 n2 q2] _) (by intro u hu; simp at hu; rcases hu with rfl | rfl | rfl <;> rfl) (by unfold maxLen; omega) (by omega) (by simp; try omega) ?_; intro v2 w2 hown2 hg2 _ hv2; obtain ⟨ao, cp, rfl⟩ := own_sl hown2; have HP2 := nPush HX1.out stay_tyU HR1.out hBw (Nat.le_refl _) rfl HTY.out (below_2 _ _ _) hown2 hg2 hv2; have HR2 := hide HP2.1; have HX2 := hide HP2.2; have HNB := hide (kept_push HX1.out.own.choose_spec.1 (Nat.le_refl _) (block_below HNA.out ((Below.refl _ _).alloc (Nat.le_refl _) _)) hg2); have m0' := block_cell HNB.out 0; have IT := hide (itoa4 w2 (n := m) (by omega) (HTB.out.below HR2.out.be)); clear HP2 hown2 hg2 hv2 m0 m1 m2 m3) | (go_at_call 42; refine IT.out.mono ?_; rintro e w4 ⟨kz, rfl, hkz1, hkz4, hb4⟩; have HKZ := hide hkz1; have nb1 : ¬ 9223372036854775807 < kz.size + 1 := (by omega); have nb2 : ¬ 9223372036854775807 < kb.size + (kz.size + 1) := (by omega); have HR4 := hide (HR2.out.below hBw hb4); have HX4 := hide (HX2.out.step stay_tyU ((nR.refl HR2.out.st).below (Nat.le_trans hBw HR2.out.size) hb4)); clear hkz1 hb4))
          go_roundw
          case rel => exact .inl ⟨0 + 1, g, y, acc ++ [t], ids ++ [m], D2, F2, kb ++ (kz ++ ⟨#[44]⟩), rfl, by rw [app_toList, app_toList, HKB.out, HKZ.out, pIds_snoc], by rw [ByteArray.size_append, ByteArray.size_append]; show kb.size + (kz.size + 1) + 5 * i ≤ 5 * y; omega, by simp [hal], by rw [List.length_append, List.length_singleton]; omega, HX4.out, hys, by omega, by omega, HE.out, HR4.out⟩
          case measure => rw [HMS.out, msD_on HR4.out.st]; omega
      · have h0' : ¬ (n : Int) = 0 := by omega
        have h0'' : ((n : Int) == 0) = false := by simpa using h0
        by_cases hE : s.data.toList[x]? = some 69
        · have HE := hide (HR.out.symm.trans (dTys_end (by omega) hE))
          have HPE := hide (pkB_is hE)
          rw [HPE.out] at HPK
          have HTK := hide (fun (W : World) (hW : B ≤ W.heap.size) (h : nS B c mb s x (-1) D1 F1 W) => nTake_ok B c mb s D1 F1 W hW x 69 hs hE h)
          have hxs := get_lt hE
          clear hE
          go_wp2_with (first | (go_at_call 26; refine HPK.out.mono ?_; rintro e wp ⟨rfl, hrp⟩; have HRP := hide hrp; have HQP := hide (HQ.out.trans hrp); clear hrp) | (go_at_call 24; refine (HTK.out _ (Nat.le_trans hBw HQP.out.size) HQP.out.st).mono ?_; rintro e w2 ⟨rfl, hr⟩; have HT2 := hide (HRP.out.trans hr); have HQ2 := hide (HQP.out.trans hr); clear hr))
          go_ret2
          have HX2 := HOW.out.step stay_tyU HT2.out
          obtain ⟨F2, hr2, hFF, A2, q2, hv2, hnq, hqm, hsl⟩ := HX2.done stay_tyU (Nat.le_refl _) HQ2.out
          injection hv2 with e1 e2 e3
          subst e1 e3
          refine RP.ok HE.out ⟨F2, A0, n, q0, kb, rfl, HKB.out, by omega, hnq, hqm, hsl, hr2⟩
        · have hno : ¬ (acc.length ≠ 0 ∧ s.data.toList[x]? = some 69) := fun h => hE h.2
          have hne := pk_ne (by decide) hE
          have hne' : (((pkB s x).toNat : Int) == 69) = false := by simpa using hne
          clear hE
          cases hr : dOne s f D1 x with
          | bad e0 =>
            have HE := hide (HR.out.symm.trans (dTys_bad hno hr))
            have HRB := hide hr
            clear hr
            go_wp2_with (first | (go_at_call 26; refine HPK.out.mono ?_; rintro e wp ⟨rfl, hrp⟩; have HRP := hide hrp; have HQP := hide (HQ.out.trans hrp); clear hrp) | (go_at_call 27; refine (HC.out _ HQP.out).mono ?_; intro e w1 hrp; obtain ⟨rfl, y, D2, F2, hy, hr1⟩ := hrp.of_bad HRB.out; have HR1 := hide ((HQP.out.trans hr1).alloc hBw (.cells #[.int .i64 0, .int .i64 0, .slice none 0 0, .slice none 0 0] 77)); have c2 := HR1.out.st.c2; clear hr1 hrp))
            go_roundw
            case rel => exact .inr ⟨A0, _, q0, e0, y, D2, F2, kb, rfl, rfl, by omega, HE.out, hy, HR1.out⟩
            case measure => rw [HMS.out, msD_off (by omega) HR1.out.st]; omega
          | ok y z =>
            have HE := hide ((dTys_go hno hr).symm.trans HR.out)
            have hgo := HGO.out y z hr
            have HRB := hide hr
            clear hr
            obtain ⟨m, t, D2⟩ := z
            have hxy := hgo.lt
            have hys := hgo.le
            have hle := hgo.ext.len
            have hm := hgo.no
            simp only at hle hm
            go_wp2_with (first | (go_at_call 26; refine HPK.out.mono ?_; rintro e wp ⟨rfl, hrp⟩; have HRP := hide hrp; have HQP := hide (HQ.out.trans hrp); clear hrp) | (go_at_call 27; refine (HC.out _ HQP.out).mono ?_; intro e w1 hrp; obtain ⟨F2, k, A1, n1, q1, A2, n2, q2, rfl, hty, hr1⟩ := hrp.of_ok HRB.out; have HTY := hide hty; have HX1 := hide ((HOW.out.step stay_tyU HRP.out).step stay_tyU hr1); have HR1 := hide (HQP.out.trans hr1); have hz1 := HR1.out.size; have HRA := hide (HR1.out.alloc hBw (.cells #[.int .i64 m, .int .i64 k, .slice A1 n1 q1, .slice A2 n2 q2] 77)); have c2 := HRA.out.st.c2; have HNA := hide (heap_alloc_new w1 (.cells #[.int .i64 m, .int .i64 k, .slice A1 n1 q1, .slice A2 n2 q2] 77)); have m0 := block_cell HNA.out 0; have m1 := block_cell HNA.out 1; have m2 := block_cell HNA.out 2; have m3 := block_cell HNA.out 3; clear hty hr1 hrp) | (at_builtin; refine wpList_append_own_at _ rfl (.tmp 32) (.tmp 35) 23 rfl w.heap.size 75 i0 (.agg #[.int .i64 0, .slice none 0 0, .slice none 0 0]) 3 56 Tryd.underlying23 hi0 iz0 iz1 iz2 rfl (by decide) _ n _ rfl ((HX1.out.own.choose_spec.1.alloc _).alloc _) ⟨w1.heap.size + 1, 0, none⟩ 1 1 [.int .i64 k, .slice A1 n1 q1, .slice A2 n2 q2] rfl rfl (cells_new2 w1 (.cells #[.int .i64 m, .int .i64 k, .slice A1 n1 q1, .slice A2 n2 q2] 77) [.int .i64 k, .slice A1 n1 q1, .slice A2 n2 q2] _) (by intro u hu; simp at hu; rcases hu with rfl | rfl | rfl <;> rfl) (by unfold maxLen; omega) (by omega) (by simp; try omega) ?_; intro v2 w2 hown2 hg2 _ hv2; obtain ⟨ao, cp, rfl⟩ := own_sl hown2; have HP2 := nPush HX1.out stay_tyU HR1.out hBw (Nat.le_refl _) rfl HTY.out (below_2 _ _ _) hown2 hg2 hv2; have HR2 := hide HP2.1; have HX2 := hide HP2.2; have HNB := hide (kept_push HX1.out.own.choose_spec.1 (Nat.le_refl _) (block_below HNA.out ((Below.refl _ _).alloc (Nat.le_refl _) _)) hg2); have m0' := block_cell HNB.out 0; have IT := hide (itoa4 w2 (n := m) (by omega) (HTB.out.below HR2.out.be)); clear HP2 hown2 hg2 hv2 m0 m1 m2 m3) | (go_at_call 42; refine IT.out.mono ?_; rintro e w4 ⟨kz, rfl, hkz1, hkz4, hb4⟩; have HKZ := hide hkz1; have nb1 : ¬ 9223372036854775807 < kz.size + 1 := (by omega); have nb2 : ¬ 9223372036854775807 < kb.size + (kz.size + 1) := (by omega); have HR4 := hide (HR2.out.below hBw hb4); have HX4 := hide (HX2.out.step stay_tyU ((nR.refl HR2.out.st).below (Nat.le_trans hBw HR2.out.size) hb4)); clear hkz1 hb4))
            go_roundw
            case rel => exact .inl ⟨n + 1, g, y, acc ++ [t], ids ++ [m], D2, F2, kb ++ (kz ++ ⟨#[44]⟩), rfl, by rw [app_toList, app_toList, HKB.out, HKZ.out, pIds_snoc], by rw [ByteArray.size_append, ByteArray.size_append]; show kb.size + (kz.size + 1) + 5 * i ≤ 5 * y; omega, by simp [hal], by rw [List.length_append, List.length_singleton]; omega, HX4.out, hys, by omega, by omega, HE.out, HR4.out⟩
            case measure => rw [HMS.out, msD_on HR4.out.st]; omega
    · have c2 := hp.st.c2
      have HQ := hide hp
      have HR := hide hR
      clear hp hR
      have hoff : decide (((e : Nat) : Int) < 0) = false := by simp
      have HTK := hide (nTake_off B c mb s D1 F1 wr (Nat.le_trans hBw HQ.out.size) x e 69 (by omega) (by omega) HQ.out.st)
      go_wp2_with (first | (go_at_call 24; refine HTK.out.mono ?_; rintro e w2 ⟨rfl, hr⟩; have HQ2 := hide (HQ.out.trans hr); clear hr))
      go_ret2
      exact RP.bad HR.out ⟨A, n, q, kb, rfl, hkz, x + 1, D1, F1, by omega, HQ2.out⟩
end Go.Proofs.YtocpmbpckbjepaaDoor
