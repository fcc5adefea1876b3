/- What the calls of the reference's reader of mangled names answer; walk of until (printed by gen_rq.py). -/
import Derived.Test.YtecancnojdifaaaDoorNmDrA
import Derived.Test.YtecancnojdifaaaDoorNmDmD
namespace Go.Proofs.YtecancnojdifaaaDoor
open Go.RowKit
set_option linter.unusedVariables false
set_option linter.unusedSimpArgs false
theorem atD_rS {B c mb : Nat} {s : ByteArray} {i : Nat} {q : Int} {D : List Nd} {F : Nat → Prop} {w : World} (h : rS B c mb s i q D F w) : atD c w = i := by
  unfold atD; rw [h.c1]; simp
theorem msR_on {B c mb : Nat} {s : ByteArray} {i : Nat} {D : List Nd} {F : Nat → Prop} {w : World} (h : rS B c mb s i (-1) D F w) : msD c s w = s.size - i + 1 := by
  unfold msD; rw [h.c2, atD_rS h]; simp
theorem msR_off {B c mb : Nat} {s : ByteArray} {i q : Int} {D : List Nd} {F : Nat → Prop} {w : World} (h0 : 0 ≤ q) (h : rS B c mb s i q D F w) : msD c s w = 0 := by
  unfold msD; rw [h.c2]; simp only; rw [if_neg (by omega)]
theorem told4R {n : Nat} (w : World) (hn : n < 10000) : Calls Tryd.prog 72 #[.int .i64 (n : Int)] w fun e w' => ∃ k : ByteArray, e = .returned (.string k) ∧ k.data.toList = toldL (n : Int) ∧ k.size ≤ 4 ∧ Below w.heap.size w w' :=
  (Told_any (n : Int) w (by omega) (by omega)).mono fun e w' ⟨h1, h2⟩ => ⟨⟨(toldL (n : Int)).toArray⟩, h1, rfl, by simpa [ByteArray.size] using told4 hn, h2⟩
/-- What the call of one answers, f types from the bottom. -/
def rOneOk (s : ByteArray) (f : Nat) : Prop := ∀ (B c mb : Nat) (D : List Nd) (F : Nat → Prop) (i : Nat) (d : Int) (w : World), B ≤ w.heap.size → s.size ≤ 8000 → i ≤ s.size → D.length ≤ i → d = 12 - (f : Int) → rS B c mb s i (-1) D F w →
  Calls Tryd.prog 34 #[.pointer (some ⟨c, 0, none⟩), .int .i64 d] w fun e w' => RP (dOne s f D i)
    (fun e0 => ∃ (k : Int) (A : Option Addr) (n q : Nat) (A' : Option Addr) (n' q' : Nat), e = .returned (.tuple #[.agg #[.int .i64 k, .slice A n q, .slice A' n' q'], .int .i64 0]) ∧ ∃ (j : Int) (D' : List Nd) (F' : Nat → Prop), rR B c mb s j e0 D' F F' w w')
    (fun j x => ∃ (F' : Nat → Prop) (k : Int) (A : Option Addr) (n q : Nat) (A' : Option Addr) (n' q' : Nat), e = .returned (.tuple #[.agg #[.int .i64 k, .slice A n q, .slice A' n' q'], .int .i64 x.1]) ∧ TyU w' F' x.2.1 [.int .i64 k, .slice A n q, .slice A' n' q'] ∧ rR B c mb s j (-1) x.2.2 F F' w w')
def rTysOk (s : ByteArray) (f : Nat) : Prop := ∀ (B c mb : Nat) (D : List Nd) (F : Nat → Prop) (i : Nat) (d : Int) (w : World), B ≤ w.heap.size → s.size ≤ 8000 → i ≤ s.size → D.length ≤ i → d = 12 - (f : Int) → rS B c mb s i (-1) D F w →
  Calls Tryd.prog 70 #[.pointer (some ⟨c, 0, none⟩), .int .u8 69, .int .i64 d] w fun e w' => RP (dTys s (dOne s f) (s.size + 1) [] [] D i)
    (fun e0 => ∃ (A : Option Addr) (n q : Nat) (kb : ByteArray), e = .returned (.tuple #[.slice A n q, .string kb]) ∧ kb.size ≤ 5 * s.size + 5 ∧ ∃ (j : Int) (D' : List Nd) (F' : Nat → Prop), rR B c mb s j e0 D' F F' w w')
    (fun j x => ∃ (F' : Nat → Prop) (A : Option Addr) (n q : Nat) (kb : ByteArray), e = .returned (.tuple #[.slice A n q, .string kb]) ∧ kb.data.toList = pIds x.2.1 ∧ kb.size + 5 * i ≤ 5 * j ∧ n ≤ q ∧ q ≤ maxLen ∧ SlS w' F' 3 (TyU w' F') A n x.1 ∧ rR B c mb s j (-1) x.2.2 F F' w w')
set_option maxRecDepth 100000 in
set_option maxHeartbeats 8000000 in
theorem rTys_of {s : ByteArray} {f : Nat} (H : rOneOk s f) (hf : f ≤ 12) : rTysOk s f := by
  intro B c mb D F i d w hBw hs hi hDi hd h
  obtain ⟨i0, hi0, iz0, iz1, iz2⟩ := info_parts info_ty
  have HP := hide (rR.refl h)
  have HONE := hide H
  have HDD := hide hd
  clear h H hd
  obtain ⟨R, hR⟩ : ∃ R, dTys s (dOne s f) (s.size + 1) [] [] D i = R := ⟨_, rfl⟩
  rw [hR]
  have HRR := hide hR
  clear hR
  go_enter Tryd.func70, Tryd.ntmps70
  go_wp2_with (fail)
  go_loopw [8, 9] (fun vrow vk wr => (∃ (n g x : Nat) (acc : List Ty) (ids : List Nat) (D1 : List Nd) (F1 : Nat → Prop) (kb : ByteArray), vk = .string kb ∧ kb.data.toList = pIds ids ∧ kb.size + 5 * i ≤ 5 * x ∧ acc.length = ids.length ∧ ids.length + i ≤ x ∧ rJ B c mb s 60 3 TyU F w (x : Nat) (-1) D1 F1 wr vrow n acc ∧ x ≤ s.size ∧ s.size < x + g ∧ D1.length ≤ x ∧ dTys s (dOne s f) g acc ids D1 x = R) ∨
    (∃ (A : Option Addr) (n q e : Nat) (x : Int) (D1 : List Nd) (F1 : Nat → Prop) (kb : ByteArray), vrow = .slice A n q ∧ vk = .string kb ∧ kb.size ≤ 5 * s.size + 5 ∧ R = .bad e ∧ rR B c mb s x e D1 F F1 w wr)) (fun _ _ wr => msD c s wr)
  case atStart => exact .inl ⟨0, s.size + 1, i, [], [], D, F, ⟨#[]⟩, rfl, rfl, by show 0 + 5 * i ≤ 5 * i; omega, rfl, by simp, ⟨HP.out, rLoc.nil _ _ _ _ _ _ _ _⟩, hi, by omega, hDi, HRR.out⟩
  case round =>
    rcases hrel with ⟨n, g, x, acc, ids, D1, F1, kb, rfl, hkb, hkz, hal, hil, hJ, hx, hg, hDx, hR⟩ | ⟨A, n, q, e, x, D1, F1, kb, rfl, rfl, hkz, hR, hp⟩
    · obtain ⟨g, rfl⟩ : ∃ g', g = g' + 1 := ⟨g - 1, by omega⟩
      have hzw := hJ.r.size
      have hBz := Nat.le_trans hBw hzw
      have hnl := hJ.l.own.len
      obtain ⟨A0, q0, rfl⟩ := hJ.l.own.sl
      have c2 := hJ.r.st.c2
      have hokD := hide hJ.r.st.ok
      have HJ := hide hJ
      have HR := hide hR
      have HKB := hide hkb
      have HMS := hide (msR_on hJ.r.st)
      have HPK := hide (rPeek B c mb s D1 F1 wr hBz x hs hJ.r.st)
      have HC := hide (fun (W : World) (h : rR B c mb s x (-1) D1 F F1 w W) => HONE.out B c mb D1 F1 x d W (Nat.le_trans hBw h.size) hs hx hDx HDD.out h.st)
      have HGO := hide (fun j y (h : dOne s f D1 x = .ok j y) => one_go hx hokD.out h)
      clear hJ hR hkb
      by_cases hE : s.data.toList[x]? = some 69
      · have HPE := hide (pkB_is hE)
        rw [HPE.out] at HPK
        by_cases h0 : n = 0
        · subst h0
          have hno : ¬ (acc.length ≠ 0 ∧ s.data.toList[x]? = some 69) := fun h => h.1 hnl
          clear hE HPE
          cases hr : dOne s f D1 x with
          | bad e0 =>
            have HE := hide (HR.out.symm.trans (dTys_bad hno hr))
            have HRB := hide hr
            clear hr
            go_wp2_with (first | (go_at_call 33; refine HPK.out.mono ?_; rintro e wp ⟨rfl, hrp⟩; have HJP := hide (HJ.out.adv stay_tyU hrp); have c1' := hrp.st.c1; have f1' := hrp.st.f 1; clear hrp HPK) | (go_at_call 34; refine (HC.out _ HJP.out.r).mono ?_; intro e w1 hrp; obtain ⟨k, A1, n1, q1, A2, n2, q2, rfl, y, D2, F2, hr⟩ := hrp.of_bad HRB.out; have HJ1 := hide (HJP.out.adv stay_tyU hr); have hr2 := (rR.refl HJ1.out.r.st).alloc (Nat.le_trans hBw HJ1.out.r.size) (.cells #[.int .i64 k, .slice A1 n1 q1, .slice A2 n2 q2] 60); have HJ2 := hide (HJ1.out.adv stay_tyU hr2); have HNA := hide (heap_alloc_new w1 (.cells #[.int .i64 k, .slice A1 n1 q1, .slice A2 n2 q2] 60)); have m0 := block_cell HNA.out 0; have m1 := block_cell HNA.out 1; have m2 := block_cell HNA.out 2; clear hr hr2 hrp c1' f1') | (at_builtin; refine wpList_append_own_at _ rfl (.tmp 39) (.tmp 41) 23 rfl w.heap.size 60 i0 (.agg #[.int .i64 0, .slice none 0 0, .slice none 0 0]) 3 56 Tryd.underlying23 hi0 iz0 iz1 iz2 rfl (by decide) _ 0 _ rfl (HJ2.out.l.own.choose_spec.1.alloc _) ⟨w1.heap.size + 1, 0, none⟩ 1 1 [.int .i64 k, .slice A1 n1 q1, .slice A2 n2 q2] rfl rfl (cells_new2 w1 (.cells #[.int .i64 k, .slice A1 n1 q1, .slice A2 n2 q2] 60) [.int .i64 k, .slice A1 n1 q1, .slice A2 n2 q2] _) (by intro u hu; simp at hu; rcases hu with rfl | rfl | rfl <;> rfl) (by unfold maxLen; omega) (by omega) (by have := HJ2.out.r.size; simp at this ⊢; omega) ?_; intro v2 w2 hown2 hg2 _ hv2; obtain ⟨ao, cp, rfl⟩ := own_sl hown2; have HR3 := hide (HJ2.out.grow hBw (Below.alloc (Below.refl _ _) (Nat.le_refl _) _) hg2); clear hown2 hg2 hv2 m0 m1 m2) | (go_at_call 72; refine (told4R (n := 0) _ (by omega)).mono ?_; rintro e w4 ⟨kz, rfl, hkz1, hkz4, hb4⟩; have HKZ := hide hkz1; have nb1 : ¬ 9223372036854775807 < kz.size + 1 := (by omega); have nb2 : ¬ 9223372036854775807 < kb.size + (kz.size + 1) := (by omega); have HR4 := hide (HR3.out.below hBw hb4); clear hkz1 hb4))
            go_roundw
            case rel => exact .inr ⟨ao, _, cp, e0, y, D2, F2, kb ++ (kz ++ ⟨#[44]⟩), rfl, rfl, by rw [ByteArray.size_append, ByteArray.size_append]; show kb.size + (kz.size + 1) ≤ _; omega, HE.out, HR4.out⟩
            case measure => rw [HMS.out, msR_off (by omega) HR4.out.st]; omega
          | ok y z =>
            have HE := hide ((dTys_go hno hr).symm.trans HR.out)
            have hgo := HGO.out y z hr
            have HRB := hide hr
            clear hr
            obtain ⟨m, t, D2⟩ := z
            have hxy := hgo.lt
            have hys := hgo.le
            have hle := hgo.ext.len
            have hm := hgo.no
            simp only at hle hm
            go_wp2_with (first | (go_at_call 33; refine HPK.out.mono ?_; rintro e wp ⟨rfl, hrp⟩; have HJP := hide (HJ.out.adv stay_tyU hrp); have c1' := hrp.st.c1; have f1' := hrp.st.f 1; clear hrp HPK) | (go_at_call 34; refine (HC.out _ HJP.out.r).mono ?_; intro e w1 hrp; obtain ⟨F2, k, A1, n1, q1, A2, n2, q2, rfl, hty, hr⟩ := hrp.of_ok HRB.out; have HJ1 := hide (HJP.out.adv stay_tyU hr); have hr2 := (rR.refl HJ1.out.r.st).alloc (Nat.le_trans hBw HJ1.out.r.size) (.cells #[.int .i64 k, .slice A1 n1 q1, .slice A2 n2 q2] 60); have HJ2 := hide (HJ1.out.adv stay_tyU hr2); have HNA := hide (heap_alloc_new w1 (.cells #[.int .i64 k, .slice A1 n1 q1, .slice A2 n2 q2] 60)); have m0 := block_cell HNA.out 0; have m1 := block_cell HNA.out 1; have m2 := block_cell HNA.out 2; have HTY := hide (stay_tyU _ _ _ _ _ _ hty hr2.stayF (fun _ h _ => h)); clear hty; clear hr hr2 hrp c1' f1') | (at_builtin; refine wpList_append_own_at _ rfl (.tmp 39) (.tmp 41) 23 rfl w.heap.size 60 i0 (.agg #[.int .i64 0, .slice none 0 0, .slice none 0 0]) 3 56 Tryd.underlying23 hi0 iz0 iz1 iz2 rfl (by decide) _ 0 _ rfl (HJ2.out.l.own.choose_spec.1.alloc _) ⟨w1.heap.size + 1, 0, none⟩ 1 1 [.int .i64 k, .slice A1 n1 q1, .slice A2 n2 q2] rfl rfl (cells_new2 w1 (.cells #[.int .i64 k, .slice A1 n1 q1, .slice A2 n2 q2] 60) [.int .i64 k, .slice A1 n1 q1, .slice A2 n2 q2] _) (by intro u hu; simp at hu; rcases hu with rfl | rfl | rfl <;> rfl) (by unfold maxLen; omega) (by omega) (by have := HJ2.out.r.size; simp at this ⊢; omega) ?_; intro v2 w2 hown2 hg2 _ hv2; obtain ⟨ao, cp, rfl⟩ := own_sl hown2; have HJ3 := hide (HJ2.out.push stay_tyU hBw rfl HTY.out (Below.alloc (Below.refl _ _) (Nat.le_refl _) _) hown2 hg2 hv2); clear hown2 hg2 hv2 m0 m1 m2) | (go_at_call 72; refine (told4R (n := m) _ (by omega)).mono ?_; rintro e w4 ⟨kz, rfl, hkz1, hkz4, hb4⟩; have HKZ := hide hkz1; have nb1 : ¬ 9223372036854775807 < kz.size + 1 := (by omega); have nb2 : ¬ 9223372036854775807 < kb.size + (kz.size + 1) := (by omega); have HJ4 := hide (HJ3.out.adv stay_tyU ((rR.refl HJ3.out.r.st).below (Nat.le_trans hBw HJ3.out.r.size) hb4)); clear hkz1 hb4))
            go_roundw
            case rel => exact .inl ⟨0 + 1, g, y, acc ++ [t], ids ++ [m], D2, F2, kb ++ (kz ++ ⟨#[44]⟩), rfl, by rw [app_toList, app_toList, HKB.out, HKZ.out, pIds_snoc], by rw [ByteArray.size_append, ByteArray.size_append]; show kb.size + (kz.size + 1) + 5 * i ≤ 5 * y; omega, by simp [hal], by rw [List.length_append, List.length_singleton]; omega, HJ4.out, hys, by omega, by omega, HE.out⟩
            case measure => rw [HMS.out, msR_on HJ4.out.r.st]; omega
        · have h0' : (0 : Int) < (n : Int) := by omega
          have HE := hide (HR.out.symm.trans (dTys_end (by omega) hE))
          have hxs := get_lt hE
          clear hE
          go_wp2_with (first | (go_at_call 33; refine HPK.out.mono ?_; rintro e wp ⟨rfl, hrp⟩; have HJP := hide (HJ.out.adv stay_tyU hrp); have c1' := hrp.st.c1; have f1' := hrp.st.f 1; clear hrp HPK))
          go_ret2
          have HJ9 : rJ B c mb s 60 3 TyU F w ((x + 1 : Nat) : Int) (-1) D1 F1 (wp.setCell ⟨c, 1, none⟩ (.int .i64 ((x : Int) + 1))) (.slice A0 n q0) n acc := by
            rw [show ((x + 1 : Nat) : Int) = (x : Int) + 1 by omega]
            exact HJP.out.adv stay_tyU ((rR.refl HJP.out.r.st).set1 (Nat.le_trans hBw HJP.out.r.size) _)
          obtain ⟨F2, hr2, hFF, A2, q2, hv2, hnq, hqm, hsl⟩ := HJ9.done stay_tyU
          injection hv2 with e1 e2 e3
          subst e1 e3
          exact RP.ok HE.out ⟨F2, A0, n, q0, kb, rfl, HKB.out, by omega, hnq, hqm, hsl, hr2⟩
      · have hno : ¬ (acc.length ≠ 0 ∧ s.data.toList[x]? = some 69) := fun h => hE h.2
        have hne := pk_ne (by decide) hE
        have hne' : (((pkB s x).toNat : Int) == 69) = false := by simpa using hne
        clear hE
        cases hr : dOne s f D1 x with
        | bad e0 =>
          have HE := hide (HR.out.symm.trans (dTys_bad hno hr))
          have HRB := hide hr
          clear hr
          go_wp2_with (first | (go_at_call 33; refine HPK.out.mono ?_; rintro e wp ⟨rfl, hrp⟩; have HJP := hide (HJ.out.adv stay_tyU hrp); have c1' := hrp.st.c1; have f1' := hrp.st.f 1; clear hrp HPK) | (go_at_call 34; refine (HC.out _ HJP.out.r).mono ?_; intro e w1 hrp; obtain ⟨k, A1, n1, q1, A2, n2, q2, rfl, y, D2, F2, hr⟩ := hrp.of_bad HRB.out; have HJ1 := hide (HJP.out.adv stay_tyU hr); have hr2 := (rR.refl HJ1.out.r.st).alloc (Nat.le_trans hBw HJ1.out.r.size) (.cells #[.int .i64 k, .slice A1 n1 q1, .slice A2 n2 q2] 60); have HJ2 := hide (HJ1.out.adv stay_tyU hr2); have HNA := hide (heap_alloc_new w1 (.cells #[.int .i64 k, .slice A1 n1 q1, .slice A2 n2 q2] 60)); have m0 := block_cell HNA.out 0; have m1 := block_cell HNA.out 1; have m2 := block_cell HNA.out 2; clear hr hr2 hrp c1' f1') | (at_builtin; refine wpList_append_own_at _ rfl (.tmp 39) (.tmp 41) 23 rfl w.heap.size 60 i0 (.agg #[.int .i64 0, .slice none 0 0, .slice none 0 0]) 3 56 Tryd.underlying23 hi0 iz0 iz1 iz2 rfl (by decide) _ n _ rfl (HJ2.out.l.own.choose_spec.1.alloc _) ⟨w1.heap.size + 1, 0, none⟩ 1 1 [.int .i64 k, .slice A1 n1 q1, .slice A2 n2 q2] rfl rfl (cells_new2 w1 (.cells #[.int .i64 k, .slice A1 n1 q1, .slice A2 n2 q2] 60) [.int .i64 k, .slice A1 n1 q1, .slice A2 n2 q2] _) (by intro u hu; simp at hu; rcases hu with rfl | rfl | rfl <;> rfl) (by unfold maxLen; omega) (by omega) (by have := HJ2.out.r.size; simp at this ⊢; omega) ?_; intro v2 w2 hown2 hg2 _ hv2; obtain ⟨ao, cp, rfl⟩ := own_sl hown2; have HR3 := hide (HJ2.out.grow hBw (Below.alloc (Below.refl _ _) (Nat.le_refl _) _) hg2); clear hown2 hg2 hv2 m0 m1 m2) | (go_at_call 72; refine (told4R (n := 0) _ (by omega)).mono ?_; rintro e w4 ⟨kz, rfl, hkz1, hkz4, hb4⟩; have HKZ := hide hkz1; have nb1 : ¬ 9223372036854775807 < kz.size + 1 := (by omega); have nb2 : ¬ 9223372036854775807 < kb.size + (kz.size + 1) := (by omega); have HR4 := hide (HR3.out.below hBw hb4); clear hkz1 hb4))
          go_roundw
          case rel => exact .inr ⟨ao, _, cp, e0, y, D2, F2, kb ++ (kz ++ ⟨#[44]⟩), rfl, rfl, by rw [ByteArray.size_append, ByteArray.size_append]; show kb.size + (kz.size + 1) ≤ _; omega, HE.out, HR4.out⟩
          case measure => rw [HMS.out, msR_off (by omega) HR4.out.st]; omega
        | ok y z =>
          have HE := hide ((dTys_go hno hr).symm.trans HR.out)
          have hgo := HGO.out y z hr
          have HRB := hide hr
          clear hr
          obtain ⟨m, t, D2⟩ := z
          have hxy := hgo.lt
          have hys := hgo.le
          have hle := hgo.ext.len
          have hm := hgo.no
          simp only at hle hm
          go_wp2_with (first | (go_at_call 33; refine HPK.out.mono ?_; rintro e wp ⟨rfl, hrp⟩; have HJP := hide (HJ.out.adv stay_tyU hrp); have c1' := hrp.st.c1; have f1' := hrp.st.f 1; clear hrp HPK) | (go_at_call 34; refine (HC.out _ HJP.out.r).mono ?_; intro e w1 hrp; obtain ⟨F2, k, A1, n1, q1, A2, n2, q2, rfl, hty, hr⟩ := hrp.of_ok HRB.out; have HJ1 := hide (HJP.out.adv stay_tyU hr); have hr2 := (rR.refl HJ1.out.r.st).alloc (Nat.le_trans hBw HJ1.out.r.size) (.cells #[.int .i64 k, .slice A1 n1 q1, .slice A2 n2 q2] 60); have HJ2 := hide (HJ1.out.adv stay_tyU hr2); have HNA := hide (heap_alloc_new w1 (.cells #[.int .i64 k, .slice A1 n1 q1, .slice A2 n2 q2] 60)); have m0 := block_cell HNA.out 0; have m1 := block_cell HNA.out 1; have m2 := block_cell HNA.out 2; have HTY := hide (stay_tyU _ _ _ _ _ _ hty hr2.stayF (fun _ h _ => h)); clear hty; clear hr hr2 hrp c1' f1') | (at_builtin; refine wpList_append_own_at _ rfl (.tmp 39) (.tmp 41) 23 rfl w.heap.size 60 i0 (.agg #[.int .i64 0, .slice none 0 0, .slice none 0 0]) 3 56 Tryd.underlying23 hi0 iz0 iz1 iz2 rfl (by decide) _ n _ rfl (HJ2.out.l.own.choose_spec.1.alloc _) ⟨w1.heap.size + 1, 0, none⟩ 1 1 [.int .i64 k, .slice A1 n1 q1, .slice A2 n2 q2] rfl rfl (cells_new2 w1 (.cells #[.int .i64 k, .slice A1 n1 q1, .slice A2 n2 q2] 60) [.int .i64 k, .slice A1 n1 q1, .slice A2 n2 q2] _) (by intro u hu; simp at hu; rcases hu with rfl | rfl | rfl <;> rfl) (by unfold maxLen; omega) (by omega) (by have := HJ2.out.r.size; simp at this ⊢; omega) ?_; intro v2 w2 hown2 hg2 _ hv2; obtain ⟨ao, cp, rfl⟩ := own_sl hown2; have HJ3 := hide (HJ2.out.push stay_tyU hBw rfl HTY.out (Below.alloc (Below.refl _ _) (Nat.le_refl _) _) hown2 hg2 hv2); clear hown2 hg2 hv2 m0 m1 m2) | (go_at_call 72; refine (told4R (n := m) _ (by omega)).mono ?_; rintro e w4 ⟨kz, rfl, hkz1, hkz4, hb4⟩; have HKZ := hide hkz1; have nb1 : ¬ 9223372036854775807 < kz.size + 1 := (by omega); have nb2 : ¬ 9223372036854775807 < kb.size + (kz.size + 1) := (by omega); have HJ4 := hide (HJ3.out.adv stay_tyU ((rR.refl HJ3.out.r.st).below (Nat.le_trans hBw HJ3.out.r.size) hb4)); clear hkz1 hb4))
          go_roundw
          case rel => exact .inl ⟨n + 1, g, y, acc ++ [t], ids ++ [m], D2, F2, kb ++ (kz ++ ⟨#[44]⟩), rfl, by rw [app_toList, app_toList, HKB.out, HKZ.out, pIds_snoc], by rw [ByteArray.size_append, ByteArray.size_append]; show kb.size + (kz.size + 1) + 5 * i ≤ 5 * y; omega, by simp [hal], by rw [List.length_append, List.length_singleton]; omega, HJ4.out, hys, by omega, by omega, HE.out⟩
          case measure => rw [HMS.out, msR_on HJ4.out.r.st]; omega
    · have c2 := hp.st.c2
      have HQ := hide hp
      have HR := hide hR
      clear hp hR
      have hoff : decide (((e : Nat) : Int) < 0) = false := by simp
      go_wp2_with (fail)
      go_ret2
      exact RP.bad HR.out ⟨A, n, q, kb, rfl, hkz, x, D1, F1, HQ.out⟩
end Go.Proofs.YtecancnojdifaaaDoor
