/- Walk of parts of the program's reader of mangled names (printed by gen_de.py). -/
import Derived.Test.YtocpmbpckbjepaaDoorNmDmE
import Derived.Test.YtocpmbpckbjepaaDoorNmDmF
namespace Go.Proofs.YtocpmbpckbjepaaDoor
open Go.RowKit
set_option linter.unusedVariables false
set_option linter.unusedSimpArgs false
theorem info_pt : (Tryd.prog.info? 47).map (fun i => (i.zero, i.size, i.bytes)) = some (some (.agg #[.string ⟨#[]⟩, .slice none 0 0]), 2, 40) := by kernel_rfl
theorem cells_new3 (w : World) (a : Addr) (u : Value) (cs : List Value) (t : TypeId) : ∀ j v, cs[j]? = some v → ((w.setCell a u).alloc (.cells cs.toArray t)).cell? ((⟨w.heap.size, 0, none⟩ : Addr).add j) = some v := by
  have := cells_new (w.setCell a u) cs t
  simpa using this
def nNamOk (s : ByteArray) (f : Nat) : Prop := ∀ (B c mb : Nat) (D : List Nd) (F : Nat → Prop) (i : Nat) (d : Int) (w : World), B ≤ w.heap.size → Tab10 B w → s.size ≤ 8000 → i ≤ s.size → D.length ≤ i → d = 12 - (f : Int) → nS B c mb s i (-1) D F w →
  Calls Tryd.prog 25 #[.pointer (some ⟨c, 0, none⟩), .int .i64 d] w fun e w' => RP (dName s (dOne s f) D i)
    (fun e0 => ∃ (A : Option Addr) (n q : Nat) (kb : ByteArray), e = .returned (.tuple #[.slice A n q, .string kb]) ∧ ∃ (j : Nat) (D' : List Nd) (F' : Nat → Prop), j ≤ s.size + 2 * f + 4 ∧ nR B c mb s j e0 D' F F' w w')
    (fun j x => ∃ (F' : Nat → Prop) (A : Option Addr) (n q : Nat) (kb : ByteArray), e = .returned (.tuple #[.slice A n q, .string kb]) ∧ kb.data.toList = 78 :: pPartsK x.2.1 ∧ kb.size ≤ 5 * s.size ∧ n ≤ q ∧ q ≤ maxLen ∧ SlS w' F' 2 (PartU w' F') A n x.1 ∧ nR B c mb s j (-1) x.2.2 F F' w w')
set_option maxRecDepth 100000 in
set_option maxHeartbeats 16000000 in
theorem nNam_of {s : ByteArray} {f : Nat} (HT : nTysOk s f) (hf : f ≤ 12) : nNamOk s f := by
  intro B c mb D F i d w hBw htb hs hi hDi hd h
  obtain ⟨i0, hi0, iz0, iz1, iz2⟩ := info_parts info_pt
  have HP := hide (nR.refl h)
  have HTYS := hide HT
  have HTB := hide htb
  have HDD := hide hd
  clear HT htb hd
  by_cases hN : s.data.toList[i]? = some 78
  · have HTN := hide (nTake_ok B c mb s D F w hBw i 78 hs hN h)
    have hin := get_lt hN
    clear h
    obtain ⟨R, hR⟩ : ∃ R, dName s (dOne s f) D i = R := ⟨_, rfl⟩
    have HRR := hide (show dParts s (dOne s f) (s.size + 1) [] [] D (i + 1) = R by rw [← hR, dName, if_pos hN])
    rw [hR]
    clear hR hN
    go_enter Tryd.func25, Tryd.ntmps25
    go_wp2_with (first | (go_at_call 24; refine HTN.out.mono ?_; rintro e w0 ⟨rfl, hr⟩; have HR0 := hide hr; clear hr))
    go_loopw [6, 7] (fun vrow vk wr => (∃ (n g x : Nat) (acc : List Part) (sh : List (ByteArray × List Nat)) (D1 : List Nd) (F1 : Nat → Prop) (kb : ByteArray), vk = .string kb ∧ kb.data.toList = 78 :: pPartsK sh ∧ kb.size + 5 * i ≤ 5 * x ∧ nJ B c mb s 47 2 PartU F w (x : Nat) (-1) D1 F1 wr vrow n acc ∧ x ≤ s.size ∧ n ≤ x ∧ s.size < x + g ∧ D1.length ≤ x ∧ dParts s (dOne s f) g acc sh D1 x = R) ∨
      (∃ (A : Option Addr) (n q e x : Nat) (D1 : List Nd) (F1 : Nat → Prop) (kb : ByteArray), vrow = .slice A n q ∧ vk = .string kb ∧ R = .bad e ∧ x ≤ s.size + 2 * f + 3 ∧ nR B c mb s x e D1 F F1 w wr)) (fun _ _ wr => msD c s wr)
    case atStart => exact .inl ⟨0, s.size + 1, i + 1, [], [], D, F, ⟨#[78]⟩, rfl, rfl, by show 1 + 5 * i ≤ 5 * (i + 1); omega, ⟨HR0.out, nLoc.nil _ _ _ _ _ _ _ _⟩, hin, by omega, by omega, by omega, HRR.out⟩
    case round =>
      rcases hrel with ⟨n, g, x, acc, sh, D1, F1, kb, rfl, hkb, hkz, hJ, hx, hnx, hg, hDx, hR⟩ | ⟨A, n, q, e, x, D1, F1, kb, rfl, rfl, hR, hx, hp⟩
      · obtain ⟨g, rfl⟩ : ∃ g', g = g' + 1 := ⟨g - 1, by omega⟩
        have hzw := hJ.r.size
        have hBz := Nat.le_trans hBw hzw
        have hnl := hJ.l.own.len
        obtain ⟨A0, q0, rfl⟩ := hJ.l.own.sl
        have c2 := hJ.r.st.c2
        have HJ := hide hJ
        have HR := hide hR
        have HKB := hide hkb
        have HMS := hide (msD_on hJ.r.st)
        have HPK := hide (nPeek B c mb s D1 F1 wr hBz x hs hJ.r.st)
        have HI := hide (fun (W : World) (h : nJ B c mb s 47 2 PartU F w (x : Nat) (-1) D1 F1 W (.slice A0 n q0) n acc) => nIdent_on B c mb s D1 F1 W (Nat.le_trans hBw h.r.size) x hs hx h.r.st)
        have HXT := hide (fun (y k : Nat) z (hy : y ≤ s.size) (h : dTys s (dOne s f) (s.size + 1) [] [] D1 y = .ok k z) => tys_go hy HJ.out.r.st.ok h)
        clear hJ hR hkb
        by_cases h0 : n = 0
        · subst h0
          have hno : ¬ (acc.length ≠ 0 ∧ s.data.toList[x]? = some 69) := fun h => h.1 hnl
          cases hid : dId s x with
          | bad e0 =>
            have HE := hide (HR.out.symm.trans (dParts_bad hno hid))
            have HID := hide hid
            clear hid
            have nb1 : ¬ 9223372036854775807 < kb.size + 0 := by omega
            have nb2 : ¬ 9223372036854775807 < kb.size + 1 := by omega
            go_wp2_with (first | (go_at_call 46; refine (HI.out _ HJ.out).mono ?_; intro e w1 hrp; obtain ⟨rfl, y, hy, hr1⟩ := hrp.of_bad HID.out; have HJ1 := hide (HJ.out.adv stay_partU hr1); have HNW := hide HJ1.out.nw; have hz1 : w.heap.size ≤ w1.heap.size := HJ1.out.r.size; have HJ2 := hide (HJ1.out.adv stay_partU ((nR.refl HJ1.out.r.st).alloc (Nat.le_trans hBw HJ1.out.r.size) (.cells #[.string ⟨#[]⟩, .slice none 0 0] 47))); have HB2 := hide (nBk.new HJ1.out.r.st (.cells #[.string ⟨#[]⟩, .slice none 0 0] 47)); have m0 := block_cell HB2.out.1 0; have m1 := block_cell HB2.out.1 1; have HPK2 := hide (nPeek_off B c mb s D1 F1 _ (Nat.le_trans hBw HJ2.out.r.size) y e0 (by omega) HJ2.out.r.st); clear hr1 hrp) | (go_at_call 26; refine HPK2.out.mono ?_; rintro e w2 ⟨rfl, hr⟩; have HJ3 := hide (HJ2.out.adv stay_partU hr); have HB3 := hide (HB2.out.step hr); have m0' := block_cell HB3.out.1 0; have m1' := block_cell HB3.out.1 1; have c1' := hr.st.c1; have f1' := hr.st.f 1; clear hr m0 m1 HPK2) | (at_builtin; refine wpList_append_own_at _ rfl (.tmp 60) (.tmp 62) 22 rfl w.heap.size 47 i0 (.agg #[.string ⟨#[]⟩, .slice none 0 0]) 2 40 Tryd.underlying22 hi0 iz0 iz1 iz2 rfl (by decide) _ 0 _ rfl (HJ3.out.l.own.choose_spec.1.alloc _) ⟨w2.heap.size, 0, none⟩ 1 1 [.string ⟨#[]⟩, .slice none 0 0] rfl rfl (cells_new w2 [.string ⟨#[]⟩, .slice none 0 0] _) (by intro u hu; simp at hu; rcases hu with rfl | rfl <;> rfl) (by unfold maxLen; omega) (by omega) (by have := HJ3.out.r.size; simp at this ⊢; omega) ?_; intro v2 w8 hown2 hg2 _ hv2; obtain ⟨ao, cp, rfl⟩ := own_sl hown2; have HR8 := hide (HJ3.out.grow hBw (Below.alloc (Below.refl _ _) (Nat.le_refl _) _) hg2); clear hown2 hg2 hv2))
            go_roundw
            case rel => exact .inr ⟨ao, _, cp, e0, y, _, _, _, rfl, rfl, HE.out, by omega, HR8.out⟩
            case measure => rw [HMS.out, msD_off (by omega) HR8.out.st]; omega
          | ok y xb =>
            obtain ⟨hxy, hys, hx60, hx1, hxsz, _⟩ := dId_ok hx hid
            have HID := hide hid
            have nb0 : ¬ 9223372036854775807 < kb.size + xb.size := by omega
            have nc0 : ¬ 9223372036854775807 < kb.size + xb.size + 1 := by omega
            by_cases hI : s.data.toList[y]? = some 73
            · have hp73 : ((pkB s y).toNat : Int) = 73 := by rw [pkB_is hI]; rfl
              have hyl := get_lt hI
              have HTC := hide (fun (W : World) (h : nR B c mb s ((y + 1 : Nat) : Int) (-1) D1 F F1 w W) => HTYS.out B c mb D1 F1 (y + 1) d W (Nat.le_trans hBw h.size) (HTB.out.below h.be) hs hyl (by omega) HDD.out h.st)
              cases ht : dTys s (dOne s f) (s.size + 1) [] [] D1 (y + 1) with
              | bad e0 =>
                have HE := hide (HR.out.symm.trans (dParts_in hno HID.out hI ht))
                have HTD := hide ht
                clear hid hI ht
                go_wp2_with (first | (go_at_call 46; refine (HI.out _ HJ.out).mono ?_; intro e w1 hrp; obtain ⟨rfl, hr1⟩ := hrp.of_ok HID.out; have HJ1 := hide (HJ.out.adv stay_partU hr1); have HNW := hide HJ1.out.nw; have hz1 : w.heap.size ≤ w1.heap.size := HJ1.out.r.size; have HJ2 := hide (HJ1.out.adv stay_partU ((nR.refl HJ1.out.r.st).alloc (Nat.le_trans hBw HJ1.out.r.size) (.cells #[.string xb, .slice none 0 0] 47))); have HB2 := hide (nBk.new HJ1.out.r.st (.cells #[.string xb, .slice none 0 0] 47)); have m0 := block_cell HB2.out.1 0; have m1 := block_cell HB2.out.1 1; have HPK2 := hide (nPeek B c mb s D1 F1 _ (Nat.le_trans hBw HJ2.out.r.size) y hs HJ2.out.r.st); clear hr1 hrp) | (go_at_call 26; refine HPK2.out.mono ?_; rintro e w2 ⟨rfl, hr⟩; have HJ3 := hide (HJ2.out.adv stay_partU hr); have HB3 := hide (HB2.out.step hr); have m0' := block_cell HB3.out.1 0; have m1' := block_cell HB3.out.1 1; have c1' := hr.st.c1; have f1' := hr.st.f 1; clear hr m0 m1 HPK2; have HJ4 := hide (show nJ B c mb s 47 2 PartU F w ((y + 1 : Nat) : Int) (-1) D1 F1 (w2.setCell ⟨c, 1, none⟩ (.int .i64 ((y : Int) + 1))) (.slice A0 0 q0) 0 acc from by rw [show ((y + 1 : Nat) : Int) = (y : Int) + 1 by omega]; exact HJ3.out.adv stay_partU ((nR.refl HJ3.out.r.st).set1 (Nat.le_trans hBw HJ3.out.r.size) _)); have HB4 := hide (HB3.out.step ((nR.refl HJ3.out.r.st).set1 (Nat.le_trans hBw HJ3.out.r.size) ((y : Int) + 1)))) | (go_at_call 47; refine (HTC.out _ HJ4.out.r).mono ?_; intro e w5 hrp; obtain ⟨A5, n5, q5, tb, rfl, htz, y5, D5, F5, hy5, hr5⟩ := hrp.of_bad HTD.out; have HJ5 := hide (HJ4.out.adv stay_partU hr5); have HB5 := hide (HB4.out.step hr5); have f1'' := block_free HB5.out.1 1; have q0'' := block_cell HB5.out.1 0; have q1'' := block_cell HB5.out.1 1; have HJ6 := hide (HJ5.out.other stay_partU hBw hz1 HB5.out.2 HNW.out (.slice A5 n5 q5) (k := 1)); have HB6 := hide (HB5.out.set (k := 1) HJ5.out.r.st (.slice A5 n5 q5)); have m0'' := block_cell HB6.out.1 0; have m1'' := block_cell HB6.out.1 1; simp at m0'' m1''; have nb1 : ¬ 9223372036854775807 < 1 + tb.size := (by omega); have nb2 : ¬ 9223372036854775807 < 1 + tb.size + 1 := (by omega); have nb3 : ¬ 9223372036854775807 < kb.size + xb.size + (1 + tb.size + 1) := (by omega); have nb4 : ¬ 9223372036854775807 < kb.size + xb.size + (1 + tb.size + 1) + 1 := (by omega); clear hr5 hrp m0' m1') | (at_builtin; refine wpList_append_own_at _ rfl (.tmp 60) (.tmp 62) 22 rfl w.heap.size 47 i0 (.agg #[.string ⟨#[]⟩, .slice none 0 0]) 2 40 Tryd.underlying22 hi0 iz0 iz1 iz2 rfl (by decide) _ 0 _ rfl (HJ6.out.l.own.choose_spec.1.alloc _) ⟨w5.heap.size, 0, none⟩ 1 1 [.string xb, .slice A5 n5 q5] rfl rfl (cells_new3 w5 ⟨w1.heap.size, 1, none⟩ (.slice A5 n5 q5) [.string xb, .slice A5 n5 q5] _) (by intro u hu; simp at hu; rcases hu with rfl | rfl <;> rfl) (by unfold maxLen; omega) (by omega) (by have := HJ6.out.r.size; simp at this ⊢; omega) ?_; intro v2 w8 hown2 hg2 _ hv2; obtain ⟨ao, cp, rfl⟩ := own_sl hown2; have HR8 := hide (HJ6.out.grow hBw (Below.alloc (Below.refl _ _) (Nat.le_refl _) _) hg2); clear hown2 hg2 hv2))
                go_roundw
                case rel => exact .inr ⟨ao, _, cp, e0, y5, _, _, _, rfl, rfl, HE.out, by omega, HR8.out⟩
                case measure => rw [HMS.out, msD_off (by omega) HR8.out.st]; omega
              | ok k z =>
                have HE := hide ((dParts_go hno HID.out hI ht).symm.trans HR.out)
                have hgo := HXT.out (y + 1) k z hyl ht
                have HTD := hide ht
                clear hid hI ht
                obtain ⟨tl, ids, D2⟩ := z
                have hky := hgo.lt
                have hks := hgo.le
                have hkl := hgo.ext.len
                have hpos := hgo.pos
                simp only at hkl hpos
                go_wp2_with (first | (go_at_call 46; refine (HI.out _ HJ.out).mono ?_; intro e w1 hrp; obtain ⟨rfl, hr1⟩ := hrp.of_ok HID.out; have HJ1 := hide (HJ.out.adv stay_partU hr1); have HNW := hide HJ1.out.nw; have hz1 : w.heap.size ≤ w1.heap.size := HJ1.out.r.size; have HJ2 := hide (HJ1.out.adv stay_partU ((nR.refl HJ1.out.r.st).alloc (Nat.le_trans hBw HJ1.out.r.size) (.cells #[.string xb, .slice none 0 0] 47))); have HB2 := hide (nBk.new HJ1.out.r.st (.cells #[.string xb, .slice none 0 0] 47)); have m0 := block_cell HB2.out.1 0; have m1 := block_cell HB2.out.1 1; have HPK2 := hide (nPeek B c mb s D1 F1 _ (Nat.le_trans hBw HJ2.out.r.size) y hs HJ2.out.r.st); clear hr1 hrp) | (go_at_call 26; refine HPK2.out.mono ?_; rintro e w2 ⟨rfl, hr⟩; have HJ3 := hide (HJ2.out.adv stay_partU hr); have HB3 := hide (HB2.out.step hr); have m0' := block_cell HB3.out.1 0; have m1' := block_cell HB3.out.1 1; have c1' := hr.st.c1; have f1' := hr.st.f 1; clear hr m0 m1 HPK2; have HJ4 := hide (show nJ B c mb s 47 2 PartU F w ((y + 1 : Nat) : Int) (-1) D1 F1 (w2.setCell ⟨c, 1, none⟩ (.int .i64 ((y : Int) + 1))) (.slice A0 0 q0) 0 acc from by rw [show ((y + 1 : Nat) : Int) = (y : Int) + 1 by omega]; exact HJ3.out.adv stay_partU ((nR.refl HJ3.out.r.st).set1 (Nat.le_trans hBw HJ3.out.r.size) _)); have HB4 := hide (HB3.out.step ((nR.refl HJ3.out.r.st).set1 (Nat.le_trans hBw HJ3.out.r.size) ((y : Int) + 1)))) | (go_at_call 47; refine (HTC.out _ HJ4.out.r).mono ?_; intro e w5 hrp; obtain ⟨F5, A5, n5, q5, tb, rfl, htb, htz, hnq, hqm, hsl, hr5⟩ := hrp.of_ok HTD.out; have HJ5 := hide (HJ4.out.adv stay_partU hr5); have HB5 := hide (HB4.out.step hr5); have f1'' := block_free HB5.out.1 1; have q0'' := block_cell HB5.out.1 0; have q1'' := block_cell HB5.out.1 1; have HJ6 := hide (HJ5.out.other stay_partU hBw hz1 HB5.out.2 HNW.out (.slice A5 n5 q5) (k := 1)); have HB6 := hide (HB5.out.set (k := 1) HJ5.out.r.st (.slice A5 n5 q5)); have m0'' := block_cell HB6.out.1 0; have m1'' := block_cell HB6.out.1 1; simp at m0'' m1''; have nb1 : ¬ 9223372036854775807 < 1 + tb.size := (by omega); have nb2 : ¬ 9223372036854775807 < 1 + tb.size + 1 := (by omega); have nb3 : ¬ 9223372036854775807 < kb.size + xb.size + (1 + tb.size + 1) := (by omega); have nb4 : ¬ 9223372036854775807 < kb.size + xb.size + (1 + tb.size + 1) + 1 := (by omega); have HSTY : StayS F5 w5 (w5.setCell ⟨w1.heap.size, 1, none⟩ (.slice A5 n5 q5)) := ⟨(by simp), fun b o hb hbo => block_set_other hbo _ _ (fun (e : b = w1.heap.size) => HB5.out.2.2.2.2.1 (e ▸ hb))⟩; have HTS6 := hide (hsl.stay (S' := F5) (R' := TyU (w5.setCell ⟨w1.heap.size, 1, none⟩ (.slice A5 n5 q5)) F5) HSTY (fun _ h _ => h) (fun a _ cs h => stay_tyU _ _ _ _ a cs h HSTY (fun _ h _ => h))); have HTB5 := hide htb; clear hsl htb; clear hr5 hrp m0' m1') | (at_builtin; refine wpList_append_own_at _ rfl (.tmp 60) (.tmp 62) 22 rfl w.heap.size 47 i0 (.agg #[.string ⟨#[]⟩, .slice none 0 0]) 2 40 Tryd.underlying22 hi0 iz0 iz1 iz2 rfl (by decide) _ 0 _ rfl (HJ6.out.l.own.choose_spec.1.alloc _) ⟨w5.heap.size, 0, none⟩ 1 1 [.string xb, .slice A5 n5 q5] rfl rfl (cells_new3 w5 ⟨w1.heap.size, 1, none⟩ (.slice A5 n5 q5) [.string xb, .slice A5 n5 q5] _) (by intro u hu; simp at hu; rcases hu with rfl | rfl <;> rfl) (by unfold maxLen; omega) (by omega) (by have := HJ6.out.r.size; simp at this ⊢; omega) ?_; intro v2 w8 hown2 hg2 _ hv2; obtain ⟨ao, cp, rfl⟩ := own_sl hown2; have HJ8 := hide (HJ6.out.push stay_partU hBw rfl (part_go xb hx60 hnq hqm HTS6.out) (Below.alloc (Below.refl _ _) (Nat.le_refl _) _) hown2 hg2 hv2); clear hown2 hg2 hv2))
                go_roundw
                case rel => exact .inl ⟨0 + 1, g, k, acc ++ [(xb, tl)], sh ++ [(xb, ids)], D2, F5, kb ++ xb ++ (⟨#[60]⟩ ++ tb ++ ⟨#[62]⟩) ++ ⟨#[46]⟩, rfl, by rw [app_toList, app_toList, app_toList, app_toList, app_toList, HKB.out, HTB5.out, pParts_snoc, pBody_some hpos]; simp, by simp only [ByteArray.size_append]; show kb.size + xb.size + (1 + tb.size + 1) + 1 + 5 * i ≤ 5 * k; omega, HJ8.out, hks, by omega, by omega, by omega, HE.out⟩
                case measure => rw [HMS.out, msD_on HJ8.out.r.st]; omega
            · have HE := hide ((dParts_no hno HID.out hI).symm.trans HR.out)
              have hne2 := pk_ne (by decide) hI
              have hne2' : (((pkB s y).toNat : Int) == 73) = false := by simpa using hne2
              clear hid hI
              go_wp2_with (first | (go_at_call 46; refine (HI.out _ HJ.out).mono ?_; intro e w1 hrp; obtain ⟨rfl, hr1⟩ := hrp.of_ok HID.out; have HJ1 := hide (HJ.out.adv stay_partU hr1); have HNW := hide HJ1.out.nw; have hz1 : w.heap.size ≤ w1.heap.size := HJ1.out.r.size; have HJ2 := hide (HJ1.out.adv stay_partU ((nR.refl HJ1.out.r.st).alloc (Nat.le_trans hBw HJ1.out.r.size) (.cells #[.string xb, .slice none 0 0] 47))); have HB2 := hide (nBk.new HJ1.out.r.st (.cells #[.string xb, .slice none 0 0] 47)); have m0 := block_cell HB2.out.1 0; have m1 := block_cell HB2.out.1 1; have HPK2 := hide (nPeek B c mb s D1 F1 _ (Nat.le_trans hBw HJ2.out.r.size) y hs HJ2.out.r.st); clear hr1 hrp) | (go_at_call 26; refine HPK2.out.mono ?_; rintro e w2 ⟨rfl, hr⟩; have HJ3 := hide (HJ2.out.adv stay_partU hr); have HB3 := hide (HB2.out.step hr); have m0' := block_cell HB3.out.1 0; have m1' := block_cell HB3.out.1 1; have c1' := hr.st.c1; have f1' := hr.st.f 1; clear hr m0 m1 HPK2) | (at_builtin; refine wpList_append_own_at _ rfl (.tmp 60) (.tmp 62) 22 rfl w.heap.size 47 i0 (.agg #[.string ⟨#[]⟩, .slice none 0 0]) 2 40 Tryd.underlying22 hi0 iz0 iz1 iz2 rfl (by decide) _ 0 _ rfl (HJ3.out.l.own.choose_spec.1.alloc _) ⟨w2.heap.size, 0, none⟩ 1 1 [.string xb, .slice none 0 0] rfl rfl (cells_new w2 [.string xb, .slice none 0 0] _) (by intro u hu; simp at hu; rcases hu with rfl | rfl <;> rfl) (by unfold maxLen; omega) (by omega) (by have := HJ3.out.r.size; simp at this ⊢; omega) ?_; intro v2 w8 hown2 hg2 _ hv2; obtain ⟨ao, cp, rfl⟩ := own_sl hown2; have HJ8 := hide (HJ3.out.push stay_partU hBw rfl (part_no xb hx60) (Below.alloc (Below.refl _ _) (Nat.le_refl _) _) hown2 hg2 hv2); clear hown2 hg2 hv2))
              go_roundw
              case rel => exact .inl ⟨0 + 1, g, y, acc ++ [(xb, [])], sh ++ [(xb, [])], D1, F1, kb ++ xb ++ ⟨#[46]⟩, rfl, by rw [app_toList, app_toList, HKB.out, pParts_snoc, pBody_nil]; simp, by rw [ByteArray.size_append, ByteArray.size_append]; show kb.size + xb.size + 1 + 5 * i ≤ 5 * y; omega, HJ8.out, hys, by omega, by omega, by omega, HE.out⟩
              case measure => rw [HMS.out, msD_on HJ8.out.r.st]; omega
        · have h0' : ¬ (n : Int) = 0 := by omega
          have h0'' : ((n : Int) == 0) = false := by simpa using h0
          by_cases hE : s.data.toList[x]? = some 69
          · have HE := hide (HR.out.symm.trans (dParts_end (by omega) hE))
            have HPE := hide (pkB_is hE)
            rw [HPE.out] at HPK
            have HTK := hide (fun (W : World) (h : nR B c mb s x (-1) D1 F F1 w W) => nTake_ok B c mb s D1 F1 W (Nat.le_trans hBw h.size) x 69 hs hE h.st)
            have hxs := get_lt hE
            clear hE
            go_wp2_with (first | (go_at_call 26; refine HPK.out.mono ?_; rintro e wp ⟨rfl, hrp⟩; have HJP := hide (HJ.out.adv stay_partU hrp); clear hrp HPK) | (go_at_call 24; refine (HTK.out _ HJP.out.r).mono ?_; rintro e w2 ⟨rfl, hr⟩; have HJ2 := hide (HJP.out.adv stay_partU hr); clear hr))
            go_ret2
            obtain ⟨F2, hr2, hFF, A2, q2, hv2, hnq, hqm, hsl⟩ := HJ2.out.done stay_partU
            injection hv2 with e1 e2 e3
            subst e1 e3
            exact RP.ok HE.out ⟨F2, A0, n, q0, kb, rfl, HKB.out, by omega, hnq, hqm, hsl, hr2⟩
          · have hno : ¬ (acc.length ≠ 0 ∧ s.data.toList[x]? = some 69) := fun h => hE h.2
            have hne := pk_ne (by decide) hE
            have hne' : (((pkB s x).toNat : Int) == 69) = false := by simpa using hne
            clear hE
            cases hid : dId s x with
            | bad e0 =>
              have HE := hide (HR.out.symm.trans (dParts_bad hno hid))
              have HID := hide hid
              clear hid
              have nb1 : ¬ 9223372036854775807 < kb.size + 0 := by omega
              have nb2 : ¬ 9223372036854775807 < kb.size + 1 := by omega
              go_wp2_with (first | (go_at_call 26; refine HPK.out.mono ?_; rintro e wp ⟨rfl, hrp⟩; have HJP := hide (HJ.out.adv stay_partU hrp); clear hrp HPK) | (go_at_call 46; refine (HI.out _ HJP.out).mono ?_; intro e w1 hrp; obtain ⟨rfl, y, hy, hr1⟩ := hrp.of_bad HID.out; have HJ1 := hide (HJP.out.adv stay_partU hr1); have HNW := hide HJ1.out.nw; have hz1 : w.heap.size ≤ w1.heap.size := HJ1.out.r.size; have HJ2 := hide (HJ1.out.adv stay_partU ((nR.refl HJ1.out.r.st).alloc (Nat.le_trans hBw HJ1.out.r.size) (.cells #[.string ⟨#[]⟩, .slice none 0 0] 47))); have HB2 := hide (nBk.new HJ1.out.r.st (.cells #[.string ⟨#[]⟩, .slice none 0 0] 47)); have m0 := block_cell HB2.out.1 0; have m1 := block_cell HB2.out.1 1; have HPK2 := hide (nPeek_off B c mb s D1 F1 _ (Nat.le_trans hBw HJ2.out.r.size) y e0 (by omega) HJ2.out.r.st); clear hr1 hrp) | (go_at_call 26; refine HPK2.out.mono ?_; rintro e w2 ⟨rfl, hr⟩; have HJ3 := hide (HJ2.out.adv stay_partU hr); have HB3 := hide (HB2.out.step hr); have m0' := block_cell HB3.out.1 0; have m1' := block_cell HB3.out.1 1; have c1' := hr.st.c1; have f1' := hr.st.f 1; clear hr m0 m1 HPK2) | (at_builtin; refine wpList_append_own_at _ rfl (.tmp 60) (.tmp 62) 22 rfl w.heap.size 47 i0 (.agg #[.string ⟨#[]⟩, .slice none 0 0]) 2 40 Tryd.underlying22 hi0 iz0 iz1 iz2 rfl (by decide) _ n _ rfl (HJ3.out.l.own.choose_spec.1.alloc _) ⟨w2.heap.size, 0, none⟩ 1 1 [.string ⟨#[]⟩, .slice none 0 0] rfl rfl (cells_new w2 [.string ⟨#[]⟩, .slice none 0 0] _) (by intro u hu; simp at hu; rcases hu with rfl | rfl <;> rfl) (by unfold maxLen; omega) (by omega) (by have := HJ3.out.r.size; simp at this ⊢; omega) ?_; intro v2 w8 hown2 hg2 _ hv2; obtain ⟨ao, cp, rfl⟩ := own_sl hown2; have HR8 := hide (HJ3.out.grow hBw (Below.alloc (Below.refl _ _) (Nat.le_refl _) _) hg2); clear hown2 hg2 hv2))
              go_roundw
              case rel => exact .inr ⟨ao, _, cp, e0, y, _, _, _, rfl, rfl, HE.out, by omega, HR8.out⟩
              case measure => rw [HMS.out, msD_off (by omega) HR8.out.st]; omega
            | ok y xb =>
              obtain ⟨hxy, hys, hx60, hx1, hxsz, _⟩ := dId_ok hx hid
              have HID := hide hid
              have nb0 : ¬ 9223372036854775807 < kb.size + xb.size := by omega
              have nc0 : ¬ 9223372036854775807 < kb.size + xb.size + 1 := by omega
              by_cases hI : s.data.toList[y]? = some 73
              · have hp73 : ((pkB s y).toNat : Int) = 73 := by rw [pkB_is hI]; rfl
                have hyl := get_lt hI
                have HTC := hide (fun (W : World) (h : nR B c mb s ((y + 1 : Nat) : Int) (-1) D1 F F1 w W) => HTYS.out B c mb D1 F1 (y + 1) d W (Nat.le_trans hBw h.size) (HTB.out.below h.be) hs hyl (by omega) HDD.out h.st)
                cases ht : dTys s (dOne s f) (s.size + 1) [] [] D1 (y + 1) with
                | bad e0 =>
                  have HE := hide (HR.out.symm.trans (dParts_in hno HID.out hI ht))
                  have HTD := hide ht
                  clear hid hI ht
                  go_wp2_with (first | (go_at_call 26; refine HPK.out.mono ?_; rintro e wp ⟨rfl, hrp⟩; have HJP := hide (HJ.out.adv stay_partU hrp); clear hrp HPK) | (go_at_call 46; refine (HI.out _ HJP.out).mono ?_; intro e w1 hrp; obtain ⟨rfl, hr1⟩ := hrp.of_ok HID.out; have HJ1 := hide (HJP.out.adv stay_partU hr1); have HNW := hide HJ1.out.nw; have hz1 : w.heap.size ≤ w1.heap.size := HJ1.out.r.size; have HJ2 := hide (HJ1.out.adv stay_partU ((nR.refl HJ1.out.r.st).alloc (Nat.le_trans hBw HJ1.out.r.size) (.cells #[.string xb, .slice none 0 0] 47))); have HB2 := hide (nBk.new HJ1.out.r.st (.cells #[.string xb, .slice none 0 0] 47)); have m0 := block_cell HB2.out.1 0; have m1 := block_cell HB2.out.1 1; have HPK2 := hide (nPeek B c mb s D1 F1 _ (Nat.le_trans hBw HJ2.out.r.size) y hs HJ2.out.r.st); clear hr1 hrp) | (go_at_call 26; refine HPK2.out.mono ?_; rintro e w2 ⟨rfl, hr⟩; have HJ3 := hide (HJ2.out.adv stay_partU hr); have HB3 := hide (HB2.out.step hr); have m0' := block_cell HB3.out.1 0; have m1' := block_cell HB3.out.1 1; have c1' := hr.st.c1; have f1' := hr.st.f 1; clear hr m0 m1 HPK2; have HJ4 := hide (show nJ B c mb s 47 2 PartU F w ((y + 1 : Nat) : Int) (-1) D1 F1 (w2.setCell ⟨c, 1, none⟩ (.int .i64 ((y : Int) + 1))) (.slice A0 n q0) n acc from by rw [show ((y + 1 : Nat) : Int) = (y : Int) + 1 by omega]; exact HJ3.out.adv stay_partU ((nR.refl HJ3.out.r.st).set1 (Nat.le_trans hBw HJ3.out.r.size) _)); have HB4 := hide (HB3.out.step ((nR.refl HJ3.out.r.st).set1 (Nat.le_trans hBw HJ3.out.r.size) ((y : Int) + 1)))) | (go_at_call 47; refine (HTC.out _ HJ4.out.r).mono ?_; intro e w5 hrp; obtain ⟨A5, n5, q5, tb, rfl, htz, y5, D5, F5, hy5, hr5⟩ := hrp.of_bad HTD.out; have HJ5 := hide (HJ4.out.adv stay_partU hr5); have HB5 := hide (HB4.out.step hr5); have f1'' := block_free HB5.out.1 1; have q0'' := block_cell HB5.out.1 0; have q1'' := block_cell HB5.out.1 1; have HJ6 := hide (HJ5.out.other stay_partU hBw hz1 HB5.out.2 HNW.out (.slice A5 n5 q5) (k := 1)); have HB6 := hide (HB5.out.set (k := 1) HJ5.out.r.st (.slice A5 n5 q5)); have m0'' := block_cell HB6.out.1 0; have m1'' := block_cell HB6.out.1 1; simp at m0'' m1''; have nb1 : ¬ 9223372036854775807 < 1 + tb.size := (by omega); have nb2 : ¬ 9223372036854775807 < 1 + tb.size + 1 := (by omega); have nb3 : ¬ 9223372036854775807 < kb.size + xb.size + (1 + tb.size + 1) := (by omega); have nb4 : ¬ 9223372036854775807 < kb.size + xb.size + (1 + tb.size + 1) + 1 := (by omega); clear hr5 hrp m0' m1') | (at_builtin; refine wpList_append_own_at _ rfl (.tmp 60) (.tmp 62) 22 rfl w.heap.size 47 i0 (.agg #[.string ⟨#[]⟩, .slice none 0 0]) 2 40 Tryd.underlying22 hi0 iz0 iz1 iz2 rfl (by decide) _ n _ rfl (HJ6.out.l.own.choose_spec.1.alloc _) ⟨w5.heap.size, 0, none⟩ 1 1 [.string xb, .slice A5 n5 q5] rfl rfl (cells_new3 w5 ⟨w1.heap.size, 1, none⟩ (.slice A5 n5 q5) [.string xb, .slice A5 n5 q5] _) (by intro u hu; simp at hu; rcases hu with rfl | rfl <;> rfl) (by unfold maxLen; omega) (by omega) (by have := HJ6.out.r.size; simp at this ⊢; omega) ?_; intro v2 w8 hown2 hg2 _ hv2; obtain ⟨ao, cp, rfl⟩ := own_sl hown2; have HR8 := hide (HJ6.out.grow hBw (Below.alloc (Below.refl _ _) (Nat.le_refl _) _) hg2); clear hown2 hg2 hv2))
                  go_roundw
                  case rel => exact .inr ⟨ao, _, cp, e0, y5, _, _, _, rfl, rfl, HE.out, by omega, HR8.out⟩
                  case measure => rw [HMS.out, msD_off (by omega) HR8.out.st]; omega
                | ok k z =>
                  have HE := hide ((dParts_go hno HID.out hI ht).symm.trans HR.out)
                  have hgo := HXT.out (y + 1) k z hyl ht
                  have HTD := hide ht
                  clear hid hI ht
                  obtain ⟨tl, ids, D2⟩ := z
                  have hky := hgo.lt
                  have hks := hgo.le
                  have hkl := hgo.ext.len
                  have hpos := hgo.pos
                  simp only at hkl hpos
                  go_wp2_with (first | (go_at_call 26; refine HPK.out.mono ?_; rintro e wp ⟨rfl, hrp⟩; have HJP := hide (HJ.out.adv stay_partU hrp); clear hrp HPK) | (go_at_call 46; refine (HI.out _ HJP.out).mono ?_; intro e w1 hrp; obtain ⟨rfl, hr1⟩ := hrp.of_ok HID.out; have HJ1 := hide (HJP.out.adv stay_partU hr1); have HNW := hide HJ1.out.nw; have hz1 : w.heap.size ≤ w1.heap.size := HJ1.out.r.size; have HJ2 := hide (HJ1.out.adv stay_partU ((nR.refl HJ1.out.r.st).alloc (Nat.le_trans hBw HJ1.out.r.size) (.cells #[.string xb, .slice none 0 0] 47))); have HB2 := hide (nBk.new HJ1.out.r.st (.cells #[.string xb, .slice none 0 0] 47)); have m0 := block_cell HB2.out.1 0; have m1 := block_cell HB2.out.1 1; have HPK2 := hide (nPeek B c mb s D1 F1 _ (Nat.le_trans hBw HJ2.out.r.size) y hs HJ2.out.r.st); clear hr1 hrp) | (go_at_call 26; refine HPK2.out.mono ?_; rintro e w2 ⟨rfl, hr⟩; have HJ3 := hide (HJ2.out.adv stay_partU hr); have HB3 := hide (HB2.out.step hr); have m0' := block_cell HB3.out.1 0; have m1' := block_cell HB3.out.1 1; have c1' := hr.st.c1; have f1' := hr.st.f 1; clear hr m0 m1 HPK2; have HJ4 := hide (show nJ B c mb s 47 2 PartU F w ((y + 1 : Nat) : Int) (-1) D1 F1 (w2.setCell ⟨c, 1, none⟩ (.int .i64 ((y : Int) + 1))) (.slice A0 n q0) n acc from by rw [show ((y + 1 : Nat) : Int) = (y : Int) + 1 by omega]; exact HJ3.out.adv stay_partU ((nR.refl HJ3.out.r.st).set1 (Nat.le_trans hBw HJ3.out.r.size) _)); have HB4 := hide (HB3.out.step ((nR.refl HJ3.out.r.st).set1 (Nat.le_trans hBw HJ3.out.r.size) ((y : Int) + 1)))) | (go_at_call 47; refine (HTC.out _ HJ4.out.r).mono ?_; intro e w5 hrp; obtain ⟨F5, A5, n5, q5, tb, rfl, htb, htz, hnq, hqm, hsl, hr5⟩ := hrp.of_ok HTD.out; have HJ5 := hide (HJ4.out.adv stay_partU hr5); have HB5 := hide (HB4.out.step hr5); have f1'' := block_free HB5.out.1 1; have q0'' := block_cell HB5.out.1 0; have q1'' := block_cell HB5.out.1 1; have HJ6 := hide (HJ5.out.other stay_partU hBw hz1 HB5.out.2 HNW.out (.slice A5 n5 q5) (k := 1)); have HB6 := hide (HB5.out.set (k := 1) HJ5.out.r.st (.slice A5 n5 q5)); have m0'' := block_cell HB6.out.1 0; have m1'' := block_cell HB6.out.1 1; simp at m0'' m1''; have nb1 : ¬ 9223372036854775807 < 1 + tb.size := (by omega); have nb2 : ¬ 9223372036854775807 < 1 + tb.size + 1 := (by omega); have nb3 : ¬ 9223372036854775807 < kb.size + xb.size + (1 + tb.size + 1) := (by omega); have nb4 : ¬ 9223372036854775807 < kb.size + xb.size + (1 + tb.size + 1) + 1 := (by omega); have HSTY : StayS F5 w5 (w5.setCell ⟨w1.heap.size, 1, none⟩ (.slice A5 n5 q5)) := ⟨(by simp), fun b o hb hbo => block_set_other hbo _ _ (fun (e : b = w1.heap.size) => HB5.out.2.2.2.2.1 (e ▸ hb))⟩; have HTS6 := hide (hsl.stay (S' := F5) (R' := TyU (w5.setCell ⟨w1.heap.size, 1, none⟩ (.slice A5 n5 q5)) F5) HSTY (fun _ h _ => h) (fun a _ cs h => stay_tyU _ _ _ _ a cs h HSTY (fun _ h _ => h))); have HTB5 := hide htb; clear hsl htb; clear hr5 hrp m0' m1') | (at_builtin; refine wpList_append_own_at _ rfl (.tmp 60) (.tmp 62) 22 rfl w.heap.size 47 i0 (.agg #[.string ⟨#[]⟩, .slice none 0 0]) 2 40 Tryd.underlying22 hi0 iz0 iz1 iz2 rfl (by decide) _ n _ rfl (HJ6.out.l.own.choose_spec.1.alloc _) ⟨w5.heap.size, 0, none⟩ 1 1 [.string xb, .slice A5 n5 q5] rfl rfl (cells_new3 w5 ⟨w1.heap.size, 1, none⟩ (.slice A5 n5 q5) [.string xb, .slice A5 n5 q5] _) (by intro u hu; simp at hu; rcases hu with rfl | rfl <;> rfl) (by unfold maxLen; omega) (by omega) (by have := HJ6.out.r.size; simp at this ⊢; omega) ?_; intro v2 w8 hown2 hg2 _ hv2; obtain ⟨ao, cp, rfl⟩ := own_sl hown2; have HJ8 := hide (HJ6.out.push stay_partU hBw rfl (part_go xb hx60 hnq hqm HTS6.out) (Below.alloc (Below.refl _ _) (Nat.le_refl _) _) hown2 hg2 hv2); clear hown2 hg2 hv2))
                  go_roundw
                  case rel => exact .inl ⟨n + 1, g, k, acc ++ [(xb, tl)], sh ++ [(xb, ids)], D2, F5, kb ++ xb ++ (⟨#[60]⟩ ++ tb ++ ⟨#[62]⟩) ++ ⟨#[46]⟩, rfl, by rw [app_toList, app_toList, app_toList, app_toList, app_toList, HKB.out, HTB5.out, pParts_snoc, pBody_some hpos]; simp, by simp only [ByteArray.size_append]; show kb.size + xb.size + (1 + tb.size + 1) + 1 + 5 * i ≤ 5 * k; omega, HJ8.out, hks, by omega, by omega, by omega, HE.out⟩
                  case measure => rw [HMS.out, msD_on HJ8.out.r.st]; omega
              · have HE := hide ((dParts_no hno HID.out hI).symm.trans HR.out)
                have hne2 := pk_ne (by decide) hI
                have hne2' : (((pkB s y).toNat : Int) == 73) = false := by simpa using hne2
                clear hid hI
                go_wp2_with (first | (go_at_call 26; refine HPK.out.mono ?_; rintro e wp ⟨rfl, hrp⟩; have HJP := hide (HJ.out.adv stay_partU hrp); clear hrp HPK) | (go_at_call 46; refine (HI.out _ HJP.out).mono ?_; intro e w1 hrp; obtain ⟨rfl, hr1⟩ := hrp.of_ok HID.out; have HJ1 := hide (HJP.out.adv stay_partU hr1); have HNW := hide HJ1.out.nw; have hz1 : w.heap.size ≤ w1.heap.size := HJ1.out.r.size; have HJ2 := hide (HJ1.out.adv stay_partU ((nR.refl HJ1.out.r.st).alloc (Nat.le_trans hBw HJ1.out.r.size) (.cells #[.string xb, .slice none 0 0] 47))); have HB2 := hide (nBk.new HJ1.out.r.st (.cells #[.string xb, .slice none 0 0] 47)); have m0 := block_cell HB2.out.1 0; have m1 := block_cell HB2.out.1 1; have HPK2 := hide (nPeek B c mb s D1 F1 _ (Nat.le_trans hBw HJ2.out.r.size) y hs HJ2.out.r.st); clear hr1 hrp) | (go_at_call 26; refine HPK2.out.mono ?_; rintro e w2 ⟨rfl, hr⟩; have HJ3 := hide (HJ2.out.adv stay_partU hr); have HB3 := hide (HB2.out.step hr); have m0' := block_cell HB3.out.1 0; have m1' := block_cell HB3.out.1 1; have c1' := hr.st.c1; have f1' := hr.st.f 1; clear hr m0 m1 HPK2) | (at_builtin; refine wpList_append_own_at _ rfl (.tmp 60) (.tmp 62) 22 rfl w.heap.size 47 i0 (.agg #[.string ⟨#[]⟩, .slice none 0 0]) 2 40 Tryd.underlying22 hi0 iz0 iz1 iz2 rfl (by decide) _ n _ rfl (HJ3.out.l.own.choose_spec.1.alloc _) ⟨w2.heap.size, 0, none⟩ 1 1 [.string xb, .slice none 0 0] rfl rfl (cells_new w2 [.string xb, .slice none 0 0] _) (by intro u hu; simp at hu; rcases hu with rfl | rfl <;> rfl) (by unfold maxLen; omega) (by omega) (by have := HJ3.out.r.size; simp at this ⊢; omega) ?_; intro v2 w8 hown2 hg2 _ hv2; obtain ⟨ao, cp, rfl⟩ := own_sl hown2; have HJ8 := hide (HJ3.out.push stay_partU hBw rfl (part_no xb hx60) (Below.alloc (Below.refl _ _) (Nat.le_refl _) _) hown2 hg2 hv2); clear hown2 hg2 hv2))
                go_roundw
                case rel => exact .inl ⟨n + 1, g, y, acc ++ [(xb, [])], sh ++ [(xb, [])], D1, F1, kb ++ xb ++ ⟨#[46]⟩, rfl, by rw [app_toList, app_toList, HKB.out, pParts_snoc, pBody_nil]; simp, by rw [ByteArray.size_append, ByteArray.size_append]; show kb.size + xb.size + 1 + 5 * i ≤ 5 * y; omega, HJ8.out, hys, by omega, by omega, by omega, HE.out⟩
                case measure => rw [HMS.out, msD_on HJ8.out.r.st]; omega
      · have c2 := hp.st.c2
        have HQ := hide hp
        have HR := hide hR
        clear hp hR
        have hoff : decide (((e : Nat) : Int) < 0) = false := by simp
        have HTK := hide (nTake_off B c mb s D1 F1 wr (Nat.le_trans hBw HQ.out.size) x e 69 (by omega) (by omega) HQ.out.st)
        go_wp2_with (first | (go_at_call 24; refine HTK.out.mono ?_; rintro e w2 ⟨rfl, hr⟩; have HQ2 := hide (HQ.out.trans hr); clear hr))
        go_ret2
        exact RP.bad HR.out ⟨A, n, q, kb, rfl, x + 1, D1, F1, by omega, HQ2.out⟩
  · have HE := hide (show dName s (dOne s f) D i = .bad i by rw [dName, if_neg hN])
    have HTN := hide (nTake_bad B c mb s D F w hBw i 78 hs hi hN h)
    have hi8 : decide ((i : Int) < 0) = false := by simp
    clear h hN
    go_enter Tryd.func25, Tryd.ntmps25
    go_wp2_with (first | (go_at_call 24; refine HTN.out.mono ?_; rintro e w0 ⟨rfl, y, hy, hr⟩; have HR0 := hide hr; clear hr))
    go_loopw [6, 7] (fun vrow vk wr => vrow = .slice none 0 0 ∧ vk = .string ⟨#[78]⟩ ∧ wr = w0) (fun _ _ _ => 0)
    case atStart => exact ⟨rfl, rfl, rfl⟩
    case round =>
      obtain ⟨rfl, rfl, rfl⟩ := hrel
      have c2 := HR0.out.st.c2
      have HTK := hide (nTake_off B c mb s D F wr (Nat.le_trans hBw HR0.out.size) y i 69 (by omega) (by omega) HR0.out.st)
      go_wp2_with (first | (go_at_call 24; refine HTK.out.mono ?_; rintro e w2 ⟨rfl, hr⟩; have HQ2 := hide (HR0.out.trans hr); clear hr))
      go_ret2
      exact RP.bad HE.out ⟨none, 0, 0, ⟨#[78]⟩, rfl, y + 1, D, F, by omega, HQ2.out⟩
end Go.Proofs.YtocpmbpckbjepaaDoor
