/- Walk of AlertTurns (printed by gen_ak.py). -/
import Derived.Test.YtpjfihdbbgencaaDoorAlTrL
import Derived.Test.YtpjfihdbbgencaaDoorAlAwk
import Derived.Test.YtpjfihdbbgencaaDoorAlPw
namespace Go.Proofs.YtpjfihdbbgencaaDoor
open Go.RowKit
set_option linter.unusedVariables false
set_option linter.unusedSimpArgs false
theorem momB_of {t : Int} (h0 : 0 ≤ t) (h1 : t ≤ 3155759999) : momB t = true := by unfold momB outsideB; simp; omega
theorem ownsMap_keep {H : Type} {P : Program} {k : TypeId} {R : Value → Option (DataW H × List MemPlace)} {b n B : Nat} {D : DataW H} {Q : Nat → Prop} {w w' : World} (h : w.ownsMap P k R b n D) (hk : Keep B Q w w') (hb : ¬ Q b) : w'.ownsMap P k R b n D := by
  obtain ⟨es, ck, h1, h2⟩ := h
  exact ⟨es, ck, hk.keep _ _ h1 hb, h2⟩
theorem ownsMap_below {H : Type} {P : Program} {k : TypeId} {R : Value → Option (DataW H × List MemPlace)} {b n : Nat} {D : DataW H} {w w' : World} (h : w.ownsMap P k R b n D) (hk : Below w.heap.size w w') : w'.ownsMap P k R b n D :=
  ownsMap_keep h (Keep.of_below (P := fun _ => False) hk (Nat.le_refl _)) id
theorem ParOk.more {D : DataW Unit} {j : Nat} {f : Wd → Wd} {ws : List Wd} (h : ParOk D j [] f ws) : ParOk D (j + 1) [] f ws :=
  ⟨h.map, fun x hx => by obtain ⟨c, h1, h2, h3, h4⟩ := h.par x hx; exact ⟨c, h1, by omega, fun hn => by have := h3 hn; omega, h4⟩⟩
theorem mod2_odd {c : Nat} {b : Bool} (h : decide (c % 2 = 1) = b) : Int.tmod (c : Int) 2 = (if b then 1 else 0) ∧ IntKind.i64.wrap (Int.tmod (c : Int) 2) = (if b then 1 else 0) := by
  have e : Int.tmod (c : Int) 2 = (if b then 1 else 0) := by
    rw [Int.tmod_eq_emod_of_nonneg (by omega), ← h]
    by_cases h : c % 2 = 1
    · simp [h]; omega
    · simp [h]; omega
  refine ⟨e, ?_⟩
  rw [e]
  cases b <;> rfl
theorem count_pl {ws : List Wd} {cs cs2 : List Ct} {ks : List Bool} {wat g : Int} {q : Nat} (h : Pl ws cs cs2 ks wat g q) {key : ByteArray} (hk : key.size ≤ maxLen) {t n : Int} (hwt : wat ≤ t) :
    ∃ (cs3 cs23 : List Ct) (ks3 : List Bool) (wat3 : Int), (if cntErr key t n wat = 0 then cs ++ [⟨key, t, n⟩] else cs) = cs3 ∧ (if cntErr key t n wat = 0 then t else wat) = wat3 ∧ Pl ws cs3 cs23 ks3 wat3 g (q + 1) ∧ wat3 ≤ t := by
  by_cases hE : cntErr key t n wat = 0
  · rw [if_pos hE, if_pos hE]
    exact ⟨_, _, _, _, rfl, rfl, h.count hk hE, Int.le_refl _⟩
  · rw [if_neg hE, if_neg hE]
    exact ⟨_, _, _, _, rfl, rfl, h.more, hwt⟩
def NSof (ws : List Wd) (c : List Ct) (t : Int) : List Nt := ws.flatMap (tkN c [] t)
/-- What stands when j ticks are done. -/
def TrI (W : World) (B pw mb : Nat) (l : List Rl) (g : Int) (j : Nat) (t last : Int) (w : World) : Prop :=
  ∃ (T : Nat → Prop) (ws : List Wd) (cs cs2 : List Ct) (ks : List Bool) (wat : Int) (D : DataW Unit) (mn : Nat), PW B pw T ws cs wat g w ∧ Pl ws cs cs2 ks wat g (2 * j) ∧ ws.map (·.r) = l ∧ w.ownsMap Tryd.prog 9 (plainElem Tryd.prog 3) mb mn D ∧ mn ≤ 60 * j ∧ ParOk D j [] id ws ∧ ¬ T mb ∧
    0 ≤ last ∧ last ≤ t ∧ wat ≤ t ∧ t ≤ 604800 * j ∧ Below W.heap.size W w
set_option maxRecDepth 100000 in
set_option maxHeartbeats 16000000 in
theorem AlertTurns_bad (A0 A1 A2 : Option Addr) (n0 c0 n1 c1 n2 c2 : Nat) (l : List Rl) (w : World) (htab : Lib.TabIs Tryd.prog w "internal/strconv.uint64pow10" .u64 Lib.pow10Tab) (hn0 : n0 ≤ maxLen) (hl : Sl w w.heap.size Rl.cs 7 A0 n0 l) (hf : RlFit l) (hE : rlErr l ≠ 0) :
    Calls Tryd.prog 4 #[.slice A0 n0 c0, .slice A1 n1 c1, .slice A2 n2 c2] w fun e w' => e = .returned (.bool true) ∧ Below w.heap.size w w' := by
  have CA := hide (awakeAlert_any w htab)
  have HL := hide hl
  have hE' : (rlErr l == 0) = false := by simpa using hE
  obtain ⟨E, hEE⟩ : ∃ E, rlErr l = E := ⟨_, rfl⟩
  have CN := hide (fun W (h : Sl W W.heap.size Rl.cs 7 A0 n0 l) => hEE ▸ nNewWatch_rules n0 c0 A0 l 0 W hn0 h hf hE)
  rw [hEE] at hE'
  clear hl htab hE hf hEE
  go_enter Tryd.func4, Tryd.ntmps4
  go_wp2_with (first | (go_at_call 15; refine CA.out.mono ?_; rintro e w1 ⟨rfl, hw1⟩) | (go_at_call 16; refine (CN.out _ (Sl.up HL.out hw1)).mono ?_; rintro e w2 ⟨rfl, hw2⟩))
  go_ret
  exact ⟨rfl, hw1.trans (hw2.mono hw1.size)⟩
set_option maxRecDepth 100000 in
set_option maxHeartbeats 16000000 in
theorem AlertTurns_ok (A0 A1 A2 : Option Addr) (n0 c0 n1 c1 n2 c2 : Nat) (l : List Rl) (kl tl : List Int) (w : World) (htab : Lib.TabIs Tryd.prog w "internal/strconv.uint64pow10" .u64 Lib.pow10Tab) (hn0 : n0 ≤ maxLen) (hn1 : n1 ≤ maxLen) (hn2 : n2 ≤ maxLen) (hnc2 : n2 ≤ c2) (hl : Sl w w.heap.size Rl.cs 7 A0 n0 l) (hf : RlFit l) (hk : Sl w w.heap.size ci 1 A1 n1 kl) (ht : Sl w w.heap.size ci 1 A2 n2 tl) (hE : rlErr l = 0) :
    Calls Tryd.prog 4 #[.slice A0 n0 c0, .slice A1 n1 c1, .slice A2 n2 c2] w fun e w' => e = .returned (.bool true) ∧ Below w.heap.size w w' := by
  unfold maxLen at hn1 hn2
  have CA := hide (awakeAlert_any w htab)
  have HL := hide hl
  have HK := hide hk
  have HT := hide ht
  have CN := hide (fun W (h : Sl W W.heap.size Rl.cs 7 A0 n0 l) => NewWatch_pw n0 c0 A0 l W hn0 h hf hE)
  obtain ⟨hl50, hlo⟩ := rl_ok hE
  have hnd := nodup_names hE
  obtain ⟨g, hg⟩ : ∃ g, lng l = g := ⟨_, rfl⟩
  have HPL0 := hide (show Pl (l.map (wd0 0)) [] [] [] 0 g 0 from ⟨by rw [← hg, List.map_map]; exact congrArg lng (by simp [wd0, Function.comp_def]), rfl, rfl, fun i c hc _ => by simp at hc, fun c hc => by simp at hc, Nat.le_refl _, fun x hx => by
    obtain ⟨y, hy, rfl⟩ := List.mem_map.1 hx
    have := hlo y hy
    exact ⟨this.1, this.2.1, this.2.2.1, this.2.2.2, by simp [wd0], by simp [wd0], by simp [wd0], by simp [wd0]⟩, by decide⟩)
  rw [hg] at CN
  have HF := hide hf
  clear hl htab hE hf hk ht hg hlo
  obtain ⟨kk, hkk⟩ : ∃ kk : Nat, min n2 60 = kk := ⟨_, rfl⟩
  have hk60 : kk ≤ 60 := by omega
  have hk2 : kk ≤ n2 := by omega
  have hmm := @run_makeMap Tryd.prog
  go_enter Tryd.func4, Tryd.ntmps4
  go_wp2_with (first | (go_at_call 15; refine CA.out.mono ?_; rintro e w1 ⟨rfl, hw1⟩; have HB1 := hide hw1; clear hw1) | (go_at_call 16; refine (CN.out _ (Sl.up HL.out HB1.out)).mono ?_; rintro e w2 ⟨pw, T0, rfl, hp0, hw2, hT0⟩; have HP0 := hide hp0; have HB2 := hide (HB1.out.trans (hw2.mono HB1.out.size)); have hz1 := HB1.out.size; have hz2 := hw2.size; have HT0 := hide hT0; clear hp0 hw2 hT0))
  obtain ⟨B, hB⟩ : ∃ B, w1.heap.size = B := ⟨_, rfl⟩
  rw [hB] at HP0 hz1 hz2 HT0
  clear CA CN hB hmm
  have hmb := HP0.out.size
  obtain ⟨mb, hmb2⟩ : ∃ q, w2.heap.size = q := ⟨_, rfl⟩
  have hT1 : ¬ T0 mb := fun h => by have := HP0.out.lt _ h; omega
  have HM0 := hide (show (w2.alloc (.map #[] 0)).ownsMap Tryd.prog 9 (plainElem Tryd.prog 3) mb 0 (.map [] : DataW Unit) from hmb2 ▸ World.ownsMap_made w2 _ _ _)
  have HW2 := hide (HB2.out.alloc (by have := HB2.out.size; omega) (.map #[] 0))
  have HP1 := hide (HP0.out.below ((Below.refl _ _).alloc (Nat.le_refl _) (.map #[] 0)))
  have HWR0 := hide (show (l.map (wd0 0)).map (·.r) = l by rw [List.map_map]; simp [wd0, Function.comp_def])
  have hg01 := HPL0.out.g0
  have hmbw : w.heap.size ≤ mb := by omega
  clear HP0 HB2 HB1 HT0
  rw [hmb2]
  go_loopw [10, 11, 40] (fun t la i wr => ∃ (j : Nat) (tv lv : Int), j ≤ kk ∧ i = .int .i64 j ∧ t = .int .i64 tv ∧ la = .int .i64 lv ∧ TrI w B pw mb l g j tv lv wr) (fun _ _ i _ => kk - (intOf i).toNat)
  case atStart => exact ⟨0, 0, 0, Nat.zero_le _, rfl, rfl, rfl, ⟨T0, _, [], [], [], 0, .map [], 0, HP1.out, HPL0.out, HWR0.out, HM0.out, Nat.le_refl _, ParOk.start l 0 id, hT1, by decide, by decide, by decide, by decide, HW2.out⟩⟩
  case round =>
    obtain ⟨j, tv, lv, hj, rfl, rfl, rfl, T, ws, cs, cs2, ks, wat, D, mn, hP, hPL, hWR, hM, hmn, hPar, hTm, hl0, hlt0, hwt, ht6, hBW⟩ := hrel
    by_cases hlt : j < kk
    · obtain ⟨bb, oo, d, rfl, hbb, hx, hc⟩ := (HT.out.below hBW).at_ (show j < n2 by omega)
      have d0 : wr.cell? ⟨bb, oo + j, none⟩ = some (.int .i64 d) := by simpa using hc 0 _ rfl
      have HP := hide hP
      have HPL := hide hPL
      have HWR := hide hWR
      have HM := hide hM
      have HPA := hide hPar
      have HBW := hide hBW
      have HTM := hide hTm
      have hmlt := World.ownsMap.lt hM
      have hwl : ws.length ≤ 50 := by rw [← List.length_map (f := (·.r)), hWR]; exact hl50
      have hnd2 : (ws.map fun x => x.r.name).Nodup := by
        have h := hnd
        rw [← hWR, List.map_map] at h
        exact h
      have HND := hide hnd2
      clear hP hPL hWR hM hPar hBW hc hx hTm hnd2
      by_cases hd : d < 0
      · go_wp2_with (first | go_quiet (fail) | go_region)
        go_roundw
        case rel => exact ⟨j + 1, tv, lv, by omega, by go_num, rfl, rfl, ⟨T, ws, cs, cs2, ks, wat, D, mn, HP.out.below (by first | exact below_drewN (Below.refl _ _) _ | exact Below.refl _ _), HPL.out.more.more, HWR.out, ownsMap_below HM.out (by first | exact below_drewN (Below.refl _ _) _ | exact Below.refl _ _), by omega, HPA.out.more, HTM.out, hl0, hlt0, hwt, by omega, (by first | exact below_drewN HBW.out _ | exact HBW.out)⟩⟩
        case measure => simp [intOf]; omega
      · have hd' : decide (d < 0) = false := by simpa using hd
        by_cases hd2 : 604800 < d
        · go_wp2_with (first | go_quiet (fail) | go_region)
          go_roundw
          case rel => exact ⟨j + 1, tv, lv, by omega, by go_num, rfl, rfl, ⟨T, ws, cs, cs2, ks, wat, D, mn, HP.out.below (by first | exact below_drewN (Below.refl _ _) _ | exact Below.refl _ _), HPL.out.more.more, HWR.out, ownsMap_below HM.out (by first | exact below_drewN (Below.refl _ _) _ | exact Below.refl _ _), by omega, HPA.out.more, HTM.out, hl0, hlt0, hwt, by omega, (by first | exact below_drewN HBW.out _ | exact HBW.out)⟩⟩
          case measure => simp [intOf]; omega
        · have hd2' : decide (604800 < d) = false := by simpa using hd2
          obtain ⟨t1, ht1⟩ : ∃ q, tv + d = q := ⟨_, rfl⟩
          have ht10 : t1 ≤ 604800 * (j + 1 : Nat) := by omega
          have hlt1 : lv ≤ t1 := by omega
          have hwt1 : wat ≤ t1 := by omega
          have ht00 : 0 ≤ t1 := by omega
          by_cases hj1 : j < n1
          · obtain ⟨kb, ko, kv, rfl, hkb, hkx, hkc⟩ := (HK.out.below HBW.out).at_ hj1
            have k0 : wr.cell? ⟨kb, ko + j, none⟩ = some (.int .i64 kv) := by simpa using hkc 0 _ rfl
            clear hkc hkx
            have hmo := momB_of (t := t1) (by omega) (by omega)
            have HNS3 : ∀ c, ws.flatMap (tkN c [] t1) = NSof ws c t1 := fun _ => rfl
            go_wp2_with (first | (go_at_call 17; refine (Count_pw HP.out ⟨#[]⟩ t1 kv (by decide) (by have := HPL.out.le; omega)).mono ?_; rintro e w3 ⟨T3, rfl, hp3, hk3, ht3⟩; obtain ⟨cs3, cs23, ks3, wat3, hcs3, hwat3, hpl3, hwt3⟩ := count_pl HPL.out (key := ⟨#[]⟩) (by decide) (t := t1) (n := kv) (by omega); rw [hcs3, hwat3] at hp3; have HP3 := hide hp3; have HPL3 := hide hpl3; have HM3 := hide (ownsMap_keep HM.out hk3 HTM.out); have HBW3 := hide (HBW.out.trans (hk3.be.mono (by have := HP.out.size; omega))); have hz3 := hk3.be.size; have HTM3 := hide (show ¬ T3 mb from fun h => by rcases ht3 mb h with hh | hh; (exact HTM.out hh); omega); clear hcs3 hwat3 hp3 hpl3 hk3 ht3) | (go_at_call 18; refine (Tick_pw HP3.out t1 hmo (by omega) (by omega) HPL3.out.hok HPL3.out.w0 (HPL3.out.fit (by omega)) hg01.1 hg01.2).mono ?_; rintro e w4 ⟨ov, rfl, hp4, hv4, hk4⟩; have HP4 := hide hp4; have HPL4 := hide (HPL3.out.tick (sl := []) (t := t1) hwt3); have hnl := tkN_len cs3 [] t1 ws; rw [HNS3 cs3] at hv4 hnl; obtain ⟨oa, oc, rfl⟩ := own_sl hv4; have HV4 := hide hv4; have HM4 := hide (ownsMap_keep HM3.out hk4 HTM3.out); have HBW4 := hide (HBW3.out.trans (hk4.be.mono (by have := HP3.out.size; omega))); have hz4 := hk4.be.size; clear hp4 hv4 hk4))
            obtain ⟨ns, hns⟩ : ∃ x, NSof ws cs3 t1 = x := ⟨_, rfl⟩
            rw [hns] at HV4 hnl ⊢
            have HNS := hide (show ws.flatMap (tkN cs3 [] t1) = ns from hns)
            clear hns HNS3
            go_loopw [11, 75] (fun la i wr => ∃ (q : Nat) (lv2 : Int) (D2 : DataW Unit) (mn2 : Nat), q ≤ ns.length ∧ i = .int .i64 q ∧ la = .int .i64 lv2 ∧ 0 ≤ lv2 ∧ lv2 ≤ t1 ∧ wr.ownsMap Tryd.prog 9 (plainElem Tryd.prog 3) mb mn2 D2 ∧ mn2 ≤ 60 * j + q ∧ ParOk D2 j ((ns.take q).map (·.rule)) (tkW cs3 [] t1) ws ∧ Keep w.heap.size (fun k => k = mb) w4 wr) (fun _ i _ => ns.length - (intOf i).toNat)
            case atStart => exact ⟨0, lv, D, mn, Nat.zero_le _, rfl, rfl, hl0, by omega, HM4.out, by omega, HPA.out.other, Keep.refl _ _ _⟩
            case round =>
              obtain ⟨q, lv2, D2, mn2, hq, rfl, rfl, hlq0, hlq1, hM2, hmn2, hPar2, hK2⟩ := hrel
              have hzq := hK2.be.size
              by_cases hqn : q < ns.length
              · obtain ⟨oa', oc', hov, hsl, _⟩ := sl_of_own (f := Nt.cs) (sz := 4) (fun _ => rfl) rfl (hK2.own HV4.out (fun k hk e => by have := (HV4.out.lt _ hk).1; omega))
                simp only [Value.slice.injEq, true_and] at hov
                obtain ⟨rfl, rfl⟩ := hov
                obtain ⟨nb, no, ⟨na, nr, nk, nv⟩, rfl, hnb, hnx, hnc⟩ := hsl.at_ hqn
                have e0 : wr.cell? ⟨nb, no + q * 4, none⟩ = some (.int .i64 na) := by simpa using hnc 0 _ rfl
                have e1 : wr.cell? ⟨nb, no + q * 4 + 1, none⟩ = some (.string nr) := hnc 1 _ rfl
                have e2 : wr.cell? ⟨nb, no + q * 4 + 2, none⟩ = some (.int .i64 nk) := hnc 2 _ rfl
                have e3 : wr.cell? ⟨nb, no + q * 4 + 3, none⟩ = some (.int .i64 nv) := hnc 3 _ rfl
                obtain ⟨x, hxm, hr1, hr2, hr3, hr4, hr5⟩ := at_ns HND.out (HNS.out.symm ▸ hnx)
                simp only at hr1 hr2 hr3
                subst nr na nk
                rw [HNS.out] at hr5
                obtain ⟨c, hc1, hc2, hc3, _, hc5⟩ := hPar2.par x hxm
                have hcj := hc3 hr5
                obtain ⟨hpar, hpar2⟩ := mod2_odd (hc5 hr5)
                have hlf : decide (t1 < lv2) = false := by simp; omega
                have hlf2 : ¬ t1 < lv2 := by omega
                have HST := hide (ParOk.step hPar2 HND.out hxm hr5 hr4 hc1)
                have HTK := hide (take_succ_get hnx)
                have hxr : x.r.name.size ≤ maxLen := (HF.out _ (HWR.out ▸ List.mem_map_of_mem (f := (·.r)) hxm)).1
                have HKY := hide (key_of x.r.name hxr)
                have HAT := hide (show ∀ c' : Int, D2.atKey (.string x.r.name.data.toList) (.lit (.int .i64 0)) = .lit (.int .i64 c') → c' = (c : Int) from fun c' h => by
                  rw [show D2.atKey (.string x.r.name.data.toList) (.lit (.int .i64 0)) = .lit (.int .i64 (c : Int)) from hc1] at h
                  injection h with h; injection h with h1 h2; exact h2.symm)
                have HM2 := hide (ownsMap_below hM2 ((Below.refl wr.heap.size wr).alloc (Nat.le_refl _) (.cells #[.int .i64 t1, .string x.r.name, .int .i64 (if firesB x.st then 2 else 1), .int .i64 nv] 47)))
                have HK2 := hide hK2
                have HNB := hide (heap_alloc_new wr (.cells #[.int .i64 t1, .string x.r.name, .int .i64 (if firesB x.st then 2 else 1), .int .i64 nv] 47))
                have hwf : (Lit.int .i64 ((c : Int) + 1)).wf = true := by
                  rw [Lit.wf]
                  simp only [Bool.and_eq_true, decide_eq_true_eq]
                  exact ⟨show (-9223372036854775808 : Int) ≤ _ by omega, show _ ≤ (9223372036854775807 : Int) by omega⟩
                have hmlt2 := World.ownsMap.lt hM2
                clear hM2 hPar2 hK2 hsl hnc hnx hc1 hc5 hr4 hr5 hxr
                cases hfb : firesB x.st
                · rw [hfb] at hpar hpar2 HM2 HNB e2
                  simp only [if_true, if_false, Bool.false_eq_true, ite_true, ite_false] at hpar hpar2 HM2 HNB e2
                  clear hfb
                  go_wp2_with (first | (at_lookup; refine wpList_lookup_own_int _ rfl _ _ 42 rfl 9 3 .i64 law_str Tryd.underlying42 Tryd.underlying3 (zero_intM _) mb _ _ rfl HM2.out (.string x.r.name) _ rfl HKY.out ?_; intro c' hat hwc; obtain rfl := HAT.out c' hat) | (at_mapUpdate; refine wpList_mapUpdate_own _ rfl _ _ _ 42 rfl 9 3 law_str Tryd.underlying42 _ mb mn2 _ rfl HM2.out (by unfold maxLen; omega) _ _ _ rfl rfl HKY.out _ [] (Go.plainElem_int Tryd.underlying3 hwf) ?_; intro w5 hown5 hg5; have HM5 := hide hown5; have HG5 := hide hg5; clear hown5 hg5))
                  go_roundw
                  case rel => exact ⟨q + 1, t1, _, mn2 + 1, by omega, by go_num, rfl, by omega, Int.le_refl _, HM5.out, by omega, by rw [HTK.out, List.map_append]; exact HST.out, HK2.out.trans (Keep.grown HG5.out (by omega) (fun k hk => by cases hk; exact ⟨hmbw, rfl⟩))⟩
                  case measure => simp [intOf]; omega
                · rw [hfb] at hpar hpar2 HM2 HNB e2
                  simp only [if_true, if_false, Bool.false_eq_true, ite_true, ite_false] at hpar hpar2 HM2 HNB e2
                  clear hfb
                  go_wp2_with (first | (at_lookup; refine wpList_lookup_own_int _ rfl _ _ 42 rfl 9 3 .i64 law_str Tryd.underlying42 Tryd.underlying3 (zero_intM _) mb _ _ rfl HM2.out (.string x.r.name) _ rfl HKY.out ?_; intro c' hat hwc; obtain rfl := HAT.out c' hat) | (at_mapUpdate; refine wpList_mapUpdate_own _ rfl _ _ _ 42 rfl 9 3 law_str Tryd.underlying42 _ mb mn2 _ rfl HM2.out (by unfold maxLen; omega) _ _ _ rfl rfl HKY.out _ [] (Go.plainElem_int Tryd.underlying3 hwf) ?_; intro w5 hown5 hg5; have HM5 := hide hown5; have HG5 := hide hg5; clear hown5 hg5))
                  go_roundw
                  case rel => exact ⟨q + 1, t1, _, mn2 + 1, by omega, by go_num, rfl, by omega, Int.le_refl _, HM5.out, by omega, by rw [HTK.out, List.map_append]; exact HST.out, HK2.out.trans (Keep.grown HG5.out (by omega) (fun k hk => by cases hk; exact ⟨hmbw, rfl⟩))⟩
                  case measure => simp [intOf]; omega
              · obtain rfl : q = ns.length := by omega
                rw [List.take_length, ← HNS.out] at hPar2
                have HPD := hide (hPar2.done (g := id) HND.out)
                have HPQ := hide (HP4.out.keep hK2 (fun k hk e => HTM3.out (e ▸ hk)))
                have HMQ := hide hM2
                have HBQ := hide (HBW4.out.trans hK2.be)
                have hmlt2 := World.ownsMap.lt hM2
                obtain ⟨ws6, hws6⟩ : ∃ x, ws.map (tkW cs3 [] t1) = x := ⟨_, rfl⟩
                rw [hws6] at HPQ HPD HPL4
                have hwl6 : ws6.length = ws.length := by rw [← hws6, List.length_map]
                have HWR6 := hide (show ws6.map (·.r) = l by rw [← hws6, List.map_map]; exact HWR.out)
                clear hPar2 hK2 hM2 HV4 hws6 HPA HM HM3 HM4 HP HP3 HP4 HPL HPL3 HBW HBW3 HBW4 HND HNS
                go_wp2_with (go_at_call 19; refine (Status_pw HPQ.out (by omega)).mono ?_; rintro e w6 ⟨sv, rfl, hs6, hb6⟩; obtain ⟨sa, sc, rfl⟩ := own_sl hs6; have HS6 := hide hs6; have HP6 := hide (HPQ.out.below hb6); have HM6 := hide (ownsMap_below HMQ.out hb6); have HB6 := hide (HBQ.out.trans (hb6.mono HBQ.out.size)); have hz6 := hb6.size; clear hs6 hb6)
                go_loopw [110] (fun i wr => ∃ r : Nat, r ≤ ws6.length ∧ i = .int .i64 r ∧ Below w6.heap.size w6 wr) (fun i _ => ws6.length - (intOf i).toNat)
                case atStart => exact ⟨0, Nat.zero_le _, rfl, Below.refl _ _⟩
                case round =>
                  obtain ⟨r, hr, rfl, hB⟩ := hrel
                  have hzr := hB.size
                  by_cases hrl : r < ws6.length
                  · obtain ⟨sa', sc', hsv, hsl, _⟩ := sl_of_own (f := Stt.cs) (sz := 4) (fun _ => rfl) (by rw [List.length_map]) (own_below HS6.out hB)
                    simp only [Value.slice.injEq, true_and] at hsv
                    obtain ⟨rfl, rfl⟩ := hsv
                    obtain ⟨sb, so, y, rfl, hsb, hsx, hsc⟩ := hsl.at_ hrl
                    rw [List.getElem?_map] at hsx
                    obtain ⟨x, hxx, rfl⟩ := Option.map_eq_some_iff.1 hsx
                    have e0 : wr.cell? ⟨sb, so + r * 4, none⟩ = some (.string x.r.name) := by simpa [Wd.stt] using hsc 0 _ rfl
                    have e1 : wr.cell? ⟨sb, so + r * 4 + 1, none⟩ = some (.int .i64 x.st) := hsc 1 _ rfl
                    have e2 : wr.cell? ⟨sb, so + r * 4 + 2, none⟩ = some (.int .i64 x.si) := hsc 2 _ rfl
                    have e3 : wr.cell? ⟨sb, so + r * 4 + 3, none⟩ = some (.int .i64 x.va) := hsc 3 _ rfl
                    have hxm : x ∈ ws6 := List.mem_of_getElem? hxx
                    obtain ⟨c, hc1, hc2, _, _, hc5⟩ := HPD.out.par x hxm
                    obtain ⟨hpar, hpar2⟩ := mod2_odd (hc5 (by simp))
                    have HKY := hide (key_of x.r.name (HF.out _ (HWR6.out ▸ List.mem_map_of_mem (f := (·.r)) hxm)).1)
                    have HAT := hide (show ∀ c' : Int, D2.atKey (.string x.r.name.data.toList) (.lit (.int .i64 0)) = .lit (.int .i64 c') → c' = (c : Int) from fun c' h => by
                      rw [show D2.atKey (.string x.r.name.data.toList) (.lit (.int .i64 0)) = .lit (.int .i64 (c : Int)) from hc1] at h
                      injection h with h; injection h with h1 h2; exact h2.symm)
                    have HMR := hide (ownsMap_below (ownsMap_below HM6.out hB) ((Below.refl wr.heap.size wr).alloc (Nat.le_refl _) (.cells #[.string x.r.name, .int .i64 x.st, .int .i64 x.si, .int .i64 x.va] 51)))
                    have HBR := hide (hB.alloc hB.size (.cells #[.string x.r.name, .int .i64 x.st, .int .i64 x.si, .int .i64 x.va] 51))
                    obtain ⟨st, hst⟩ : ∃ q, x.st = q := ⟨_, rfl⟩
                    rw [hst] at hpar hpar2 e1 HMR HBR
                    clear hst hc1 hc5 hsc hsx hsl hB hxx hxm
                    by_cases h2 : st = 2
                    · simp only [firesB] at hpar hpar2
                      subst h2
                      simp at hpar hpar2
                      go_wp2_with (at_lookup; refine wpList_lookup_own_int _ rfl _ _ 42 rfl 9 3 .i64 law_str Tryd.underlying42 Tryd.underlying3 (zero_intM _) mb _ _ rfl HMR.out (.string x.r.name) _ rfl HKY.out ?_; intro c' hat hwc; obtain rfl := HAT.out c' hat)
                      go_roundw
                      case rel => exact ⟨r + 1, by omega, by go_num, HBR.out⟩
                      case measure => simp [intOf]; omega
                    · by_cases h3 : st = 3
                      · simp only [firesB] at hpar hpar2
                        subst h3
                        simp at hpar hpar2
                        go_wp2_with (at_lookup; refine wpList_lookup_own_int _ rfl _ _ 42 rfl 9 3 .i64 law_str Tryd.underlying42 Tryd.underlying3 (zero_intM _) mb _ _ rfl HMR.out (.string x.r.name) _ rfl HKY.out ?_; intro c' hat hwc; obtain rfl := HAT.out c' hat)
                        go_roundw
                        case rel => exact ⟨r + 1, by omega, by go_num, HBR.out⟩
                        case measure => simp [intOf]; omega
                      · simp only [firesB] at hpar hpar2
                        have b2 : (st == 2) = false := by simpa using h2
                        have b3 : (st == 3) = false := by simpa using h3
                        have d2 : decide (st = 2) = false := by simpa using h2
                        have d3 : decide (st = 3) = false := by simpa using h3
                        simp [d2, d3] at hpar hpar2
                        go_wp2_with (at_lookup; refine wpList_lookup_own_int _ rfl _ _ 42 rfl 9 3 .i64 law_str Tryd.underlying42 Tryd.underlying3 (zero_intM _) mb _ _ rfl HMR.out (.string x.r.name) _ rfl HKY.out ?_; intro c' hat hwc; obtain rfl := HAT.out c' hat)
                        go_roundw
                        case rel => exact ⟨r + 1, by omega, by go_num, HBR.out⟩
                        case measure => simp [intOf]; omega
                  · obtain rfl : r = ws6.length := by omega
                    go_wp2_with (fail)
                    go_roundw
                    case rel => exact ⟨j + 1, t1, lv2, by omega, by go_num, rfl, rfl, ⟨_, ws6, _, _, _, t1, D2, mn2, HP6.out.below hB, HPL4.out, HWR6.out, ownsMap_below HM6.out hB, by omega, HPD.out, HTM3.out, hlq0, hlq1, Int.le_refl _, ht10, HB6.out.trans (hB.mono HB6.out.size)⟩⟩
                    case measure => simp [intOf]; omega
          · have hj1' : decide ((j : Int) < (n1 : Int)) = false := by simp; omega
            have HP3 := HP
            have HPL3 := hide HPL.out.more
            have HM3 := HM
            have HBW3 := HBW
            have hz3 := HBW.out.size
            have HTM3 := HTM
            obtain ⟨cs3, hcs3⟩ : ∃ x, cs = x := ⟨_, rfl⟩
            rw [hcs3] at HP3 HPL3
            have hwt3 := hwt1
            have hmo := momB_of (t := t1) (by omega) (by omega)
            have HNS3 : ∀ c, ws.flatMap (tkN c [] t1) = NSof ws c t1 := fun _ => rfl
            go_wp2_with (first | (go_at_call 18; refine (Tick_pw HP3.out t1 hmo (by omega) (by omega) HPL3.out.hok HPL3.out.w0 (HPL3.out.fit (by omega)) hg01.1 hg01.2).mono ?_; rintro e w4 ⟨ov, rfl, hp4, hv4, hk4⟩; have HP4 := hide hp4; have HPL4 := hide (HPL3.out.tick (sl := []) (t := t1) hwt3); have hnl := tkN_len cs3 [] t1 ws; rw [HNS3 cs3] at hv4 hnl; obtain ⟨oa, oc, rfl⟩ := own_sl hv4; have HV4 := hide hv4; have HM4 := hide (ownsMap_keep HM3.out hk4 HTM3.out); have HBW4 := hide (HBW3.out.trans (hk4.be.mono (by have := HP3.out.size; omega))); have hz4 := hk4.be.size; clear hp4 hv4 hk4))
            obtain ⟨ns, hns⟩ : ∃ x, NSof ws cs3 t1 = x := ⟨_, rfl⟩
            rw [hns] at HV4 hnl ⊢
            have HNS := hide (show ws.flatMap (tkN cs3 [] t1) = ns from hns)
            clear hns HNS3
            go_loopw [11, 75] (fun la i wr => ∃ (q : Nat) (lv2 : Int) (D2 : DataW Unit) (mn2 : Nat), q ≤ ns.length ∧ i = .int .i64 q ∧ la = .int .i64 lv2 ∧ 0 ≤ lv2 ∧ lv2 ≤ t1 ∧ wr.ownsMap Tryd.prog 9 (plainElem Tryd.prog 3) mb mn2 D2 ∧ mn2 ≤ 60 * j + q ∧ ParOk D2 j ((ns.take q).map (·.rule)) (tkW cs3 [] t1) ws ∧ Keep w.heap.size (fun k => k = mb) w4 wr) (fun _ i _ => ns.length - (intOf i).toNat)
            case atStart => exact ⟨0, lv, D, mn, Nat.zero_le _, rfl, rfl, hl0, by omega, HM4.out, by omega, HPA.out.other, Keep.refl _ _ _⟩
            case round =>
              obtain ⟨q, lv2, D2, mn2, hq, rfl, rfl, hlq0, hlq1, hM2, hmn2, hPar2, hK2⟩ := hrel
              have hzq := hK2.be.size
              by_cases hqn : q < ns.length
              · obtain ⟨oa', oc', hov, hsl, _⟩ := sl_of_own (f := Nt.cs) (sz := 4) (fun _ => rfl) rfl (hK2.own HV4.out (fun k hk e => by have := (HV4.out.lt _ hk).1; omega))
                simp only [Value.slice.injEq, true_and] at hov
                obtain ⟨rfl, rfl⟩ := hov
                obtain ⟨nb, no, ⟨na, nr, nk, nv⟩, rfl, hnb, hnx, hnc⟩ := hsl.at_ hqn
                have e0 : wr.cell? ⟨nb, no + q * 4, none⟩ = some (.int .i64 na) := by simpa using hnc 0 _ rfl
                have e1 : wr.cell? ⟨nb, no + q * 4 + 1, none⟩ = some (.string nr) := hnc 1 _ rfl
                have e2 : wr.cell? ⟨nb, no + q * 4 + 2, none⟩ = some (.int .i64 nk) := hnc 2 _ rfl
                have e3 : wr.cell? ⟨nb, no + q * 4 + 3, none⟩ = some (.int .i64 nv) := hnc 3 _ rfl
                obtain ⟨x, hxm, hr1, hr2, hr3, hr4, hr5⟩ := at_ns HND.out (HNS.out.symm ▸ hnx)
                simp only at hr1 hr2 hr3
                subst nr na nk
                rw [HNS.out] at hr5
                obtain ⟨c, hc1, hc2, hc3, _, hc5⟩ := hPar2.par x hxm
                have hcj := hc3 hr5
                obtain ⟨hpar, hpar2⟩ := mod2_odd (hc5 hr5)
                have hlf : decide (t1 < lv2) = false := by simp; omega
                have hlf2 : ¬ t1 < lv2 := by omega
                have HST := hide (ParOk.step hPar2 HND.out hxm hr5 hr4 hc1)
                have HTK := hide (take_succ_get hnx)
                have hxr : x.r.name.size ≤ maxLen := (HF.out _ (HWR.out ▸ List.mem_map_of_mem (f := (·.r)) hxm)).1
                have HKY := hide (key_of x.r.name hxr)
                have HAT := hide (show ∀ c' : Int, D2.atKey (.string x.r.name.data.toList) (.lit (.int .i64 0)) = .lit (.int .i64 c') → c' = (c : Int) from fun c' h => by
                  rw [show D2.atKey (.string x.r.name.data.toList) (.lit (.int .i64 0)) = .lit (.int .i64 (c : Int)) from hc1] at h
                  injection h with h; injection h with h1 h2; exact h2.symm)
                have HM2 := hide (ownsMap_below hM2 ((Below.refl wr.heap.size wr).alloc (Nat.le_refl _) (.cells #[.int .i64 t1, .string x.r.name, .int .i64 (if firesB x.st then 2 else 1), .int .i64 nv] 47)))
                have HK2 := hide hK2
                have HNB := hide (heap_alloc_new wr (.cells #[.int .i64 t1, .string x.r.name, .int .i64 (if firesB x.st then 2 else 1), .int .i64 nv] 47))
                have hwf : (Lit.int .i64 ((c : Int) + 1)).wf = true := by
                  rw [Lit.wf]
                  simp only [Bool.and_eq_true, decide_eq_true_eq]
                  exact ⟨show (-9223372036854775808 : Int) ≤ _ by omega, show _ ≤ (9223372036854775807 : Int) by omega⟩
                have hmlt2 := World.ownsMap.lt hM2
                clear hM2 hPar2 hK2 hsl hnc hnx hc1 hc5 hr4 hr5 hxr
                cases hfb : firesB x.st
                · rw [hfb] at hpar hpar2 HM2 HNB e2
                  simp only [if_true, if_false, Bool.false_eq_true, ite_true, ite_false] at hpar hpar2 HM2 HNB e2
                  clear hfb
                  go_wp2_with (first | (at_lookup; refine wpList_lookup_own_int _ rfl _ _ 42 rfl 9 3 .i64 law_str Tryd.underlying42 Tryd.underlying3 (zero_intM _) mb _ _ rfl HM2.out (.string x.r.name) _ rfl HKY.out ?_; intro c' hat hwc; obtain rfl := HAT.out c' hat) | (at_mapUpdate; refine wpList_mapUpdate_own _ rfl _ _ _ 42 rfl 9 3 law_str Tryd.underlying42 _ mb mn2 _ rfl HM2.out (by unfold maxLen; omega) _ _ _ rfl rfl HKY.out _ [] (Go.plainElem_int Tryd.underlying3 hwf) ?_; intro w5 hown5 hg5; have HM5 := hide hown5; have HG5 := hide hg5; clear hown5 hg5))
                  go_roundw
                  case rel => exact ⟨q + 1, t1, _, mn2 + 1, by omega, by go_num, rfl, by omega, Int.le_refl _, HM5.out, by omega, by rw [HTK.out, List.map_append]; exact HST.out, HK2.out.trans (Keep.grown HG5.out (by omega) (fun k hk => by cases hk; exact ⟨hmbw, rfl⟩))⟩
                  case measure => simp [intOf]; omega
                · rw [hfb] at hpar hpar2 HM2 HNB e2
                  simp only [if_true, if_false, Bool.false_eq_true, ite_true, ite_false] at hpar hpar2 HM2 HNB e2
                  clear hfb
                  go_wp2_with (first | (at_lookup; refine wpList_lookup_own_int _ rfl _ _ 42 rfl 9 3 .i64 law_str Tryd.underlying42 Tryd.underlying3 (zero_intM _) mb _ _ rfl HM2.out (.string x.r.name) _ rfl HKY.out ?_; intro c' hat hwc; obtain rfl := HAT.out c' hat) | (at_mapUpdate; refine wpList_mapUpdate_own _ rfl _ _ _ 42 rfl 9 3 law_str Tryd.underlying42 _ mb mn2 _ rfl HM2.out (by unfold maxLen; omega) _ _ _ rfl rfl HKY.out _ [] (Go.plainElem_int Tryd.underlying3 hwf) ?_; intro w5 hown5 hg5; have HM5 := hide hown5; have HG5 := hide hg5; clear hown5 hg5))
                  go_roundw
                  case rel => exact ⟨q + 1, t1, _, mn2 + 1, by omega, by go_num, rfl, by omega, Int.le_refl _, HM5.out, by omega, by rw [HTK.out, List.map_append]; exact HST.out, HK2.out.trans (Keep.grown HG5.out (by omega) (fun k hk => by cases hk; exact ⟨hmbw, rfl⟩))⟩
                  case measure => simp [intOf]; omega
              · obtain rfl : q = ns.length := by omega
                rw [List.take_length, ← HNS.out] at hPar2
                have HPD := hide (hPar2.done (g := id) HND.out)
                have HPQ := hide (HP4.out.keep hK2 (fun k hk e => HTM3.out (e ▸ hk)))
                have HMQ := hide hM2
                have HBQ := hide (HBW4.out.trans hK2.be)
                have hmlt2 := World.ownsMap.lt hM2
                obtain ⟨ws6, hws6⟩ : ∃ x, ws.map (tkW cs3 [] t1) = x := ⟨_, rfl⟩
                rw [hws6] at HPQ HPD HPL4
                have hwl6 : ws6.length = ws.length := by rw [← hws6, List.length_map]
                have HWR6 := hide (show ws6.map (·.r) = l by rw [← hws6, List.map_map]; exact HWR.out)
                clear hPar2 hK2 hM2 HV4 hws6 HPA HM HM3 HM4 HP HP3 HP4 HPL HPL3 HBW HBW3 HBW4 HND HNS
                go_wp2_with (go_at_call 19; refine (Status_pw HPQ.out (by omega)).mono ?_; rintro e w6 ⟨sv, rfl, hs6, hb6⟩; obtain ⟨sa, sc, rfl⟩ := own_sl hs6; have HS6 := hide hs6; have HP6 := hide (HPQ.out.below hb6); have HM6 := hide (ownsMap_below HMQ.out hb6); have HB6 := hide (HBQ.out.trans (hb6.mono HBQ.out.size)); have hz6 := hb6.size; clear hs6 hb6)
                go_loopw [110] (fun i wr => ∃ r : Nat, r ≤ ws6.length ∧ i = .int .i64 r ∧ Below w6.heap.size w6 wr) (fun i _ => ws6.length - (intOf i).toNat)
                case atStart => exact ⟨0, Nat.zero_le _, rfl, Below.refl _ _⟩
                case round =>
                  obtain ⟨r, hr, rfl, hB⟩ := hrel
                  have hzr := hB.size
                  by_cases hrl : r < ws6.length
                  · obtain ⟨sa', sc', hsv, hsl, _⟩ := sl_of_own (f := Stt.cs) (sz := 4) (fun _ => rfl) (by rw [List.length_map]) (own_below HS6.out hB)
                    simp only [Value.slice.injEq, true_and] at hsv
                    obtain ⟨rfl, rfl⟩ := hsv
                    obtain ⟨sb, so, y, rfl, hsb, hsx, hsc⟩ := hsl.at_ hrl
                    rw [List.getElem?_map] at hsx
                    obtain ⟨x, hxx, rfl⟩ := Option.map_eq_some_iff.1 hsx
                    have e0 : wr.cell? ⟨sb, so + r * 4, none⟩ = some (.string x.r.name) := by simpa [Wd.stt] using hsc 0 _ rfl
                    have e1 : wr.cell? ⟨sb, so + r * 4 + 1, none⟩ = some (.int .i64 x.st) := hsc 1 _ rfl
                    have e2 : wr.cell? ⟨sb, so + r * 4 + 2, none⟩ = some (.int .i64 x.si) := hsc 2 _ rfl
                    have e3 : wr.cell? ⟨sb, so + r * 4 + 3, none⟩ = some (.int .i64 x.va) := hsc 3 _ rfl
                    have hxm : x ∈ ws6 := List.mem_of_getElem? hxx
                    obtain ⟨c, hc1, hc2, _, _, hc5⟩ := HPD.out.par x hxm
                    obtain ⟨hpar, hpar2⟩ := mod2_odd (hc5 (by simp))
                    have HKY := hide (key_of x.r.name (HF.out _ (HWR6.out ▸ List.mem_map_of_mem (f := (·.r)) hxm)).1)
                    have HAT := hide (show ∀ c' : Int, D2.atKey (.string x.r.name.data.toList) (.lit (.int .i64 0)) = .lit (.int .i64 c') → c' = (c : Int) from fun c' h => by
                      rw [show D2.atKey (.string x.r.name.data.toList) (.lit (.int .i64 0)) = .lit (.int .i64 (c : Int)) from hc1] at h
                      injection h with h; injection h with h1 h2; exact h2.symm)
                    have HMR := hide (ownsMap_below (ownsMap_below HM6.out hB) ((Below.refl wr.heap.size wr).alloc (Nat.le_refl _) (.cells #[.string x.r.name, .int .i64 x.st, .int .i64 x.si, .int .i64 x.va] 51)))
                    have HBR := hide (hB.alloc hB.size (.cells #[.string x.r.name, .int .i64 x.st, .int .i64 x.si, .int .i64 x.va] 51))
                    obtain ⟨st, hst⟩ : ∃ q, x.st = q := ⟨_, rfl⟩
                    rw [hst] at hpar hpar2 e1 HMR HBR
                    clear hst hc1 hc5 hsc hsx hsl hB hxx hxm
                    by_cases h2 : st = 2
                    · simp only [firesB] at hpar hpar2
                      subst h2
                      simp at hpar hpar2
                      go_wp2_with (at_lookup; refine wpList_lookup_own_int _ rfl _ _ 42 rfl 9 3 .i64 law_str Tryd.underlying42 Tryd.underlying3 (zero_intM _) mb _ _ rfl HMR.out (.string x.r.name) _ rfl HKY.out ?_; intro c' hat hwc; obtain rfl := HAT.out c' hat)
                      go_roundw
                      case rel => exact ⟨r + 1, by omega, by go_num, HBR.out⟩
                      case measure => simp [intOf]; omega
                    · by_cases h3 : st = 3
                      · simp only [firesB] at hpar hpar2
                        subst h3
                        simp at hpar hpar2
                        go_wp2_with (at_lookup; refine wpList_lookup_own_int _ rfl _ _ 42 rfl 9 3 .i64 law_str Tryd.underlying42 Tryd.underlying3 (zero_intM _) mb _ _ rfl HMR.out (.string x.r.name) _ rfl HKY.out ?_; intro c' hat hwc; obtain rfl := HAT.out c' hat)
                        go_roundw
                        case rel => exact ⟨r + 1, by omega, by go_num, HBR.out⟩
                        case measure => simp [intOf]; omega
                      · simp only [firesB] at hpar hpar2
                        have b2 : (st == 2) = false := by simpa using h2
                        have b3 : (st == 3) = false := by simpa using h3
                        have d2 : decide (st = 2) = false := by simpa using h2
                        have d3 : decide (st = 3) = false := by simpa using h3
                        simp [d2, d3] at hpar hpar2
                        go_wp2_with (at_lookup; refine wpList_lookup_own_int _ rfl _ _ 42 rfl 9 3 .i64 law_str Tryd.underlying42 Tryd.underlying3 (zero_intM _) mb _ _ rfl HMR.out (.string x.r.name) _ rfl HKY.out ?_; intro c' hat hwc; obtain rfl := HAT.out c' hat)
                        go_roundw
                        case rel => exact ⟨r + 1, by omega, by go_num, HBR.out⟩
                        case measure => simp [intOf]; omega
                  · obtain rfl : r = ws6.length := by omega
                    go_wp2_with (fail)
                    go_roundw
                    case rel => exact ⟨j + 1, t1, lv2, by omega, by go_num, rfl, rfl, ⟨_, ws6, _, _, _, t1, D2, mn2, HP6.out.below hB, HPL4.out, HWR6.out, ownsMap_below HM6.out hB, by omega, HPD.out, HTM3.out, hlq0, hlq1, Int.le_refl _, ht10, HB6.out.trans (hB.mono HB6.out.size)⟩⟩
                    case measure => simp [intOf]; omega
    · obtain rfl : j = kk := by omega
      go_wp2_with (fail)
      go_ret
      exact ⟨rfl, hBW⟩
end Go.Proofs.YtpjfihdbbgencaaDoor
