/- NmDrN, NmDrR, NmDrL, NmDrF, NmDrS, NmDrZ, NmDrX: texts of one's own, in one file. -/
import Derived.Test.YtecancnojdifaaaDoorNmDrH
import Derived.BigRegion
/- Walk of one of the reference's reader of mangled names, a name (printed by gen_rv.py). -/
namespace Go.Proofs.YtecancnojdifaaaDoor
open Go.RowKit
set_option linter.unusedVariables false
set_option linter.unusedSimpArgs false
set_option maxRecDepth 100000 in
set_option maxHeartbeats 16000000 in
theorem rOne_N {s : ByteArray} {f : Nat} (HN : rNamOk s f) (hf : f + 1 ≤ 12) : rOneAt s (f + 1) 78 := by
  intro B c mb D F i d w hBw hs hDi hd h hb
  have hi := get_lt hb
  have HOK := hide h.ok
  have hra := (rR.refl h).alloc hBw (.cells #[.int .i64 0, .slice none 0 0, .slice none 0 0] 60)
  have HRA := hide hra
  have HBA0 := hide (rBk.new h (.cells #[.int .i64 0, .slice none 0 0, .slice none 0 0] 60))
  have c1 := HRA.out.st.c1
  have hrb2 := (rR.refl HRA.out.st).alloc (Nat.le_trans hBw HRA.out.size) (.cells #[.int .i64 0, .slice none 0 0, .slice none 0 0] 60)
  have HRB := hide (HRA.out.trans hrb2)
  have HBA := hide (HBA0.out.step hrb2)
  have HTA := hide (show rBk c mb ((w.alloc (.cells #[.int .i64 0, .slice none 0 0, .slice none 0 0] 60)).alloc (.cells #[.int .i64 0, .slice none 0 0, .slice none 0 0] 60)) F (w.heap.size + 1) (.cells #[.int .i64 0, .slice none 0 0, .slice none 0 0] 60) from by have := rBk.new HRA.out.st (.cells #[.int .i64 0, .slice none 0 0, .slice none 0 0] 60); rwa [show (w.alloc (.cells #[.int .i64 0, .slice none 0 0, .slice none 0 0] 60)).heap.size = w.heap.size + 1 by simp] at this)
  have hrb : w.heap.size ≤ w.heap.size := Nat.le_refl _
  have htb : w.heap.size ≤ w.heap.size + 1 := by omega
  have hbt : w.heap.size ≠ w.heap.size + 1 := by omega
  have hbt2 : w.heap.size + 1 ≠ w.heap.size := by omega
  have HPK := hide (rPeek B c mb s D F _ (Nat.le_trans hBw HRB.out.size) i hs HRB.out.st)
  rw [pkB_is hb] at HPK
  have HDD := hide hd
  have hdeep : decide ((12 : Int) ≤ d) = false := by simp; omega
  have hdd : ¬ (12 : Int) ≤ d := by omega
  have hdw : wrap64 (d + 1) = d + 1 := (by unfold wrap64; omega)
  clear h hd hra hrb2
  have HNM := hide (fun (W : World) (h : rR B c mb s i (-1) D F F w W) => HN B c mb D F i (d + 1) W (Nat.le_trans hBw h.size) hs (by omega) hDi (by have := HDD.out; omega) h.st)
  have HX := hide (dOne_N (f := f) (D := D) hb)
  clear HN hb
  cases hn : dName s (dOne s f) D i with
  | bad e0 =>
    have HND := hide hn
    have HE := hide (show dOne s (f + 1) D i = .bad e0 by rw [HX.out, hn]; rfl)
    clear hn HX
    go_enter Tryd.func34, Tryd.ntmps34
    go_wp2_with (first | (go_at_call 33; refine HPK.out.mono ?_; rintro e w1 ⟨rfl, hr⟩; have HR1 := hide (HRB.out.trans hr); have HB1 := hide (HBA.out.step hr); have HT1 := hide (HTA.out.step hr); have t0 := block_cell HT1.out.1 0; have ft0 := block_free HT1.out.1 0; have HR3 := hide (HR1.out.other (k := 0) hBw htb HT1.out.2 (.int .i64 1)); have HB3 := hide (HB1.out.other (k := 0) HR1.out.st HT1.out.2.1 hbt (.int .i64 1)); have HT3 := hide (show rBk c mb (w1.setCell ⟨w.heap.size + 1, 0, none⟩ (.int .i64 1)) F (w.heap.size + 1) (.cells #[.int .i64 1, .slice none 0 0, .slice none 0 0] 60) from HT1.out.set (k := 0) HR1.out.st (.int .i64 1)); clear hr HPK) | (go_at_call 32; refine (HNM.out _ HR3.out).mono ?_; intro e w4 hrp; obtain ⟨A, n, q, kb, rfl, y, D4, F4, hr⟩ := hrp.of_bad HND.out; have HR4 := hide (HR3.out.trans hr); have HB4 := hide (HB3.out.step hr); have HT4 := hide (HT3.out.step hr); have u1 := block_cell HT4.out.1 1; have fu1 := block_free HT4.out.1 1; have HR5 := hide (HR4.out.other (k := 1) hBw htb HT4.out.2 (.slice A n q)); have HB5 := hide (HB4.out.other (k := 1) HR4.out.st HT4.out.2.1 hbt (.slice A n q)); have HT5 := hide (HT4.out.set (k := 1) HR4.out.st (.slice A n q)); have c2 := HR5.out.st.c2; have x0 := block_cell HB5.out.1 0; have x1 := block_cell HB5.out.1 1; have x2 := block_cell HB5.out.1 2; have fx0 := block_free HB5.out.1 0; have fx1 := block_free HB5.out.1 1; have fx2 := block_free HB5.out.1 2; have y0 := block_cell HT5.out.1 0; have y1 := block_cell HT5.out.1 1; have y2 := block_cell HT5.out.1 2; clear hr hrp t0 ft0))
    obtain ⟨hrz, hbz, hsz⟩ := rFin HR5.out hBw HB5.out hrb (.int .i64 1) (.slice A n q) (.slice none 0 0)
    generalize World.setCell _ (⟨w.heap.size, 2, none⟩ : Addr) _ = wz at hrz hbz hsz ⊢
    have r0 := block_cell hbz 0
    have r1 := block_cell hbz 1
    have r2 := block_cell hbz 2
    simp at r0 r1 r2
    ((try simp only [Exit.inBlock, Exit.then]); refine bodyPost_ret (by simp [results, Tryd.results34, go_sem, r0, r1, r2]; try rfl) rfl ?_)
    exact RP.bad HE.out ⟨_, _, _, _, _, _, _, rfl, y, D4, F4, hrz⟩
  | ok j z =>
    obtain ⟨l, sh, D2⟩ := z
    have hgo := nam_go (by omega) HOK.out hn
    have hij := hgo.lt
    have hjs := hgo.le
    have hle := hgo.ext.len
    have hsh := hgo.sh
    have hok2 := hgo.ext.ok
    simp only at hle hsh hok2
    have HND := hide hn
    have HSH := hide hsh
    have HHS := hide (fun (kb : ByteArray) (hk : kb.data.toList = rK ⟨1, sh, []⟩) => has_rK hok2 hsh (kb := kb) hk)
    clear hn hgo hsh hok2
    by_cases hm : (⟨1, sh, []⟩ : Shp) ∈ D2.map (·.1)
    · have HE := hide (show dOne s (f + 1) D i = .bad i by rw [HX.out, HND.out]; simp only [Res.bind]; rw [dNew_no hm])
      simp only [hm, decide_true] at HHS
      clear hm HX
      go_enter Tryd.func34, Tryd.ntmps34
      go_wp2_with (first | (go_at_call 33; refine HPK.out.mono ?_; rintro e w1 ⟨rfl, hr⟩; have HR1 := hide (HRB.out.trans hr); have HB1 := hide (HBA.out.step hr); have HT1 := hide (HTA.out.step hr); have t0 := block_cell HT1.out.1 0; have ft0 := block_free HT1.out.1 0; have HR3 := hide (HR1.out.other (k := 0) hBw htb HT1.out.2 (.int .i64 1)); have HB3 := hide (HB1.out.other (k := 0) HR1.out.st HT1.out.2.1 hbt (.int .i64 1)); have HT3 := hide (show rBk c mb (w1.setCell ⟨w.heap.size + 1, 0, none⟩ (.int .i64 1)) F (w.heap.size + 1) (.cells #[.int .i64 1, .slice none 0 0, .slice none 0 0] 60) from HT1.out.set (k := 0) HR1.out.st (.int .i64 1)); clear hr HPK) | (go_at_call 32; refine (HNM.out _ HR3.out).mono ?_; intro e w4 hrp; obtain ⟨F2, A, n, q, kb, rfl, hkb, hkz, hnq, hqm, hsl, hr⟩ := hrp.of_ok HND.out; have HR4 := hide (HR3.out.trans hr); have HB4 := hide (HB3.out.step hr); have HT4 := hide (HT3.out.step hr); have u1 := block_cell HT4.out.1 1; have fu1 := block_free HT4.out.1 1; have HR5 := hide (HR4.out.other (k := 1) hBw htb HT4.out.2 (.slice A n q)); have HB5 := hide (HB4.out.other (k := 1) HR4.out.st HT4.out.2.1 hbt (.slice A n q)); have HT5 := hide (HT4.out.set (k := 1) HR4.out.st (.slice A n q)); have c2 := HR5.out.st.c2; have HTY := hide (ty_name (hsl.stay (S' := F2) (R' := PartU (w4.setCell ⟨w.heap.size + 1, 1, none⟩ (.slice A n q)) F2) (stay_ownR HT4.out.2) (fun _ h _ => h) (fun a _ cs h => stay_partU _ _ _ _ a cs h (stay_ownR HT4.out.2) (fun _ h _ => h))) hnq hqm); have hkm : kb.size ≤ maxLen := (by unfold maxLen; omega); have HKB := hide (show kb.data.toList = rK ⟨1, sh, []⟩ from hkb); have HHAS := hide (HHS.out kb HKB.out); obtain ⟨v6, u6, css, hbx, hrow, hur, hrs, hnf⟩ := HR5.out.st.st; obtain ⟨A6, k6, rfl⟩ := own_sl hrow; obtain ⟨A7, k7, rfl⟩ := own_sl hur; have HBX := hide hbx; have HROW := hide hrow; have HUR := hide hur; have HRS := hide hrs; have HNF := hide hnf; have b3 := block_cell HBX.out 3; have b5 := block_cell HBX.out 5; clear hbx hrow hur hrs hnf; clear hr hrp hsl hkb t0 ft0) | (at_lookup; refine Go.wpList_lookup_own_ok_int _ rfl _ _ 51 rfl 9 3 .i64 law_strD Tryd.underlying51 Tryd.underlying3 (zero_intD _) mb _ _ rfl HR5.out.st.map (.string kb) _ rfl (key_ofD _ hkm) ?_; intro c' hat hwc; rw [HHAS.out]; clear hat hwc) | (go_at_call 35; refine (rFail_new B c mb s D2 F2 _ (Nat.le_trans hBw HR5.out.size) j i HR5.out.st).mono ?_; rintro e w6 ⟨rfl, hr⟩; have HR6 := hide (HR5.out.trans hr); have HB6 := hide (HB5.out.step hr); have HT6 := hide (HT5.out.step hr); have x0 := block_cell HB6.out.1 0; have x1 := block_cell HB6.out.1 1; have x2 := block_cell HB6.out.1 2; have fx0 := block_free HB6.out.1 0; have fx1 := block_free HB6.out.1 1; have fx2 := block_free HB6.out.1 2; have y0 := block_cell HT6.out.1 0; have y1 := block_cell HT6.out.1 1; have y2 := block_cell HT6.out.1 2; clear hr))
      obtain ⟨hrz, hbz, hsz⟩ := rFin HR6.out hBw HB6.out hrb (.int .i64 1) (.slice A n q) (.slice none 0 0)
      generalize World.setCell _ (⟨w.heap.size, 2, none⟩ : Addr) _ = wz at hrz hbz hsz ⊢
      have r0 := block_cell hbz 0
      have r1 := block_cell hbz 1
      have r2 := block_cell hbz 2
      simp at r0 r1 r2
      ((try simp only [Exit.inBlock, Exit.then]); refine bodyPost_ret (by simp [results, Tryd.results34, go_sem, r0, r1, r2]; try rfl) rfl ?_)
      exact RP.bad HE.out ⟨_, _, _, _, _, _, _, rfl, j, D2, F2, hrz⟩
    · have HE := hide (show dOne s (f + 1) D i = .ok j (D2.length, Ty.mk 1 l [], D2 ++ [(⟨1, sh, []⟩, Ty.mk 1 l [])]) by rw [HX.out, HND.out]; simp only [Res.bind]; rw [dNew_ok hm])
      simp only [hm, decide_false] at HHS
      have HMM := hide hm
      clear hm HX
      go_enter Tryd.func34, Tryd.ntmps34
      go_wp2_with (first | (go_at_call 33; refine HPK.out.mono ?_; rintro e w1 ⟨rfl, hr⟩; have HR1 := hide (HRB.out.trans hr); have HB1 := hide (HBA.out.step hr); have HT1 := hide (HTA.out.step hr); have t0 := block_cell HT1.out.1 0; have ft0 := block_free HT1.out.1 0; have HR3 := hide (HR1.out.other (k := 0) hBw htb HT1.out.2 (.int .i64 1)); have HB3 := hide (HB1.out.other (k := 0) HR1.out.st HT1.out.2.1 hbt (.int .i64 1)); have HT3 := hide (show rBk c mb (w1.setCell ⟨w.heap.size + 1, 0, none⟩ (.int .i64 1)) F (w.heap.size + 1) (.cells #[.int .i64 1, .slice none 0 0, .slice none 0 0] 60) from HT1.out.set (k := 0) HR1.out.st (.int .i64 1)); clear hr HPK) | (go_at_call 32; refine (HNM.out _ HR3.out).mono ?_; intro e w4 hrp; obtain ⟨F2, A, n, q, kb, rfl, hkb, hkz, hnq, hqm, hsl, hr⟩ := hrp.of_ok HND.out; have HR4 := hide (HR3.out.trans hr); have HB4 := hide (HB3.out.step hr); have HT4 := hide (HT3.out.step hr); have u1 := block_cell HT4.out.1 1; have fu1 := block_free HT4.out.1 1; have HR5 := hide (HR4.out.other (k := 1) hBw htb HT4.out.2 (.slice A n q)); have HB5 := hide (HB4.out.other (k := 1) HR4.out.st HT4.out.2.1 hbt (.slice A n q)); have HT5 := hide (HT4.out.set (k := 1) HR4.out.st (.slice A n q)); have c2 := HR5.out.st.c2; have HTY := hide (ty_name (hsl.stay (S' := F2) (R' := PartU (w4.setCell ⟨w.heap.size + 1, 1, none⟩ (.slice A n q)) F2) (stay_ownR HT4.out.2) (fun _ h _ => h) (fun a _ cs h => stay_partU _ _ _ _ a cs h (stay_ownR HT4.out.2) (fun _ h _ => h))) hnq hqm); have hkm : kb.size ≤ maxLen := (by unfold maxLen; omega); have HKB := hide (show kb.data.toList = rK ⟨1, sh, []⟩ from hkb); have HHAS := hide (HHS.out kb HKB.out); obtain ⟨v6, u6, css, hbx, hrow, hur, hrs, hnf⟩ := HR5.out.st.st; obtain ⟨A6, k6, rfl⟩ := own_sl hrow; obtain ⟨A7, k7, rfl⟩ := own_sl hur; have HBX := hide hbx; have HROW := hide hrow; have HUR := hide hur; have HRS := hide hrs; have HNF := hide hnf; have b3 := block_cell HBX.out 3; have b5 := block_cell HBX.out 5; clear hbx hrow hur hrs hnf; clear hr hrp hsl hkb t0 ft0) | (at_lookup; refine Go.wpList_lookup_own_ok_int _ rfl _ _ 51 rfl 9 3 .i64 law_strD Tryd.underlying51 Tryd.underlying3 (zero_intD _) mb _ _ rfl HR5.out.st.map (.string kb) _ rfl (key_ofD _ hkm) ?_; intro c' hat hwc; rw [HHAS.out]; clear hat hwc) | (at_mapUpdate; refine wpList_mapUpdate_own _ rfl _ _ _ 51 rfl 9 3 law_strD Tryd.underlying51 _ mb D2.length _ rfl HR5.out.st.map (by unfold maxLen; omega) _ _ _ rfl rfl (key_ofD _ hkm) _ [] (Go.plainElem_int Tryd.underlying3 (wf_intD (by omega))) ?_; intro w7 hown7 hg7; rw [HKB.out] at hown7; have HM7 := hide (rMid.start (x := (⟨1, sh, []⟩, Ty.mk 1 l [])) HR5.out hBw HBX.out HROW.out HUR.out HRS.out HNF.out (Below.refl _ _) hown7 hg7); have HT7 := hide (HT5.out.mid (Below.refl _ _) hg7); have HB7 := hide (HB5.out.mid (Below.refl _ _) hg7); have HTY7 := hide (stay_tyU _ _ _ _ _ _ HTY.out (stay_midR HR5.out.st (Below.refl _ _) hg7) (fun _ h _ => h)); have hlb : w.heap.size < w7.heap.size := lt_of_block HB7.out; have hlt : w.heap.size + 1 < w7.heap.size := lt_of_block HT7.out; clear hown7 hg7))
      have HNB := hide (HB5.out.nrow HBX.out)
      have HNT := hide (HT5.out.nrow HBX.out)
      have HR6 := HR5
      have HB6 := HB5
      have HT6 := HT5
      obtain ⟨i0, hi0, iz0, iz1, iz2⟩ := info_parts info_ty
      obtain ⟨j0, hj0, jz0, jz1, jz2⟩ := info_parts info_intR
      have HBW := hide (show B ≤ w7.heap.size from Nat.le_trans hBw HM7.out.be.size)
      have H1r := hide (show ∀ k, (Value.slice A6 D2.length k6).ownBlock = some k → B ≤ k ∧ k < w7.heap.size from HM7.out.two.r1.lt)
      refine wp_region_chain (fun W => W.cell? ⟨c, 3, none⟩ = some (.slice A6 D2.length k6) ∧ W.cell? ⟨c, 4, none⟩ = some (.slice A7 D2.length k7) ∧ W.cell? ⟨w.heap.size + 1, 0, none⟩ = some (.int .i64 1) ∧ W.cell? ⟨w.heap.size + 1, 1, none⟩ = some (.slice A n q) ∧ W.cell? ⟨w.heap.size + 1, 2, none⟩ = some (.slice none 0 0)) 15 (by as_aux_lemma => kernel_rfl) (N := 22) (by as_aux_lemma => kernel_rfl) ?_; intro hsh
      have H0 : rTwo B c mb s j (.slice A6 D2.length k6) (.slice A7 D2.length k7) w7 (.slice A6 D2.length k6) D2.length css.flatten (.slice A7 D2.length k7) D2.length (ids D2.length) w7.drew := ⟨HM7.out.two.box, own_stay HM7.out.two.r1 (fun g o _ e => e), own_stay HM7.out.two.r2 (fun g o _ e => e), fun g h => .inl h, fun g h => .inl h, fun _ _ e _ _ => e, below_drewN (Below.refl _ _) 1⟩
      have HS : w7.drew.cell? ⟨c, 3, none⟩ = some (.slice A6 D2.length k6) ∧ w7.drew.cell? ⟨c, 4, none⟩ = some (.slice A7 D2.length k7) ∧ w7.drew.cell? ⟨w.heap.size + 1, 0, none⟩ = some (.int .i64 1) ∧ w7.drew.cell? ⟨w.heap.size + 1, 1, none⟩ = some (.slice A n q) ∧ w7.drew.cell? ⟨w.heap.size + 1, 2, none⟩ = some (.slice none 0 0) := ⟨block_cell H0.box 3, block_cell H0.box 4, block_cell (H0.kp _ _ HT7.out HNT.out.1 HNT.out.2) 0, block_cell (H0.kp _ _ HT7.out HNT.out.1 HNT.out.2) 1, block_cell (H0.kp _ _ HT7.out HNT.out.1 HNT.out.2) 2⟩
      refine wpAnyC_take0 (i := 0) (k := 15) (v := ?_) (d := some 189) rfl (by rfl) (by as_aux_lemma => kernel_rfl) (by as_aux_lemma => kernel_rfl) (by as_aux_lemma => kernel_rfl) hsh (by decide) (by intro _ _ _ h; exact h) (by assumption) (Or.inl ⟨by rfl, ?hy⟩) ?_; (case hy => (intro W _; go_simp; (try with_reducible rfl))); clear hsh; intro hsh
      refine wpAnyC_take0 (i := 1) (k := 15) (v := ?_) (d := some 190) rfl (by rfl) (by as_aux_lemma => kernel_rfl) (by as_aux_lemma => kernel_rfl) (by as_aux_lemma => kernel_rfl) hsh (by decide) (by intro _ _ _ h; exact h) (by assumption) (Or.inl ⟨by rfl, ?hy⟩) ?_; (case hy => (intro W _; go_simp; (try with_reducible rfl))); clear hsh; intro hsh
      refine wpAnyC_take0 (i := 2) (k := 15) (v := ?_) (d := some 191) rfl (by rfl) (by as_aux_lemma => kernel_rfl) (by as_aux_lemma => kernel_rfl) (by as_aux_lemma => kernel_rfl) hsh (by decide) (by intro _ _ _ h; exact h) (by assumption) (Or.inl ⟨by rfl, ?hy⟩) ?_; (case hy => (intro W _; go_simp; (try with_reducible rfl))); clear hsh; intro hsh
      refine wpAnyC_take0 (i := 3) (k := 15) (v := ?_) (d := some 192) rfl (by rfl) (by as_aux_lemma => kernel_rfl) (by as_aux_lemma => kernel_rfl) (by as_aux_lemma => kernel_rfl) hsh (by decide) (by intro _ _ _ h; exact h) (by assumption) (Or.inl ⟨by rfl, ?hy⟩) ?_; (case hy => (intro W _; go_simp; (try with_reducible rfl))); clear hsh; intro hsh
      refine wpAnyC_take0 (i := 4) (k := 15) (v := ?_) (d := some 193) rfl (by rfl) (by as_aux_lemma => kernel_rfl) (by as_aux_lemma => kernel_rfl) (by as_aux_lemma => kernel_rfl) hsh (by decide) (by intro _ _ _ h; exact h) (by assumption) (Or.inl ⟨by rfl, ?hy⟩) ?_; (case hy => (intro W _; go_simp; (try with_reducible rfl))); clear hsh; intro hsh
      refine wpAnyC_take (i := 5) (k := 15) (f := 40) (v := ?_) (d := some 194) rfl (by rfl) (by as_aux_lemma => kernel_rfl) (by as_aux_lemma => kernel_rfl) (by as_aux_lemma => kernel_rfl) hsh (by decide) (by as_aux_lemma => kernel_rfl) (by intro _ _ _ h; exact h) (by assumption) (Or.inl ⟨by rfl, ?hy⟩) ?_; (case hy => (rintro W ⟨y0, y1, y2, y3, y4⟩; go_simp; (try with_reducible rfl))); clear hsh; intro hsh
      refine wpAnyC_take (i := 6) (k := 15) (f := 40) (v := ?_) (d := some 195) rfl (by rfl) (by as_aux_lemma => kernel_rfl) (by as_aux_lemma => kernel_rfl) (by as_aux_lemma => kernel_rfl) hsh (by decide) (by as_aux_lemma => kernel_rfl) (by intro _ _ _ h; exact h) (by assumption) (Or.inl ⟨by rfl, ?hy⟩) ?_; (case hy => (rintro W ⟨y0, y1, y2, y3, y4⟩; go_simp; (try with_reducible rfl))); clear hsh; intro hsh
      refine wpAnyC_take0 (i := 9) (k := 15) (v := ?_) (d := some 198) rfl (by rfl) (by as_aux_lemma => kernel_rfl) (by as_aux_lemma => kernel_rfl) (by as_aux_lemma => kernel_rfl) hsh (by decide) (by intro _ _ _ h; exact h) (by assumption) (Or.inl ⟨by rfl, ?hy⟩) ?_; (case hy => (intro W _; go_simp; (try with_reducible rfl))); clear hsh; intro hsh
      refine wpAnyC_take0 (i := 10) (k := 15) (v := ?_) (d := some 199) rfl (by rfl) (by as_aux_lemma => kernel_rfl) (by as_aux_lemma => kernel_rfl) (by as_aux_lemma => kernel_rfl) hsh (by decide) (by intro _ _ _ h; exact h) (by assumption) (Or.inl ⟨by rfl, ?hy⟩) ?_; (case hy => (intro W _; go_simp; (try with_reducible rfl))); clear hsh; intro hsh
      refine wpAnyC_take0 (i := 11) (k := 15) (v := ?_) (d := some 200) rfl (by rfl) (by as_aux_lemma => kernel_rfl) (by as_aux_lemma => kernel_rfl) (by as_aux_lemma => kernel_rfl) hsh (by decide) (by intro _ _ _ h; exact h) (by assumption) (Or.inl ⟨by rfl, ?hy⟩) ?_; (case hy => (intro W _; go_simp; (try with_reducible rfl))); clear hsh; intro hsh
      refine wpAnyC_take (i := 12) (k := 15) (f := 40) (v := ?_) (d := some 201) rfl (by rfl) (by as_aux_lemma => kernel_rfl) (by as_aux_lemma => kernel_rfl) (by as_aux_lemma => kernel_rfl) hsh (by decide) (by as_aux_lemma => kernel_rfl) (by intro _ _ _ h; exact h) (by assumption) (Or.inl ⟨by rfl, ?hy⟩) ?_; (case hy => (rintro W ⟨y0, y1, y2, y3, y4⟩; go_simp; (try with_reducible rfl))); clear hsh; intro hsh
      refine wpAnyC_take0 (i := 13) (k := 15) (v := ?_) (d := some 202) rfl (by rfl) (by as_aux_lemma => kernel_rfl) (by as_aux_lemma => kernel_rfl) (by as_aux_lemma => kernel_rfl) hsh (by decide) (by intro _ _ _ h; exact h) (by assumption) (Or.inl ⟨by rfl, ?hy⟩) ?_; (case hy => (intro W _; go_simp; (try with_reducible rfl))); clear hsh; intro hsh
      clear HS
      refine wpAnyC_ready (rs := [7, 14]) (by kernel_rfl) (by simp) ?_
      refine AllC.cons (i := 7) rfl (by kernel_rfl) hsh (fun K hK => ?_) ?_
      · go_simp
        have H1 := H0.alloc HBW.out (.cells #[.int .i64 1, .slice A n q, .slice none 0 0] 60)
        refine hK _ _ (fun _ => ⟨block_cell H1.box 3, block_cell H1.box 4, block_cell (H1.kp _ _ HT7.out HNT.out.1 HNT.out.2) 0, block_cell (H1.kp _ _ HT7.out HNT.out.1 HNT.out.2) 1, block_cell (H1.kp _ _ HT7.out HNT.out.1 HNT.out.2) 2⟩) ?_
        clear hK K hsh
        intro hsh
        refine wpAnyC_ready (rs := [8, 14]) (by kernel_rfl) (by simp) ?_
        refine AllC.cons (i := 8) rfl (by kernel_rfl) hsh (fun K hK => ?_) ?_
        · refine step_append_lies _ (by rfl) (.tmp 194) (.tmp 196) 23 (by rfl) B 60 i0 (.agg #[.int .i64 0, .slice none 0 0, .slice none 0 0]) 3 56 Tryd.underlying23 hi0 iz0 iz1 iz2 rfl (by omega) (.slice A6 D2.length k6) D2.length css.flatten (by rfl) H1.r1 ⟨w7.heap.size, 0, none⟩ 1 1 [.int .i64 1, .slice A n q, .slice none 0 0] (by rfl) (by rfl) (newsD (heap_alloc_new w7.drew (.cells #[.int .i64 1, .slice A n q, .slice none 0 0] 60))) (by intro u hu; simp at hu; rcases hu with rfl | rfl | rfl <;> rfl) (by omega) (by unfold maxLen; omega) (by omega) (Nat.le_trans HBW.out H1.be.size) _ rfl ?_
          intro g7 q7 w8 hown hgr hat _
          have H2 := H1.grow1 HBW.out hgr hown hat
          refine hK _ _ (fun _ => ⟨block_cell H2.box 3, block_cell H2.box 4, block_cell (H2.kp _ _ HT7.out HNT.out.1 HNT.out.2) 0, block_cell (H2.kp _ _ HT7.out HNT.out.1 HNT.out.2) 1, block_cell (H2.kp _ _ HT7.out HNT.out.1 HNT.out.2) 2⟩) ?_
          clear hK K hown hgr hat hsh
          intro hsh
          refine wpAnyC_ready (rs := [14]) (by kernel_rfl) (by simp) ?_
          refine AllC.cons (i := 14) rfl (by kernel_rfl) hsh (fun K hK => ?_) ?_
          · go_simp
            have H3 := H2.alloc HBW.out (.cells #[.int .i64 (D2.length : Nat)] 3)
            refine hK _ _ (fun _ => ⟨block_cell H3.box 3, block_cell H3.box 4, block_cell (H3.kp _ _ HT7.out HNT.out.1 HNT.out.2) 0, block_cell (H3.kp _ _ HT7.out HNT.out.1 HNT.out.2) 1, block_cell (H3.kp _ _ HT7.out HNT.out.1 HNT.out.2) 2⟩) ?_
            clear hK K hsh
            intro hsh
            refine wpAnyC_ready (rs := [15]) (by kernel_rfl) (by simp) ?_
            refine AllC.cons (i := 15) rfl (by kernel_rfl) hsh (fun K hK => ?_) ?_
            · refine step_append_lies _ (by rfl) (.tmp 201) (.tmp 203) 37 (by rfl) B 3 j0 (.int .i64 0) 1 8 Tryd.underlying37 hj0 jz0 jz1 jz2 rfl (by omega) (.slice A7 D2.length k7) D2.length (ids D2.length) (by rfl) H3.r2 ⟨w8.heap.size, 0, none⟩ 1 1 [.int .i64 (D2.length : Nat)] (by rfl) (by rfl) (newsD (heap_alloc_new w8 (.cells #[.int .i64 (D2.length : Nat)] 3))) (by intro u hu; simp at hu; subst hu; rfl) (by omega) (by unfold maxLen; omega) (by omega) (Nat.le_trans HBW.out H3.be.size) _ rfl ?_
              intro g8 q8 w9 hown hgr hat _
              have H4 := H3.grow2 HBW.out hgr hown hat
              refine hK _ _ (fun h => absurd (h.symm.trans (by kernel_rfl)) (show ¬ (false = true) by decide)) ?_
              clear hK K hown hgr hat hsh
              intro hsh
              refine wpAnyC_seq 16 (by kernel_rfl) (by kernel_rfl) (by kernel_rfl) ?_
              simp only [List.drop_succ_cons, List.drop_zero]
              have f3 := block_cell H4.box 3
              have f4 := block_cell H4.box 4
              have z3 : w9.frozen? ⟨c, 3, none⟩ = false := block_free H4.box 3
              have z4 : w9.frozen? ⟨c, 4, none⟩ = false := block_free H4.box 4
              obtain ⟨hr9, hty9, hk9, hn9⟩ := HM7.out.push hBw HTY7.out HMM.out HSH.out (by omega) H4
              have HR9 := hide hr9
              have HTY9 := hide hty9
              have hbk := hk9 _ _ HB7.out HNB.out.1 HNB.out.2 HB6.out.2.1
              have htk := hk9 _ _ HT7.out HNT.out.1 HNT.out.2 HT6.out.2.1
              have HB9 := hide (HB6.out.last hbk hn9 HNB.out hlb)
              have HT9 := hide (HT6.out.last htk hn9 HNT.out hlt)
              have x0 := block_cell HB9.out.1 0
              have x1 := block_cell HB9.out.1 1
              have x2 := block_cell HB9.out.1 2
              have fx0 := block_free HB9.out.1 0
              have fx1 := block_free HB9.out.1 1
              have fx2 := block_free HB9.out.1 2
              have y0 := block_cell HT9.out.1 0
              have y1 := block_cell HT9.out.1 1
              have y2 := block_cell HT9.out.1 2
              clear hsh hr9 hty9 hk9 hn9 hbk htk
              simp only [Act.put, Act.eval]
              go_wp2_with (fail)
              obtain ⟨hrz, hbz, hsz⟩ := rFin HR9.out hBw HB9.out hrb (.int .i64 1) (.slice A n q) (.slice none 0 0)
              generalize World.setCell _ (⟨w.heap.size, 2, none⟩ : Addr) _ = wz at hrz hbz hsz ⊢
              have r0 := block_cell hbz 0
              have r1 := block_cell hbz 1
              have r2 := block_cell hbz 2
              simp at r0 r1 r2
              ((try simp only [Exit.inBlock, Exit.then]); refine bodyPost_ret (by simp [results, Tryd.results34, go_sem, r0, r1, r2]; try rfl) rfl ?_)
              exact RP.ok HE.out ⟨F2, _, _, _, _, _, _, _, rfl, stay_tyU _ _ _ _ _ _ HTY9.out hsz (fun _ h _ => h), hrz⟩
            exact AllC.nil
          exact AllC.nil
        refine AllC.cons (i := 14) rfl (by kernel_rfl) hsh (fun K hK => ?_) ?_
        · go_simp
          have H2 := H1.alloc HBW.out (.cells #[.int .i64 (D2.length : Nat)] 3)
          refine hK _ _ (fun _ => ⟨block_cell H2.box 3, block_cell H2.box 4, block_cell (H2.kp _ _ HT7.out HNT.out.1 HNT.out.2) 0, block_cell (H2.kp _ _ HT7.out HNT.out.1 HNT.out.2) 1, block_cell (H2.kp _ _ HT7.out HNT.out.1 HNT.out.2) 2⟩) ?_
          clear hK K hsh
          intro hsh
          refine wpAnyC_ready (rs := [8]) (by kernel_rfl) (by simp) ?_
          refine AllC.cons (i := 8) rfl (by kernel_rfl) hsh (fun K hK => ?_) ?_
          · refine step_append_lies _ (by rfl) (.tmp 194) (.tmp 196) 23 (by rfl) B 60 i0 (.agg #[.int .i64 0, .slice none 0 0, .slice none 0 0]) 3 56 Tryd.underlying23 hi0 iz0 iz1 iz2 rfl (by omega) (.slice A6 D2.length k6) D2.length css.flatten (by rfl) H2.r1 ⟨w7.heap.size, 0, none⟩ 1 1 [.int .i64 1, .slice A n q, .slice none 0 0] (by rfl) (by rfl) (newsD (block_below (heap_alloc_new w7.drew (.cells #[.int .i64 1, .slice A n q, .slice none 0 0] 60)) ((Below.refl _ _).alloc (Nat.le_refl _) (.cells #[.int .i64 (D2.length : Nat)] 3)))) (by intro u hu; simp at hu; rcases hu with rfl | rfl | rfl <;> rfl) (by omega) (by unfold maxLen; omega) (by omega) (Nat.le_trans HBW.out H2.be.size) _ rfl ?_
            intro g7 q7 w8 hown hgr hat _
            have H3 := H2.grow1 HBW.out hgr hown hat
            have HBB := grown_blockD hgr (show ((w7.drew.alloc (.cells #[.int .i64 1, .slice A n q, .slice none 0 0] 60)).alloc (.cells #[.int .i64 (D2.length : Nat)] 3)).heap[w7.heap.size + 1]? = some (.cells #[.int .i64 (D2.length : Nat)] 3) by have h := heap_alloc_new (w7.drew.alloc (.cells #[.int .i64 1, .slice A n q, .slice none 0 0] 60)) (.cells #[.int .i64 (D2.length : Nat)] 3); simpa using h) (fun e => by have := (H1r.out _ e).2; omega)
            refine hK _ _ (fun _ => ⟨block_cell H3.box 3, block_cell H3.box 4, block_cell (H3.kp _ _ HT7.out HNT.out.1 HNT.out.2) 0, block_cell (H3.kp _ _ HT7.out HNT.out.1 HNT.out.2) 1, block_cell (H3.kp _ _ HT7.out HNT.out.1 HNT.out.2) 2⟩) ?_
            clear hK K hown hgr hat hsh
            intro hsh
            refine wpAnyC_ready (rs := [15]) (by kernel_rfl) (by simp) ?_
            refine AllC.cons (i := 15) rfl (by kernel_rfl) hsh (fun K hK => ?_) ?_
            · refine step_append_lies _ (by rfl) (.tmp 201) (.tmp 203) 37 (by rfl) B 3 j0 (.int .i64 0) 1 8 Tryd.underlying37 hj0 jz0 jz1 jz2 rfl (by omega) (.slice A7 D2.length k7) D2.length (ids D2.length) (by rfl) H3.r2 ⟨w7.heap.size + 1, 0, none⟩ 1 1 [.int .i64 (D2.length : Nat)] (by rfl) (by rfl) (newsD HBB) (by intro u hu; simp at hu; subst hu; rfl) (by omega) (by unfold maxLen; omega) (by omega) (Nat.le_trans HBW.out H3.be.size) _ rfl ?_
              intro g8 q8 w9 hown hgr hat _
              have H4 := H3.grow2 HBW.out hgr hown hat
              refine hK _ _ (fun h => absurd (h.symm.trans (by kernel_rfl)) (show ¬ (false = true) by decide)) ?_
              clear hK K hown hgr hat hsh
              intro hsh
              refine wpAnyC_seq 16 (by kernel_rfl) (by kernel_rfl) (by kernel_rfl) ?_
              simp only [List.drop_succ_cons, List.drop_zero]
              have f3 := block_cell H4.box 3
              have f4 := block_cell H4.box 4
              have z3 : w9.frozen? ⟨c, 3, none⟩ = false := block_free H4.box 3
              have z4 : w9.frozen? ⟨c, 4, none⟩ = false := block_free H4.box 4
              obtain ⟨hr9, hty9, hk9, hn9⟩ := HM7.out.push hBw HTY7.out HMM.out HSH.out (by omega) H4
              have HR9 := hide hr9
              have HTY9 := hide hty9
              have hbk := hk9 _ _ HB7.out HNB.out.1 HNB.out.2 HB6.out.2.1
              have htk := hk9 _ _ HT7.out HNT.out.1 HNT.out.2 HT6.out.2.1
              have HB9 := hide (HB6.out.last hbk hn9 HNB.out hlb)
              have HT9 := hide (HT6.out.last htk hn9 HNT.out hlt)
              have x0 := block_cell HB9.out.1 0
              have x1 := block_cell HB9.out.1 1
              have x2 := block_cell HB9.out.1 2
              have fx0 := block_free HB9.out.1 0
              have fx1 := block_free HB9.out.1 1
              have fx2 := block_free HB9.out.1 2
              have y0 := block_cell HT9.out.1 0
              have y1 := block_cell HT9.out.1 1
              have y2 := block_cell HT9.out.1 2
              clear hsh hr9 hty9 hk9 hn9 hbk htk
              simp only [Act.put, Act.eval]
              go_wp2_with (fail)
              obtain ⟨hrz, hbz, hsz⟩ := rFin HR9.out hBw HB9.out hrb (.int .i64 1) (.slice A n q) (.slice none 0 0)
              generalize World.setCell _ (⟨w.heap.size, 2, none⟩ : Addr) _ = wz at hrz hbz hsz ⊢
              have r0 := block_cell hbz 0
              have r1 := block_cell hbz 1
              have r2 := block_cell hbz 2
              simp at r0 r1 r2
              ((try simp only [Exit.inBlock, Exit.then]); refine bodyPost_ret (by simp [results, Tryd.results34, go_sem, r0, r1, r2]; try rfl) rfl ?_)
              exact RP.ok HE.out ⟨F2, _, _, _, _, _, _, _, rfl, stay_tyU _ _ _ _ _ _ HTY9.out hsz (fun _ h _ => h), hrz⟩
            exact AllC.nil
          exact AllC.nil
        exact AllC.nil
      refine AllC.cons (i := 14) rfl (by kernel_rfl) hsh (fun K hK => ?_) ?_
      · go_simp
        have H1 := H0.alloc HBW.out (.cells #[.int .i64 (D2.length : Nat)] 3)
        refine hK _ _ (fun _ => ⟨block_cell H1.box 3, block_cell H1.box 4, block_cell (H1.kp _ _ HT7.out HNT.out.1 HNT.out.2) 0, block_cell (H1.kp _ _ HT7.out HNT.out.1 HNT.out.2) 1, block_cell (H1.kp _ _ HT7.out HNT.out.1 HNT.out.2) 2⟩) ?_
        clear hK K hsh
        intro hsh
        refine wpAnyC_ready (rs := [7]) (by kernel_rfl) (by simp) ?_
        refine AllC.cons (i := 7) rfl (by kernel_rfl) hsh (fun K hK => ?_) ?_
        · go_simp
          have H2 := H1.alloc HBW.out (.cells #[.int .i64 1, .slice A n q, .slice none 0 0] 60)
          refine hK _ _ (fun _ => ⟨block_cell H2.box 3, block_cell H2.box 4, block_cell (H2.kp _ _ HT7.out HNT.out.1 HNT.out.2) 0, block_cell (H2.kp _ _ HT7.out HNT.out.1 HNT.out.2) 1, block_cell (H2.kp _ _ HT7.out HNT.out.1 HNT.out.2) 2⟩) ?_
          clear hK K hsh
          intro hsh
          refine wpAnyC_ready (rs := [8]) (by kernel_rfl) (by simp) ?_
          refine AllC.cons (i := 8) rfl (by kernel_rfl) hsh (fun K hK => ?_) ?_
          · refine step_append_lies _ (by rfl) (.tmp 194) (.tmp 196) 23 (by rfl) B 60 i0 (.agg #[.int .i64 0, .slice none 0 0, .slice none 0 0]) 3 56 Tryd.underlying23 hi0 iz0 iz1 iz2 rfl (by omega) (.slice A6 D2.length k6) D2.length css.flatten (by rfl) H2.r1 ⟨w7.heap.size + 1, 0, none⟩ 1 1 [.int .i64 1, .slice A n q, .slice none 0 0] (by rfl) (by rfl) (newsD (show ((w7.drew.alloc (.cells #[.int .i64 (D2.length : Nat)] 3)).alloc (.cells #[.int .i64 1, .slice A n q, .slice none 0 0] 60)).heap[w7.heap.size + 1]? = some (.cells #[.int .i64 1, .slice A n q, .slice none 0 0] 60) by have h := heap_alloc_new (w7.drew.alloc (.cells #[.int .i64 (D2.length : Nat)] 3)) (.cells #[.int .i64 1, .slice A n q, .slice none 0 0] 60); simpa using h)) (by intro u hu; simp at hu; rcases hu with rfl | rfl | rfl <;> rfl) (by omega) (by unfold maxLen; omega) (by omega) (Nat.le_trans HBW.out H2.be.size) _ rfl ?_
            intro g7 q7 w8 hown hgr hat _
            have H3 := H2.grow1 HBW.out hgr hown hat
            have HBB := grown_blockD hgr (block_below (heap_alloc_new w7.drew (.cells #[.int .i64 (D2.length : Nat)] 3)) ((Below.refl _ _).alloc (Nat.le_refl _) (.cells #[.int .i64 1, .slice A n q, .slice none 0 0] 60))) (fun e => by have := (H1r.out _ e).2; exact absurd this (Nat.lt_irrefl _))
            refine hK _ _ (fun _ => ⟨block_cell H3.box 3, block_cell H3.box 4, block_cell (H3.kp _ _ HT7.out HNT.out.1 HNT.out.2) 0, block_cell (H3.kp _ _ HT7.out HNT.out.1 HNT.out.2) 1, block_cell (H3.kp _ _ HT7.out HNT.out.1 HNT.out.2) 2⟩) ?_
            clear hK K hown hgr hat hsh
            intro hsh
            refine wpAnyC_ready (rs := [15]) (by kernel_rfl) (by simp) ?_
            refine AllC.cons (i := 15) rfl (by kernel_rfl) hsh (fun K hK => ?_) ?_
            · refine step_append_lies _ (by rfl) (.tmp 201) (.tmp 203) 37 (by rfl) B 3 j0 (.int .i64 0) 1 8 Tryd.underlying37 hj0 jz0 jz1 jz2 rfl (by omega) (.slice A7 D2.length k7) D2.length (ids D2.length) (by rfl) H3.r2 ⟨w7.heap.size, 0, none⟩ 1 1 [.int .i64 (D2.length : Nat)] (by rfl) (by rfl) (newsD HBB) (by intro u hu; simp at hu; subst hu; rfl) (by omega) (by unfold maxLen; omega) (by omega) (Nat.le_trans HBW.out H3.be.size) _ rfl ?_
              intro g8 q8 w9 hown hgr hat _
              have H4 := H3.grow2 HBW.out hgr hown hat
              refine hK _ _ (fun h => absurd (h.symm.trans (by kernel_rfl)) (show ¬ (false = true) by decide)) ?_
              clear hK K hown hgr hat hsh
              intro hsh
              refine wpAnyC_seq 16 (by kernel_rfl) (by kernel_rfl) (by kernel_rfl) ?_
              simp only [List.drop_succ_cons, List.drop_zero]
              have f3 := block_cell H4.box 3
              have f4 := block_cell H4.box 4
              have z3 : w9.frozen? ⟨c, 3, none⟩ = false := block_free H4.box 3
              have z4 : w9.frozen? ⟨c, 4, none⟩ = false := block_free H4.box 4
              obtain ⟨hr9, hty9, hk9, hn9⟩ := HM7.out.push hBw HTY7.out HMM.out HSH.out (by omega) H4
              have HR9 := hide hr9
              have HTY9 := hide hty9
              have hbk := hk9 _ _ HB7.out HNB.out.1 HNB.out.2 HB6.out.2.1
              have htk := hk9 _ _ HT7.out HNT.out.1 HNT.out.2 HT6.out.2.1
              have HB9 := hide (HB6.out.last hbk hn9 HNB.out hlb)
              have HT9 := hide (HT6.out.last htk hn9 HNT.out hlt)
              have x0 := block_cell HB9.out.1 0
              have x1 := block_cell HB9.out.1 1
              have x2 := block_cell HB9.out.1 2
              have fx0 := block_free HB9.out.1 0
              have fx1 := block_free HB9.out.1 1
              have fx2 := block_free HB9.out.1 2
              have y0 := block_cell HT9.out.1 0
              have y1 := block_cell HT9.out.1 1
              have y2 := block_cell HT9.out.1 2
              clear hsh hr9 hty9 hk9 hn9 hbk htk
              simp only [Act.put, Act.eval]
              go_wp2_with (fail)
              obtain ⟨hrz, hbz, hsz⟩ := rFin HR9.out hBw HB9.out hrb (.int .i64 1) (.slice A n q) (.slice none 0 0)
              generalize World.setCell _ (⟨w.heap.size, 2, none⟩ : Addr) _ = wz at hrz hbz hsz ⊢
              have r0 := block_cell hbz 0
              have r1 := block_cell hbz 1
              have r2 := block_cell hbz 2
              simp at r0 r1 r2
              ((try simp only [Exit.inBlock, Exit.then]); refine bodyPost_ret (by simp [results, Tryd.results34, go_sem, r0, r1, r2]; try rfl) rfl ?_)
              exact RP.ok HE.out ⟨F2, _, _, _, _, _, _, _, rfl, stay_tyU _ _ _ _ _ _ HTY9.out hsz (fun _ h _ => h), hrz⟩
            exact AllC.nil
          exact AllC.nil
        exact AllC.nil
      exact AllC.nil
end Go.Proofs.YtecancnojdifaaaDoor

/- Walk of one of the reference's reader of mangled names, a reference (printed by gen_rv.py). -/
namespace Go.Proofs.YtecancnojdifaaaDoor
open Go.RowKit
set_option linter.unusedVariables false
set_option linter.unusedSimpArgs false
set_option maxRecDepth 100000 in
set_option maxHeartbeats 16000000 in
theorem rOne_R {s : ByteArray} {f : Nat} (H : rOneOk s f) (hf : f + 1 ≤ 12) : rOneAt s (f + 1) 82 := by
  intro B c mb D F i d w hBw hs hDi hd h hb
  have hi := get_lt hb
  have HOK := hide h.ok
  have hra := (rR.refl h).alloc hBw (.cells #[.int .i64 0, .slice none 0 0, .slice none 0 0] 60)
  have HRA := hide hra
  have HBA0 := hide (rBk.new h (.cells #[.int .i64 0, .slice none 0 0, .slice none 0 0] 60))
  have c1 := HRA.out.st.c1
  have hrb2 := (rR.refl HRA.out.st).alloc (Nat.le_trans hBw HRA.out.size) (.cells #[.int .i64 0, .slice none 0 0, .slice none 0 0] 60)
  have HRB := hide (HRA.out.trans hrb2)
  have HBA := hide (HBA0.out.step hrb2)
  have HTA := hide (show rBk c mb ((w.alloc (.cells #[.int .i64 0, .slice none 0 0, .slice none 0 0] 60)).alloc (.cells #[.int .i64 0, .slice none 0 0, .slice none 0 0] 60)) F (w.heap.size + 1) (.cells #[.int .i64 0, .slice none 0 0, .slice none 0 0] 60) from by have := rBk.new HRA.out.st (.cells #[.int .i64 0, .slice none 0 0, .slice none 0 0] 60); rwa [show (w.alloc (.cells #[.int .i64 0, .slice none 0 0, .slice none 0 0] 60)).heap.size = w.heap.size + 1 by simp] at this)
  have hrb : w.heap.size ≤ w.heap.size := Nat.le_refl _
  have htb : w.heap.size ≤ w.heap.size + 1 := by omega
  have hbt : w.heap.size ≠ w.heap.size + 1 := by omega
  have hbt2 : w.heap.size + 1 ≠ w.heap.size := by omega
  have HPK := hide (rPeek B c mb s D F _ (Nat.le_trans hBw HRB.out.size) i hs HRB.out.st)
  rw [pkB_is hb] at HPK
  have HDD := hide hd
  have hdeep : decide ((12 : Int) ≤ d) = false := by simp; omega
  have hdd : ¬ (12 : Int) ≤ d := by omega
  have hdw : wrap64 (d + 1) = d + 1 := (by unfold wrap64; omega)
  clear h hd hra hrb2
  have HPE := hide (pkB_is hb)
  have hwi : wrap64 ((i : Int) + 1) = (i : Int) + 1 := by unfold wrap64; omega
  have HNM := hide (fun (W : World) (h : rR B c mb s ((i : Int) + 1) (-1) D F F w W) => H B c mb D F (i + 1) (d + 1) W (Nat.le_trans hBw h.size) hs hi (by omega) (by have := HDD.out; omega) (by rw [show ((i + 1 : Nat) : Int) = (i : Int) + 1 by omega]; exact h.st))
  have HX := hide (dOne_R (f := f) (D := D) hb)
  clear H hb
  cases hn : dOne s f D (i + 1) with
  | bad e0 =>
    have HND := hide hn
    have HE := hide (show dOne s (f + 1) D i = .bad e0 by rw [HX.out, hn]; rfl)
    clear hn HX
    go_enter Tryd.func34, Tryd.ntmps34
    go_wp2_with (first | (go_at_call 33; refine HPK.out.mono ?_; rintro e w1 ⟨rfl, hr⟩; have HR1 := hide (HRB.out.trans hr); have HB1 := hide (HBA.out.step hr); have HT1 := hide (HTA.out.step hr); have t0 := block_cell HT1.out.1 0; have ft0 := block_free HT1.out.1 0; have HR2 := hide (HR1.out.other (k := 0) hBw htb HT1.out.2 (.int .i64 2)); have HB2 := hide (HB1.out.other (k := 0) HR1.out.st HT1.out.2.1 hbt (.int .i64 2)); have HT2 := hide (show rBk c mb (w1.setCell ⟨w.heap.size + 1, 0, none⟩ (.int .i64 2)) F (w.heap.size + 1) (.cells #[.int .i64 2, .slice none 0 0, .slice none 0 0] 60) from HT1.out.set (k := 0) HR1.out.st (.int .i64 2)); have HPK2 := hide (rPeek B c mb s D F _ (Nat.le_trans hBw HR2.out.size) i hs HR2.out.st); rw [HPE.out] at HPK2; clear hr HPK) | (go_at_call 33; refine HPK2.out.mono ?_; rintro e w2 ⟨rfl, hr⟩; have HR3 := hide (HR2.out.trans hr); have HB3 := hide (HB2.out.step hr); have HT3 := hide (HT2.out.step hr); have HR4 := HR3; have HB4 := HB3; have HT4 := HT3; have c1' := HR4.out.st.c1; have f1' := HR4.out.st.f 1; have hr5 := (rR.refl HR4.out.st).set1 (Nat.le_trans hBw HR4.out.size) ((i : Int) + 1); have HRA5 := hide (HR4.out.trans hr5); have HBA5 := hide (HB4.out.step hr5); have HTA5 := hide (HT4.out.step hr5); clear hr hr5 HPK2) | (go_at_call 34; refine (HNM.out _ HRA5.out).mono ?_; intro e w5 hrp; obtain ⟨k, A1, n1, q1, A2, n2, q2, rfl, y, D5, F5, hr⟩ := hrp.of_bad HND.out; have HRB5 := hide (HRA5.out.trans hr); have HBB5 := hide (HBA5.out.step hr); have HTB5 := hide (HTA5.out.step hr); have hw15 := HTB5.out.2.2.2.2.2; have HNA := hide (heap_alloc_new w5 (.cells #[.int .i64 k, .slice A1 n1 q1, .slice A2 n2 q2] 60)); have m0 := block_cell HNA.out 0; have m1 := block_cell HNA.out 1; have m2 := block_cell HNA.out 2; have HT52 := hide (block_below HTB5.out.1 (below_2 w5 (.cells #[.int .i64 k, .slice A1 n1 q1, .slice A2 n2 q2] 60) (.cells #[.int .i64 k, .slice A1 n1 q1, .slice A2 n2 q2] 60))); have u2 := block_cell HT52.out 2; have fu2 := block_free HT52.out 2; have HR6 := hide (HRB5.out.other (k := 2) hBw htb HTB5.out.2 (.slice (some ⟨w5.heap.size + 1, 0, none⟩) 1 1)); have HB6 := hide (HBB5.out.other (k := 2) HRB5.out.st HTB5.out.2.1 hbt (.slice (some ⟨w5.heap.size + 1, 0, none⟩) 1 1)); have HT6 := hide (HTB5.out.set (k := 2) HRB5.out.st (.slice (some ⟨w5.heap.size + 1, 0, none⟩) 1 1)); have hz6 : (w5.setCell ⟨w.heap.size + 1, 2, none⟩ (.slice (some ⟨w5.heap.size + 1, 0, none⟩) 1 1)).heap.size = w5.heap.size := (by simp); have hr7 := (rR.refl HR6.out.st).alloc (Nat.le_trans hBw HR6.out.size) (.cells #[.int .i64 k, .slice A1 n1 q1, .slice A2 n2 q2] 60); have HR7 := hide (HR6.out.trans hr7); have HB7 := hide (HB6.out.step hr7); have HT7 := hide (HT6.out.step hr7); have hz7 : ((w5.setCell ⟨w.heap.size + 1, 2, none⟩ (.slice (some ⟨w5.heap.size + 1, 0, none⟩) 1 1)).alloc (.cells #[.int .i64 k, .slice A1 n1 q1, .slice A2 n2 q2] 60)).heap.size = w5.heap.size + 1 := (by simp); have hr8 := (rR.refl HR7.out.st).alloc (Nat.le_trans hBw HR7.out.size) (.cells #[.int .i64 k, .slice A1 n1 q1, .slice A2 n2 q2] 60); have HR8 := hide (HR7.out.trans hr8); have HB8 := hide (HB7.out.step hr8); have HT8 := hide (HT7.out.step hr8); have HS8 := hide (rBk.new HR7.out.st (.cells #[.int .i64 k, .slice A1 n1 q1, .slice A2 n2 q2] 60)); rw [hz7] at HS8; have hsb1 : ¬ (w.heap.size + 1 = w5.heap.size + 1) := (by have := HTB5.out.2.2.2.2.2; omega); have hsb2 : ¬ (w.heap.size = w5.heap.size + 1) := (by have := HBB5.out.2.2.2.2.2; omega); have HR9 := hide (HR8.out.join (fun j => j = w5.heap.size + 1) (fun j hj => (by subst hj; exact ⟨by have := HRB5.out.size; omega, HS8.out.2⟩))); have HB9 := hide (HB8.out.join (Y := fun j => j = w5.heap.size + 1) hsb2); have HT9 := hide (HT8.out.join (Y := fun j => j = w5.heap.size + 1) hsb1); have hcm := set_alloc2 w5 (.cells #[.int .i64 k, .slice A1 n1 q1, .slice A2 n2 q2] 60) (.cells #[.int .i64 k, .slice A1 n1 q1, .slice A2 n2 q2] 60) (i := 2) (.slice (some ⟨w5.heap.size + 1, 0, none⟩) 1 1) hw15; rw [hcm] at HR9 HB9 HT9; have y0' := block_cell HT9.out.1 0; have HTD := hide (show ∀ W, Calls Tryd.prog 72 #[.int .i64 2] W fun e w' => ∃ k : ByteArray, e = .returned (.string k) ∧ k.data.toList = toldL ((2 : Nat) : Int) ∧ k.size ≤ 4 ∧ Below W.heap.size W w' from fun W => told4R (n := 2) W (by decide)); clear hr hrp hr7 hr8 t0 ft0 hcm) | (go_at_call 72; refine (HTD.out _).mono ?_; rintro e w6 ⟨kz, rfl, hkz1, hkz4, hb⟩; have hr10 := (rR.refl HR9.out.st).below (Nat.le_trans hBw HR9.out.size) hb; have HR10 := hide (HR9.out.trans hr10); have HB10 := hide (HB9.out.step hr10); have HT10 := hide (HT9.out.step hr10); have HKZ := hide hkz1; have nb1 : ¬ 9223372036854775807 < kz.size + 1 := (by omega); skip; clear hkz1 hb hr10 HTD m0 m1 m2 u2 fu2) | (go_at_call 72; refine (told4R (n := 0) _ (by omega)).mono ?_; rintro e w7 ⟨ky, rfl, hky1, hky4, hb⟩; have hr11 := (rR.refl HR10.out.st).below (Nat.le_trans hBw HR10.out.size) hb; have HR5 := hide (HR10.out.trans hr11); have HB5 := hide (HB10.out.step hr11); have HT5 := hide (HT10.out.step hr11); have nb2 : ¬ 9223372036854775807 < kz.size + 1 + ky.size := (by omega); have c2 := HR5.out.st.c2; have x0 := block_cell HB5.out.1 0; have x1 := block_cell HB5.out.1 1; have x2 := block_cell HB5.out.1 2; have fx0 := block_free HB5.out.1 0; have fx1 := block_free HB5.out.1 1; have fx2 := block_free HB5.out.1 2; have y0 := block_cell HT5.out.1 0; have y1 := block_cell HT5.out.1 1; have y2 := block_cell HT5.out.1 2; clear hky1 hb hr11))
    obtain ⟨hrz, hbz, hsz⟩ := rFin HR5.out hBw HB5.out hrb (.int .i64 2) (.slice none 0 0) (.slice (some ⟨w5.heap.size + 1, 0, none⟩) 1 1)
    generalize World.setCell _ (⟨w.heap.size, 2, none⟩ : Addr) _ = wz at hrz hbz hsz ⊢
    have r0 := block_cell hbz 0
    have r1 := block_cell hbz 1
    have r2 := block_cell hbz 2
    simp at r0 r1 r2
    ((try simp only [Exit.inBlock, Exit.then]); refine bodyPost_ret (by simp [results, Tryd.results34, go_sem, r0, r1, r2]; try rfl) rfl ?_)
    exact RP.bad HE.out ⟨_, _, _, _, _, _, _, rfl, y, D5, _, hrz⟩
  | ok j z =>
    obtain ⟨m, t, D2⟩ := z
    have hgo := one_go hi HOK.out hn
    have hij := hgo.lt
    have hjs := hgo.le
    have hle := hgo.ext.len
    have hmn := hgo.no
    have hok2 := hgo.ext.ok
    simp only at hle hmn hok2
    have hsh : ShOk ⟨2, [], [m]⟩ := .inr (.inl ⟨.inl rfl, rfl, rfl⟩)
    have HND := hide hn
    have HSH := hide hsh
    have HHS := hide (fun (kb : ByteArray) (hk : kb.data.toList = rK ⟨2, [], [m]⟩) => has_rK hok2 hsh hk)
    clear hn hgo hsh hok2
    by_cases hm : (⟨2, [], [m]⟩ : Shp) ∈ D2.map (·.1)
    · have HE := hide (show dOne s (f + 1) D i = .bad i by rw [HX.out, HND.out]; simp only [Res.bind]; rw [dNew_no hm])
      simp only [hm, decide_true] at HHS
      clear hm HX
      go_enter Tryd.func34, Tryd.ntmps34
      go_wp2_with (first | (go_at_call 33; refine HPK.out.mono ?_; rintro e w1 ⟨rfl, hr⟩; have HR1 := hide (HRB.out.trans hr); have HB1 := hide (HBA.out.step hr); have HT1 := hide (HTA.out.step hr); have t0 := block_cell HT1.out.1 0; have ft0 := block_free HT1.out.1 0; have HR2 := hide (HR1.out.other (k := 0) hBw htb HT1.out.2 (.int .i64 2)); have HB2 := hide (HB1.out.other (k := 0) HR1.out.st HT1.out.2.1 hbt (.int .i64 2)); have HT2 := hide (show rBk c mb (w1.setCell ⟨w.heap.size + 1, 0, none⟩ (.int .i64 2)) F (w.heap.size + 1) (.cells #[.int .i64 2, .slice none 0 0, .slice none 0 0] 60) from HT1.out.set (k := 0) HR1.out.st (.int .i64 2)); have HPK2 := hide (rPeek B c mb s D F _ (Nat.le_trans hBw HR2.out.size) i hs HR2.out.st); rw [HPE.out] at HPK2; clear hr HPK) | (go_at_call 33; refine HPK2.out.mono ?_; rintro e w2 ⟨rfl, hr⟩; have HR3 := hide (HR2.out.trans hr); have HB3 := hide (HB2.out.step hr); have HT3 := hide (HT2.out.step hr); have HR4 := HR3; have HB4 := HB3; have HT4 := HT3; have c1' := HR4.out.st.c1; have f1' := HR4.out.st.f 1; have hr5 := (rR.refl HR4.out.st).set1 (Nat.le_trans hBw HR4.out.size) ((i : Int) + 1); have HRA5 := hide (HR4.out.trans hr5); have HBA5 := hide (HB4.out.step hr5); have HTA5 := hide (HT4.out.step hr5); clear hr hr5 HPK2) | (go_at_call 34; refine (HNM.out _ HRA5.out).mono ?_; intro e w5 hrp; obtain ⟨F5, k, A1, n1, q1, A2, n2, q2, rfl, hty, hr⟩ := hrp.of_ok HND.out; have HRB5 := hide (HRA5.out.trans hr); have HBB5 := hide (HBA5.out.step hr); have HTB5 := hide (HTA5.out.step hr); have hw15 := HTB5.out.2.2.2.2.2; have HNA := hide (heap_alloc_new w5 (.cells #[.int .i64 k, .slice A1 n1 q1, .slice A2 n2 q2] 60)); have m0 := block_cell HNA.out 0; have m1 := block_cell HNA.out 1; have m2 := block_cell HNA.out 2; have HT52 := hide (block_below HTB5.out.1 (below_2 w5 (.cells #[.int .i64 k, .slice A1 n1 q1, .slice A2 n2 q2] 60) (.cells #[.int .i64 k, .slice A1 n1 q1, .slice A2 n2 q2] 60))); have u2 := block_cell HT52.out 2; have fu2 := block_free HT52.out 2; have HR6 := hide (HRB5.out.other (k := 2) hBw htb HTB5.out.2 (.slice (some ⟨w5.heap.size + 1, 0, none⟩) 1 1)); have HB6 := hide (HBB5.out.other (k := 2) HRB5.out.st HTB5.out.2.1 hbt (.slice (some ⟨w5.heap.size + 1, 0, none⟩) 1 1)); have HT6 := hide (HTB5.out.set (k := 2) HRB5.out.st (.slice (some ⟨w5.heap.size + 1, 0, none⟩) 1 1)); have hz6 : (w5.setCell ⟨w.heap.size + 1, 2, none⟩ (.slice (some ⟨w5.heap.size + 1, 0, none⟩) 1 1)).heap.size = w5.heap.size := (by simp); have hr7 := (rR.refl HR6.out.st).alloc (Nat.le_trans hBw HR6.out.size) (.cells #[.int .i64 k, .slice A1 n1 q1, .slice A2 n2 q2] 60); have HR7 := hide (HR6.out.trans hr7); have HB7 := hide (HB6.out.step hr7); have HT7 := hide (HT6.out.step hr7); have hz7 : ((w5.setCell ⟨w.heap.size + 1, 2, none⟩ (.slice (some ⟨w5.heap.size + 1, 0, none⟩) 1 1)).alloc (.cells #[.int .i64 k, .slice A1 n1 q1, .slice A2 n2 q2] 60)).heap.size = w5.heap.size + 1 := (by simp); have hr8 := (rR.refl HR7.out.st).alloc (Nat.le_trans hBw HR7.out.size) (.cells #[.int .i64 k, .slice A1 n1 q1, .slice A2 n2 q2] 60); have HR8 := hide (HR7.out.trans hr8); have HB8 := hide (HB7.out.step hr8); have HT8 := hide (HT7.out.step hr8); have HS8 := hide (rBk.new HR7.out.st (.cells #[.int .i64 k, .slice A1 n1 q1, .slice A2 n2 q2] 60)); rw [hz7] at HS8; have hsb1 : ¬ (w.heap.size + 1 = w5.heap.size + 1) := (by have := HTB5.out.2.2.2.2.2; omega); have hsb2 : ¬ (w.heap.size = w5.heap.size + 1) := (by have := HBB5.out.2.2.2.2.2; omega); have HR9 := hide (HR8.out.join (fun j => j = w5.heap.size + 1) (fun j hj => (by subst hj; exact ⟨by have := HRB5.out.size; omega, HS8.out.2⟩))); have HB9 := hide (HB8.out.join (Y := fun j => j = w5.heap.size + 1) hsb2); have HT9 := hide (HT8.out.join (Y := fun j => j = w5.heap.size + 1) hsb1); have hty6 := stay_tyU _ _ _ _ _ _ hty (stay_ownR (k := 2) (x := .slice (some ⟨w5.heap.size + 1, 0, none⟩) 1 1) HTB5.out.2) (fun _ h _ => h); have hty7 := stay_tyU _ _ _ _ _ _ hty6 (hr7.trans hr8).stayF (fun b h _ => (Or.inl h : F5 b ∨ b = w5.heap.size + 1)); have HTY9 := hide (ty_of 2 (sl_one (F := fun b => F5 b ∨ b = w5.heap.size + 1) hty7 (Or.inr rfl) HS8.out.1) (Nat.le_refl _) (by unfold maxLen; omega)); clear hty hty6 hty7; have hcm := set_alloc2 w5 (.cells #[.int .i64 k, .slice A1 n1 q1, .slice A2 n2 q2] 60) (.cells #[.int .i64 k, .slice A1 n1 q1, .slice A2 n2 q2] 60) (i := 2) (.slice (some ⟨w5.heap.size + 1, 0, none⟩) 1 1) hw15; rw [hcm] at HR9 HB9 HT9 HTY9; have y0' := block_cell HT9.out.1 0; have HTD := hide (show ∀ W, Calls Tryd.prog 72 #[.int .i64 2] W fun e w' => ∃ k : ByteArray, e = .returned (.string k) ∧ k.data.toList = toldL ((2 : Nat) : Int) ∧ k.size ≤ 4 ∧ Below W.heap.size W w' from fun W => told4R (n := 2) W (by decide)); clear hr hrp hr7 hr8 t0 ft0 hcm) | (go_at_call 72; refine (HTD.out _).mono ?_; rintro e w6 ⟨kz, rfl, hkz1, hkz4, hb⟩; have hr10 := (rR.refl HR9.out.st).below (Nat.le_trans hBw HR9.out.size) hb; have HR10 := hide (HR9.out.trans hr10); have HB10 := hide (HB9.out.step hr10); have HT10 := hide (HT9.out.step hr10); have HKZ := hide hkz1; have nb1 : ¬ 9223372036854775807 < kz.size + 1 := (by omega); have HTY10 := hide (stay_tyU _ _ _ _ _ _ HTY9.out hr10.stayF (fun _ h _ => h)); clear HTY9; clear hkz1 hb hr10 HTD m0 m1 m2 u2 fu2) | (go_at_call 72; refine (told4R (n := m) _ (by omega)).mono ?_; rintro e w7 ⟨ky, rfl, hky1, hky4, hb⟩; have hr11 := (rR.refl HR10.out.st).below (Nat.le_trans hBw HR10.out.size) hb; have HR5 := hide (HR10.out.trans hr11); have HB5 := hide (HB10.out.step hr11); have HT5 := hide (HT10.out.step hr11); have nb2 : ¬ 9223372036854775807 < kz.size + 1 + ky.size := (by omega); have c2 := HR5.out.st.c2; have HTY := hide (stay_tyU _ _ _ _ _ _ HTY10.out hr11.stayF (fun _ h _ => h)); have HKB := hide (show (kz ++ ⟨#[58]⟩ ++ ky : ByteArray).data.toList = rK ⟨2, [], [m]⟩ from (by rw [app_toList, app_toList, HKZ.out, hky1]; exact (rK_one2 m).symm)); have hkm : (kz ++ ⟨#[58]⟩ ++ ky : ByteArray).size ≤ maxLen := (by rw [ByteArray.size_append, ByteArray.size_append]; show kz.size + 1 + ky.size ≤ maxLen; unfold maxLen; omega); have HHAS := hide (HHS.out _ HKB.out); obtain ⟨v6, u6, css, hbx, hrow, hur, hrs, hnf⟩ := HR5.out.st.st; obtain ⟨A6, k6, rfl⟩ := own_sl hrow; obtain ⟨A7, k7, rfl⟩ := own_sl hur; have HBX := hide hbx; have HROW := hide hrow; have HUR := hide hur; have HRS := hide hrs; have HNF := hide hnf; have b3 := block_cell HBX.out 3; have b5 := block_cell HBX.out 5; clear hbx hrow hur hrs hnf; clear hky1 hb hr11) | (at_lookup; refine Go.wpList_lookup_own_ok_int _ rfl _ _ 51 rfl 9 3 .i64 law_strD Tryd.underlying51 Tryd.underlying3 (zero_intD _) mb _ _ rfl HR5.out.st.map (.string (kz ++ ⟨#[58]⟩ ++ ky)) _ rfl (key_ofD _ hkm) ?_; intro c' hat hwc; rw [HHAS.out]; clear hat hwc) | (go_at_call 35; refine (rFail_new B c mb s D2 (fun b => F5 b ∨ b = w5.heap.size + 1) _ (Nat.le_trans hBw HR5.out.size) j i HR5.out.st).mono ?_; rintro e w8 ⟨rfl, hr⟩; have HR6 := hide (HR5.out.trans hr); have HB6 := hide (HB5.out.step hr); have HT6 := hide (HT5.out.step hr); have x0 := block_cell HB6.out.1 0; have x1 := block_cell HB6.out.1 1; have x2 := block_cell HB6.out.1 2; have fx0 := block_free HB6.out.1 0; have fx1 := block_free HB6.out.1 1; have fx2 := block_free HB6.out.1 2; have y0 := block_cell HT6.out.1 0; have y1 := block_cell HT6.out.1 1; have y2 := block_cell HT6.out.1 2; clear hr))
      obtain ⟨hrz, hbz, hsz⟩ := rFin HR6.out hBw HB6.out hrb (.int .i64 2) (.slice none 0 0) (.slice (some ⟨w5.heap.size + 1, 0, none⟩) 1 1)
      generalize World.setCell _ (⟨w.heap.size, 2, none⟩ : Addr) _ = wz at hrz hbz hsz ⊢
      have r0 := block_cell hbz 0
      have r1 := block_cell hbz 1
      have r2 := block_cell hbz 2
      simp at r0 r1 r2
      ((try simp only [Exit.inBlock, Exit.then]); refine bodyPost_ret (by simp [results, Tryd.results34, go_sem, r0, r1, r2]; try rfl) rfl ?_)
      exact RP.bad HE.out ⟨_, _, _, _, _, _, _, rfl, j, D2, _, hrz⟩
    · have HE := hide (show dOne s (f + 1) D i = .ok j (D2.length, Ty.mk 2 [] [t], D2 ++ [(⟨2, [], [m]⟩, Ty.mk 2 [] [t])]) by rw [HX.out, HND.out]; simp only [Res.bind]; rw [dNew_ok hm])
      simp only [hm, decide_false] at HHS
      have HMM := hide hm
      clear hm HX
      go_enter Tryd.func34, Tryd.ntmps34
      go_wp2_with (first | (go_at_call 33; refine HPK.out.mono ?_; rintro e w1 ⟨rfl, hr⟩; have HR1 := hide (HRB.out.trans hr); have HB1 := hide (HBA.out.step hr); have HT1 := hide (HTA.out.step hr); have t0 := block_cell HT1.out.1 0; have ft0 := block_free HT1.out.1 0; have HR2 := hide (HR1.out.other (k := 0) hBw htb HT1.out.2 (.int .i64 2)); have HB2 := hide (HB1.out.other (k := 0) HR1.out.st HT1.out.2.1 hbt (.int .i64 2)); have HT2 := hide (show rBk c mb (w1.setCell ⟨w.heap.size + 1, 0, none⟩ (.int .i64 2)) F (w.heap.size + 1) (.cells #[.int .i64 2, .slice none 0 0, .slice none 0 0] 60) from HT1.out.set (k := 0) HR1.out.st (.int .i64 2)); have HPK2 := hide (rPeek B c mb s D F _ (Nat.le_trans hBw HR2.out.size) i hs HR2.out.st); rw [HPE.out] at HPK2; clear hr HPK) | (go_at_call 33; refine HPK2.out.mono ?_; rintro e w2 ⟨rfl, hr⟩; have HR3 := hide (HR2.out.trans hr); have HB3 := hide (HB2.out.step hr); have HT3 := hide (HT2.out.step hr); have HR4 := HR3; have HB4 := HB3; have HT4 := HT3; have c1' := HR4.out.st.c1; have f1' := HR4.out.st.f 1; have hr5 := (rR.refl HR4.out.st).set1 (Nat.le_trans hBw HR4.out.size) ((i : Int) + 1); have HRA5 := hide (HR4.out.trans hr5); have HBA5 := hide (HB4.out.step hr5); have HTA5 := hide (HT4.out.step hr5); clear hr hr5 HPK2) | (go_at_call 34; refine (HNM.out _ HRA5.out).mono ?_; intro e w5 hrp; obtain ⟨F5, k, A1, n1, q1, A2, n2, q2, rfl, hty, hr⟩ := hrp.of_ok HND.out; have HRB5 := hide (HRA5.out.trans hr); have HBB5 := hide (HBA5.out.step hr); have HTB5 := hide (HTA5.out.step hr); have hw15 := HTB5.out.2.2.2.2.2; have HNA := hide (heap_alloc_new w5 (.cells #[.int .i64 k, .slice A1 n1 q1, .slice A2 n2 q2] 60)); have m0 := block_cell HNA.out 0; have m1 := block_cell HNA.out 1; have m2 := block_cell HNA.out 2; have HT52 := hide (block_below HTB5.out.1 (below_2 w5 (.cells #[.int .i64 k, .slice A1 n1 q1, .slice A2 n2 q2] 60) (.cells #[.int .i64 k, .slice A1 n1 q1, .slice A2 n2 q2] 60))); have u2 := block_cell HT52.out 2; have fu2 := block_free HT52.out 2; have HR6 := hide (HRB5.out.other (k := 2) hBw htb HTB5.out.2 (.slice (some ⟨w5.heap.size + 1, 0, none⟩) 1 1)); have HB6 := hide (HBB5.out.other (k := 2) HRB5.out.st HTB5.out.2.1 hbt (.slice (some ⟨w5.heap.size + 1, 0, none⟩) 1 1)); have HT6 := hide (HTB5.out.set (k := 2) HRB5.out.st (.slice (some ⟨w5.heap.size + 1, 0, none⟩) 1 1)); have hz6 : (w5.setCell ⟨w.heap.size + 1, 2, none⟩ (.slice (some ⟨w5.heap.size + 1, 0, none⟩) 1 1)).heap.size = w5.heap.size := (by simp); have hr7 := (rR.refl HR6.out.st).alloc (Nat.le_trans hBw HR6.out.size) (.cells #[.int .i64 k, .slice A1 n1 q1, .slice A2 n2 q2] 60); have HR7 := hide (HR6.out.trans hr7); have HB7 := hide (HB6.out.step hr7); have HT7 := hide (HT6.out.step hr7); have hz7 : ((w5.setCell ⟨w.heap.size + 1, 2, none⟩ (.slice (some ⟨w5.heap.size + 1, 0, none⟩) 1 1)).alloc (.cells #[.int .i64 k, .slice A1 n1 q1, .slice A2 n2 q2] 60)).heap.size = w5.heap.size + 1 := (by simp); have hr8 := (rR.refl HR7.out.st).alloc (Nat.le_trans hBw HR7.out.size) (.cells #[.int .i64 k, .slice A1 n1 q1, .slice A2 n2 q2] 60); have HR8 := hide (HR7.out.trans hr8); have HB8 := hide (HB7.out.step hr8); have HT8 := hide (HT7.out.step hr8); have HS8 := hide (rBk.new HR7.out.st (.cells #[.int .i64 k, .slice A1 n1 q1, .slice A2 n2 q2] 60)); rw [hz7] at HS8; have hsb1 : ¬ (w.heap.size + 1 = w5.heap.size + 1) := (by have := HTB5.out.2.2.2.2.2; omega); have hsb2 : ¬ (w.heap.size = w5.heap.size + 1) := (by have := HBB5.out.2.2.2.2.2; omega); have HR9 := hide (HR8.out.join (fun j => j = w5.heap.size + 1) (fun j hj => (by subst hj; exact ⟨by have := HRB5.out.size; omega, HS8.out.2⟩))); have HB9 := hide (HB8.out.join (Y := fun j => j = w5.heap.size + 1) hsb2); have HT9 := hide (HT8.out.join (Y := fun j => j = w5.heap.size + 1) hsb1); have hty6 := stay_tyU _ _ _ _ _ _ hty (stay_ownR (k := 2) (x := .slice (some ⟨w5.heap.size + 1, 0, none⟩) 1 1) HTB5.out.2) (fun _ h _ => h); have hty7 := stay_tyU _ _ _ _ _ _ hty6 (hr7.trans hr8).stayF (fun b h _ => (Or.inl h : F5 b ∨ b = w5.heap.size + 1)); have HTY9 := hide (ty_of 2 (sl_one (F := fun b => F5 b ∨ b = w5.heap.size + 1) hty7 (Or.inr rfl) HS8.out.1) (Nat.le_refl _) (by unfold maxLen; omega)); clear hty hty6 hty7; have hcm := set_alloc2 w5 (.cells #[.int .i64 k, .slice A1 n1 q1, .slice A2 n2 q2] 60) (.cells #[.int .i64 k, .slice A1 n1 q1, .slice A2 n2 q2] 60) (i := 2) (.slice (some ⟨w5.heap.size + 1, 0, none⟩) 1 1) hw15; rw [hcm] at HR9 HB9 HT9 HTY9; have y0' := block_cell HT9.out.1 0; have HTD := hide (show ∀ W, Calls Tryd.prog 72 #[.int .i64 2] W fun e w' => ∃ k : ByteArray, e = .returned (.string k) ∧ k.data.toList = toldL ((2 : Nat) : Int) ∧ k.size ≤ 4 ∧ Below W.heap.size W w' from fun W => told4R (n := 2) W (by decide)); clear hr hrp hr7 hr8 t0 ft0 hcm) | (go_at_call 72; refine (HTD.out _).mono ?_; rintro e w6 ⟨kz, rfl, hkz1, hkz4, hb⟩; have hr10 := (rR.refl HR9.out.st).below (Nat.le_trans hBw HR9.out.size) hb; have HR10 := hide (HR9.out.trans hr10); have HB10 := hide (HB9.out.step hr10); have HT10 := hide (HT9.out.step hr10); have HKZ := hide hkz1; have nb1 : ¬ 9223372036854775807 < kz.size + 1 := (by omega); have HTY10 := hide (stay_tyU _ _ _ _ _ _ HTY9.out hr10.stayF (fun _ h _ => h)); clear HTY9; clear hkz1 hb hr10 HTD m0 m1 m2 u2 fu2) | (go_at_call 72; refine (told4R (n := m) _ (by omega)).mono ?_; rintro e w7 ⟨ky, rfl, hky1, hky4, hb⟩; have hr11 := (rR.refl HR10.out.st).below (Nat.le_trans hBw HR10.out.size) hb; have HR5 := hide (HR10.out.trans hr11); have HB5 := hide (HB10.out.step hr11); have HT5 := hide (HT10.out.step hr11); have nb2 : ¬ 9223372036854775807 < kz.size + 1 + ky.size := (by omega); have c2 := HR5.out.st.c2; have HTY := hide (stay_tyU _ _ _ _ _ _ HTY10.out hr11.stayF (fun _ h _ => h)); have HKB := hide (show (kz ++ ⟨#[58]⟩ ++ ky : ByteArray).data.toList = rK ⟨2, [], [m]⟩ from (by rw [app_toList, app_toList, HKZ.out, hky1]; exact (rK_one2 m).symm)); have hkm : (kz ++ ⟨#[58]⟩ ++ ky : ByteArray).size ≤ maxLen := (by rw [ByteArray.size_append, ByteArray.size_append]; show kz.size + 1 + ky.size ≤ maxLen; unfold maxLen; omega); have HHAS := hide (HHS.out _ HKB.out); obtain ⟨v6, u6, css, hbx, hrow, hur, hrs, hnf⟩ := HR5.out.st.st; obtain ⟨A6, k6, rfl⟩ := own_sl hrow; obtain ⟨A7, k7, rfl⟩ := own_sl hur; have HBX := hide hbx; have HROW := hide hrow; have HUR := hide hur; have HRS := hide hrs; have HNF := hide hnf; have b3 := block_cell HBX.out 3; have b5 := block_cell HBX.out 5; clear hbx hrow hur hrs hnf; clear hky1 hb hr11) | (at_lookup; refine Go.wpList_lookup_own_ok_int _ rfl _ _ 51 rfl 9 3 .i64 law_strD Tryd.underlying51 Tryd.underlying3 (zero_intD _) mb _ _ rfl HR5.out.st.map (.string (kz ++ ⟨#[58]⟩ ++ ky)) _ rfl (key_ofD _ hkm) ?_; intro c' hat hwc; rw [HHAS.out]; clear hat hwc) | (at_mapUpdate; refine wpList_mapUpdate_own _ rfl _ _ _ 51 rfl 9 3 law_strD Tryd.underlying51 _ mb D2.length _ rfl HR5.out.st.map (by unfold maxLen; omega) _ _ _ rfl rfl (key_ofD _ hkm) _ [] (Go.plainElem_int Tryd.underlying3 (wf_intD (by omega))) ?_; intro w17 hown7 hg7; rw [HKB.out] at hown7; have HM7 := hide (rMid.start (x := (⟨2, [], [m]⟩, Ty.mk 2 [] [t])) HR5.out hBw HBX.out HROW.out HUR.out HRS.out HNF.out (Below.refl _ _) hown7 hg7); have HT7 := hide (HT5.out.mid (Below.refl _ _) hg7); have HB7 := hide (HB5.out.mid (Below.refl _ _) hg7); have HTY7 := hide (stay_tyU _ _ _ _ _ _ HTY.out (stay_midR HR5.out.st (Below.refl _ _) hg7) (fun _ h _ => h)); have hlb : w.heap.size < w17.heap.size := lt_of_block HB7.out; have hlt : w.heap.size + 1 < w17.heap.size := lt_of_block HT7.out; clear hown7 hg7))
      have HNB := hide (HB5.out.nrow HBX.out)
      have HNT := hide (HT5.out.nrow HBX.out)
      have HR6 := HR5
      have HB6 := HB5
      have HT6 := HT5
      obtain ⟨i0, hi0, iz0, iz1, iz2⟩ := info_parts info_ty
      obtain ⟨j0, hj0, jz0, jz1, jz2⟩ := info_parts info_intR
      have HBW := hide (show B ≤ w17.heap.size from Nat.le_trans hBw HM7.out.be.size)
      have H1r := hide (show ∀ k, (Value.slice A6 D2.length k6).ownBlock = some k → B ≤ k ∧ k < w17.heap.size from HM7.out.two.r1.lt)
      refine wp_region_chain (fun W => W.cell? ⟨c, 3, none⟩ = some (.slice A6 D2.length k6) ∧ W.cell? ⟨c, 4, none⟩ = some (.slice A7 D2.length k7) ∧ W.cell? ⟨w.heap.size + 1, 0, none⟩ = some (.int .i64 2) ∧ W.cell? ⟨w.heap.size + 1, 1, none⟩ = some (.slice none 0 0) ∧ W.cell? ⟨w.heap.size + 1, 2, none⟩ = some (.slice (some ⟨w5.heap.size + 1, 0, none⟩) 1 1)) 15 (by as_aux_lemma => kernel_rfl) (N := 22) (by as_aux_lemma => kernel_rfl) ?_; intro hsh
      have H0 : rTwo B c mb s j (.slice A6 D2.length k6) (.slice A7 D2.length k7) w17 (.slice A6 D2.length k6) D2.length css.flatten (.slice A7 D2.length k7) D2.length (ids D2.length) w17.drew := ⟨HM7.out.two.box, own_stay HM7.out.two.r1 (fun g o _ e => e), own_stay HM7.out.two.r2 (fun g o _ e => e), fun g h => .inl h, fun g h => .inl h, fun _ _ e _ _ => e, below_drewN (Below.refl _ _) 1⟩
      have HS : w17.drew.cell? ⟨c, 3, none⟩ = some (.slice A6 D2.length k6) ∧ w17.drew.cell? ⟨c, 4, none⟩ = some (.slice A7 D2.length k7) ∧ w17.drew.cell? ⟨w.heap.size + 1, 0, none⟩ = some (.int .i64 2) ∧ w17.drew.cell? ⟨w.heap.size + 1, 1, none⟩ = some (.slice none 0 0) ∧ w17.drew.cell? ⟨w.heap.size + 1, 2, none⟩ = some (.slice (some ⟨w5.heap.size + 1, 0, none⟩) 1 1) := ⟨block_cell H0.box 3, block_cell H0.box 4, block_cell (H0.kp _ _ HT7.out HNT.out.1 HNT.out.2) 0, block_cell (H0.kp _ _ HT7.out HNT.out.1 HNT.out.2) 1, block_cell (H0.kp _ _ HT7.out HNT.out.1 HNT.out.2) 2⟩
      refine wpAnyC_take0 (i := 0) (k := 15) (v := ?_) (d := some 189) rfl (by rfl) (by as_aux_lemma => kernel_rfl) (by as_aux_lemma => kernel_rfl) (by as_aux_lemma => kernel_rfl) hsh (by decide) (by intro _ _ _ h; exact h) (by assumption) (Or.inl ⟨by rfl, ?hy⟩) ?_; (case hy => (intro W _; go_simp; (try with_reducible rfl))); clear hsh; intro hsh
      refine wpAnyC_take0 (i := 1) (k := 15) (v := ?_) (d := some 190) rfl (by rfl) (by as_aux_lemma => kernel_rfl) (by as_aux_lemma => kernel_rfl) (by as_aux_lemma => kernel_rfl) hsh (by decide) (by intro _ _ _ h; exact h) (by assumption) (Or.inl ⟨by rfl, ?hy⟩) ?_; (case hy => (intro W _; go_simp; (try with_reducible rfl))); clear hsh; intro hsh
      refine wpAnyC_take0 (i := 2) (k := 15) (v := ?_) (d := some 191) rfl (by rfl) (by as_aux_lemma => kernel_rfl) (by as_aux_lemma => kernel_rfl) (by as_aux_lemma => kernel_rfl) hsh (by decide) (by intro _ _ _ h; exact h) (by assumption) (Or.inl ⟨by rfl, ?hy⟩) ?_; (case hy => (intro W _; go_simp; (try with_reducible rfl))); clear hsh; intro hsh
      refine wpAnyC_take0 (i := 3) (k := 15) (v := ?_) (d := some 192) rfl (by rfl) (by as_aux_lemma => kernel_rfl) (by as_aux_lemma => kernel_rfl) (by as_aux_lemma => kernel_rfl) hsh (by decide) (by intro _ _ _ h; exact h) (by assumption) (Or.inl ⟨by rfl, ?hy⟩) ?_; (case hy => (intro W _; go_simp; (try with_reducible rfl))); clear hsh; intro hsh
      refine wpAnyC_take0 (i := 4) (k := 15) (v := ?_) (d := some 193) rfl (by rfl) (by as_aux_lemma => kernel_rfl) (by as_aux_lemma => kernel_rfl) (by as_aux_lemma => kernel_rfl) hsh (by decide) (by intro _ _ _ h; exact h) (by assumption) (Or.inl ⟨by rfl, ?hy⟩) ?_; (case hy => (intro W _; go_simp; (try with_reducible rfl))); clear hsh; intro hsh
      refine wpAnyC_take (i := 5) (k := 15) (f := 40) (v := ?_) (d := some 194) rfl (by rfl) (by as_aux_lemma => kernel_rfl) (by as_aux_lemma => kernel_rfl) (by as_aux_lemma => kernel_rfl) hsh (by decide) (by as_aux_lemma => kernel_rfl) (by intro _ _ _ h; exact h) (by assumption) (Or.inl ⟨by rfl, ?hy⟩) ?_; (case hy => (rintro W ⟨y0, y1, y2, y3, y4⟩; go_simp; (try with_reducible rfl))); clear hsh; intro hsh
      refine wpAnyC_take (i := 6) (k := 15) (f := 40) (v := ?_) (d := some 195) rfl (by rfl) (by as_aux_lemma => kernel_rfl) (by as_aux_lemma => kernel_rfl) (by as_aux_lemma => kernel_rfl) hsh (by decide) (by as_aux_lemma => kernel_rfl) (by intro _ _ _ h; exact h) (by assumption) (Or.inl ⟨by rfl, ?hy⟩) ?_; (case hy => (rintro W ⟨y0, y1, y2, y3, y4⟩; go_simp; (try with_reducible rfl))); clear hsh; intro hsh
      refine wpAnyC_take0 (i := 9) (k := 15) (v := ?_) (d := some 198) rfl (by rfl) (by as_aux_lemma => kernel_rfl) (by as_aux_lemma => kernel_rfl) (by as_aux_lemma => kernel_rfl) hsh (by decide) (by intro _ _ _ h; exact h) (by assumption) (Or.inl ⟨by rfl, ?hy⟩) ?_; (case hy => (intro W _; go_simp; (try with_reducible rfl))); clear hsh; intro hsh
      refine wpAnyC_take0 (i := 10) (k := 15) (v := ?_) (d := some 199) rfl (by rfl) (by as_aux_lemma => kernel_rfl) (by as_aux_lemma => kernel_rfl) (by as_aux_lemma => kernel_rfl) hsh (by decide) (by intro _ _ _ h; exact h) (by assumption) (Or.inl ⟨by rfl, ?hy⟩) ?_; (case hy => (intro W _; go_simp; (try with_reducible rfl))); clear hsh; intro hsh
      refine wpAnyC_take0 (i := 11) (k := 15) (v := ?_) (d := some 200) rfl (by rfl) (by as_aux_lemma => kernel_rfl) (by as_aux_lemma => kernel_rfl) (by as_aux_lemma => kernel_rfl) hsh (by decide) (by intro _ _ _ h; exact h) (by assumption) (Or.inl ⟨by rfl, ?hy⟩) ?_; (case hy => (intro W _; go_simp; (try with_reducible rfl))); clear hsh; intro hsh
      refine wpAnyC_take (i := 12) (k := 15) (f := 40) (v := ?_) (d := some 201) rfl (by rfl) (by as_aux_lemma => kernel_rfl) (by as_aux_lemma => kernel_rfl) (by as_aux_lemma => kernel_rfl) hsh (by decide) (by as_aux_lemma => kernel_rfl) (by intro _ _ _ h; exact h) (by assumption) (Or.inl ⟨by rfl, ?hy⟩) ?_; (case hy => (rintro W ⟨y0, y1, y2, y3, y4⟩; go_simp; (try with_reducible rfl))); clear hsh; intro hsh
      refine wpAnyC_take0 (i := 13) (k := 15) (v := ?_) (d := some 202) rfl (by rfl) (by as_aux_lemma => kernel_rfl) (by as_aux_lemma => kernel_rfl) (by as_aux_lemma => kernel_rfl) hsh (by decide) (by intro _ _ _ h; exact h) (by assumption) (Or.inl ⟨by rfl, ?hy⟩) ?_; (case hy => (intro W _; go_simp; (try with_reducible rfl))); clear hsh; intro hsh
      clear HS
      refine wpAnyC_ready (rs := [7, 14]) (by kernel_rfl) (by simp) ?_
      refine AllC.cons (i := 7) rfl (by kernel_rfl) hsh (fun K hK => ?_) ?_
      · go_simp
        have H1 := H0.alloc HBW.out (.cells #[.int .i64 2, .slice none 0 0, .slice (some ⟨w5.heap.size + 1, 0, none⟩) 1 1] 60)
        refine hK _ _ (fun _ => ⟨block_cell H1.box 3, block_cell H1.box 4, block_cell (H1.kp _ _ HT7.out HNT.out.1 HNT.out.2) 0, block_cell (H1.kp _ _ HT7.out HNT.out.1 HNT.out.2) 1, block_cell (H1.kp _ _ HT7.out HNT.out.1 HNT.out.2) 2⟩) ?_
        clear hK K hsh
        intro hsh
        refine wpAnyC_ready (rs := [8, 14]) (by kernel_rfl) (by simp) ?_
        refine AllC.cons (i := 8) rfl (by kernel_rfl) hsh (fun K hK => ?_) ?_
        · refine step_append_lies _ (by rfl) (.tmp 194) (.tmp 196) 23 (by rfl) B 60 i0 (.agg #[.int .i64 0, .slice none 0 0, .slice none 0 0]) 3 56 Tryd.underlying23 hi0 iz0 iz1 iz2 rfl (by omega) (.slice A6 D2.length k6) D2.length css.flatten (by rfl) H1.r1 ⟨w17.heap.size, 0, none⟩ 1 1 [.int .i64 2, .slice none 0 0, .slice (some ⟨w5.heap.size + 1, 0, none⟩) 1 1] (by rfl) (by rfl) (newsD (heap_alloc_new w17.drew (.cells #[.int .i64 2, .slice none 0 0, .slice (some ⟨w5.heap.size + 1, 0, none⟩) 1 1] 60))) (by intro u hu; simp at hu; rcases hu with rfl | rfl | rfl <;> rfl) (by omega) (by unfold maxLen; omega) (by omega) (Nat.le_trans HBW.out H1.be.size) _ rfl ?_
          intro g7 q7 w18 hown hgr hat _
          have H2 := H1.grow1 HBW.out hgr hown hat
          refine hK _ _ (fun _ => ⟨block_cell H2.box 3, block_cell H2.box 4, block_cell (H2.kp _ _ HT7.out HNT.out.1 HNT.out.2) 0, block_cell (H2.kp _ _ HT7.out HNT.out.1 HNT.out.2) 1, block_cell (H2.kp _ _ HT7.out HNT.out.1 HNT.out.2) 2⟩) ?_
          clear hK K hown hgr hat hsh
          intro hsh
          refine wpAnyC_ready (rs := [14]) (by kernel_rfl) (by simp) ?_
          refine AllC.cons (i := 14) rfl (by kernel_rfl) hsh (fun K hK => ?_) ?_
          · go_simp
            have H3 := H2.alloc HBW.out (.cells #[.int .i64 (D2.length : Nat)] 3)
            refine hK _ _ (fun _ => ⟨block_cell H3.box 3, block_cell H3.box 4, block_cell (H3.kp _ _ HT7.out HNT.out.1 HNT.out.2) 0, block_cell (H3.kp _ _ HT7.out HNT.out.1 HNT.out.2) 1, block_cell (H3.kp _ _ HT7.out HNT.out.1 HNT.out.2) 2⟩) ?_
            clear hK K hsh
            intro hsh
            refine wpAnyC_ready (rs := [15]) (by kernel_rfl) (by simp) ?_
            refine AllC.cons (i := 15) rfl (by kernel_rfl) hsh (fun K hK => ?_) ?_
            · refine step_append_lies _ (by rfl) (.tmp 201) (.tmp 203) 37 (by rfl) B 3 j0 (.int .i64 0) 1 8 Tryd.underlying37 hj0 jz0 jz1 jz2 rfl (by omega) (.slice A7 D2.length k7) D2.length (ids D2.length) (by rfl) H3.r2 ⟨w18.heap.size, 0, none⟩ 1 1 [.int .i64 (D2.length : Nat)] (by rfl) (by rfl) (newsD (heap_alloc_new w18 (.cells #[.int .i64 (D2.length : Nat)] 3))) (by intro u hu; simp at hu; subst hu; rfl) (by omega) (by unfold maxLen; omega) (by omega) (Nat.le_trans HBW.out H3.be.size) _ rfl ?_
              intro g8 q8 w19 hown hgr hat _
              have H4 := H3.grow2 HBW.out hgr hown hat
              refine hK _ _ (fun h => absurd (h.symm.trans (by kernel_rfl)) (show ¬ (false = true) by decide)) ?_
              clear hK K hown hgr hat hsh
              intro hsh
              refine wpAnyC_seq 16 (by kernel_rfl) (by kernel_rfl) (by kernel_rfl) ?_
              simp only [List.drop_succ_cons, List.drop_zero]
              have f3 := block_cell H4.box 3
              have f4 := block_cell H4.box 4
              have z3 : w19.frozen? ⟨c, 3, none⟩ = false := block_free H4.box 3
              have z4 : w19.frozen? ⟨c, 4, none⟩ = false := block_free H4.box 4
              obtain ⟨hr9, hty9, hk9, hn9⟩ := HM7.out.push hBw HTY7.out HMM.out HSH.out (by omega) H4
              have HR9 := hide hr9
              have HTY9 := hide hty9
              have hbk := hk9 _ _ HB7.out HNB.out.1 HNB.out.2 HB6.out.2.1
              have htk := hk9 _ _ HT7.out HNT.out.1 HNT.out.2 HT6.out.2.1
              have HB9 := hide (HB6.out.last hbk hn9 HNB.out hlb)
              have HT9 := hide (HT6.out.last htk hn9 HNT.out hlt)
              have x0 := block_cell HB9.out.1 0
              have x1 := block_cell HB9.out.1 1
              have x2 := block_cell HB9.out.1 2
              have fx0 := block_free HB9.out.1 0
              have fx1 := block_free HB9.out.1 1
              have fx2 := block_free HB9.out.1 2
              have y0 := block_cell HT9.out.1 0
              have y1 := block_cell HT9.out.1 1
              have y2 := block_cell HT9.out.1 2
              clear hsh hr9 hty9 hk9 hn9 hbk htk
              simp only [Act.put, Act.eval]
              go_wp2_with (fail)
              obtain ⟨hrz, hbz, hsz⟩ := rFin HR9.out hBw HB9.out hrb (.int .i64 2) (.slice none 0 0) (.slice (some ⟨w5.heap.size + 1, 0, none⟩) 1 1)
              generalize World.setCell _ (⟨w.heap.size, 2, none⟩ : Addr) _ = wz at hrz hbz hsz ⊢
              have r0 := block_cell hbz 0
              have r1 := block_cell hbz 1
              have r2 := block_cell hbz 2
              simp at r0 r1 r2
              ((try simp only [Exit.inBlock, Exit.then]); refine bodyPost_ret (by simp [results, Tryd.results34, go_sem, r0, r1, r2]; try rfl) rfl ?_)
              exact RP.ok HE.out ⟨(fun b => F5 b ∨ b = w5.heap.size + 1), _, _, _, _, _, _, _, rfl, stay_tyU _ _ _ _ _ _ HTY9.out hsz (fun _ h _ => h), hrz⟩
            exact AllC.nil
          exact AllC.nil
        refine AllC.cons (i := 14) rfl (by kernel_rfl) hsh (fun K hK => ?_) ?_
        · go_simp
          have H2 := H1.alloc HBW.out (.cells #[.int .i64 (D2.length : Nat)] 3)
          refine hK _ _ (fun _ => ⟨block_cell H2.box 3, block_cell H2.box 4, block_cell (H2.kp _ _ HT7.out HNT.out.1 HNT.out.2) 0, block_cell (H2.kp _ _ HT7.out HNT.out.1 HNT.out.2) 1, block_cell (H2.kp _ _ HT7.out HNT.out.1 HNT.out.2) 2⟩) ?_
          clear hK K hsh
          intro hsh
          refine wpAnyC_ready (rs := [8]) (by kernel_rfl) (by simp) ?_
          refine AllC.cons (i := 8) rfl (by kernel_rfl) hsh (fun K hK => ?_) ?_
          · refine step_append_lies _ (by rfl) (.tmp 194) (.tmp 196) 23 (by rfl) B 60 i0 (.agg #[.int .i64 0, .slice none 0 0, .slice none 0 0]) 3 56 Tryd.underlying23 hi0 iz0 iz1 iz2 rfl (by omega) (.slice A6 D2.length k6) D2.length css.flatten (by rfl) H2.r1 ⟨w17.heap.size, 0, none⟩ 1 1 [.int .i64 2, .slice none 0 0, .slice (some ⟨w5.heap.size + 1, 0, none⟩) 1 1] (by rfl) (by rfl) (newsD (block_below (heap_alloc_new w17.drew (.cells #[.int .i64 2, .slice none 0 0, .slice (some ⟨w5.heap.size + 1, 0, none⟩) 1 1] 60)) ((Below.refl _ _).alloc (Nat.le_refl _) (.cells #[.int .i64 (D2.length : Nat)] 3)))) (by intro u hu; simp at hu; rcases hu with rfl | rfl | rfl <;> rfl) (by omega) (by unfold maxLen; omega) (by omega) (Nat.le_trans HBW.out H2.be.size) _ rfl ?_
            intro g7 q7 w18 hown hgr hat _
            have H3 := H2.grow1 HBW.out hgr hown hat
            have HBB := grown_blockD hgr (show ((w17.drew.alloc (.cells #[.int .i64 2, .slice none 0 0, .slice (some ⟨w5.heap.size + 1, 0, none⟩) 1 1] 60)).alloc (.cells #[.int .i64 (D2.length : Nat)] 3)).heap[w17.heap.size + 1]? = some (.cells #[.int .i64 (D2.length : Nat)] 3) by have h := heap_alloc_new (w17.drew.alloc (.cells #[.int .i64 2, .slice none 0 0, .slice (some ⟨w5.heap.size + 1, 0, none⟩) 1 1] 60)) (.cells #[.int .i64 (D2.length : Nat)] 3); simpa using h) (fun e => by have := (H1r.out _ e).2; omega)
            refine hK _ _ (fun _ => ⟨block_cell H3.box 3, block_cell H3.box 4, block_cell (H3.kp _ _ HT7.out HNT.out.1 HNT.out.2) 0, block_cell (H3.kp _ _ HT7.out HNT.out.1 HNT.out.2) 1, block_cell (H3.kp _ _ HT7.out HNT.out.1 HNT.out.2) 2⟩) ?_
            clear hK K hown hgr hat hsh
            intro hsh
            refine wpAnyC_ready (rs := [15]) (by kernel_rfl) (by simp) ?_
            refine AllC.cons (i := 15) rfl (by kernel_rfl) hsh (fun K hK => ?_) ?_
            · refine step_append_lies _ (by rfl) (.tmp 201) (.tmp 203) 37 (by rfl) B 3 j0 (.int .i64 0) 1 8 Tryd.underlying37 hj0 jz0 jz1 jz2 rfl (by omega) (.slice A7 D2.length k7) D2.length (ids D2.length) (by rfl) H3.r2 ⟨w17.heap.size + 1, 0, none⟩ 1 1 [.int .i64 (D2.length : Nat)] (by rfl) (by rfl) (newsD HBB) (by intro u hu; simp at hu; subst hu; rfl) (by omega) (by unfold maxLen; omega) (by omega) (Nat.le_trans HBW.out H3.be.size) _ rfl ?_
              intro g8 q8 w19 hown hgr hat _
              have H4 := H3.grow2 HBW.out hgr hown hat
              refine hK _ _ (fun h => absurd (h.symm.trans (by kernel_rfl)) (show ¬ (false = true) by decide)) ?_
              clear hK K hown hgr hat hsh
              intro hsh
              refine wpAnyC_seq 16 (by kernel_rfl) (by kernel_rfl) (by kernel_rfl) ?_
              simp only [List.drop_succ_cons, List.drop_zero]
              have f3 := block_cell H4.box 3
              have f4 := block_cell H4.box 4
              have z3 : w19.frozen? ⟨c, 3, none⟩ = false := block_free H4.box 3
              have z4 : w19.frozen? ⟨c, 4, none⟩ = false := block_free H4.box 4
              obtain ⟨hr9, hty9, hk9, hn9⟩ := HM7.out.push hBw HTY7.out HMM.out HSH.out (by omega) H4
              have HR9 := hide hr9
              have HTY9 := hide hty9
              have hbk := hk9 _ _ HB7.out HNB.out.1 HNB.out.2 HB6.out.2.1
              have htk := hk9 _ _ HT7.out HNT.out.1 HNT.out.2 HT6.out.2.1
              have HB9 := hide (HB6.out.last hbk hn9 HNB.out hlb)
              have HT9 := hide (HT6.out.last htk hn9 HNT.out hlt)
              have x0 := block_cell HB9.out.1 0
              have x1 := block_cell HB9.out.1 1
              have x2 := block_cell HB9.out.1 2
              have fx0 := block_free HB9.out.1 0
              have fx1 := block_free HB9.out.1 1
              have fx2 := block_free HB9.out.1 2
              have y0 := block_cell HT9.out.1 0
              have y1 := block_cell HT9.out.1 1
              have y2 := block_cell HT9.out.1 2
              clear hsh hr9 hty9 hk9 hn9 hbk htk
              simp only [Act.put, Act.eval]
              go_wp2_with (fail)
              obtain ⟨hrz, hbz, hsz⟩ := rFin HR9.out hBw HB9.out hrb (.int .i64 2) (.slice none 0 0) (.slice (some ⟨w5.heap.size + 1, 0, none⟩) 1 1)
              generalize World.setCell _ (⟨w.heap.size, 2, none⟩ : Addr) _ = wz at hrz hbz hsz ⊢
              have r0 := block_cell hbz 0
              have r1 := block_cell hbz 1
              have r2 := block_cell hbz 2
              simp at r0 r1 r2
              ((try simp only [Exit.inBlock, Exit.then]); refine bodyPost_ret (by simp [results, Tryd.results34, go_sem, r0, r1, r2]; try rfl) rfl ?_)
              exact RP.ok HE.out ⟨(fun b => F5 b ∨ b = w5.heap.size + 1), _, _, _, _, _, _, _, rfl, stay_tyU _ _ _ _ _ _ HTY9.out hsz (fun _ h _ => h), hrz⟩
            exact AllC.nil
          exact AllC.nil
        exact AllC.nil
      refine AllC.cons (i := 14) rfl (by kernel_rfl) hsh (fun K hK => ?_) ?_
      · go_simp
        have H1 := H0.alloc HBW.out (.cells #[.int .i64 (D2.length : Nat)] 3)
        refine hK _ _ (fun _ => ⟨block_cell H1.box 3, block_cell H1.box 4, block_cell (H1.kp _ _ HT7.out HNT.out.1 HNT.out.2) 0, block_cell (H1.kp _ _ HT7.out HNT.out.1 HNT.out.2) 1, block_cell (H1.kp _ _ HT7.out HNT.out.1 HNT.out.2) 2⟩) ?_
        clear hK K hsh
        intro hsh
        refine wpAnyC_ready (rs := [7]) (by kernel_rfl) (by simp) ?_
        refine AllC.cons (i := 7) rfl (by kernel_rfl) hsh (fun K hK => ?_) ?_
        · go_simp
          have H2 := H1.alloc HBW.out (.cells #[.int .i64 2, .slice none 0 0, .slice (some ⟨w5.heap.size + 1, 0, none⟩) 1 1] 60)
          refine hK _ _ (fun _ => ⟨block_cell H2.box 3, block_cell H2.box 4, block_cell (H2.kp _ _ HT7.out HNT.out.1 HNT.out.2) 0, block_cell (H2.kp _ _ HT7.out HNT.out.1 HNT.out.2) 1, block_cell (H2.kp _ _ HT7.out HNT.out.1 HNT.out.2) 2⟩) ?_
          clear hK K hsh
          intro hsh
          refine wpAnyC_ready (rs := [8]) (by kernel_rfl) (by simp) ?_
          refine AllC.cons (i := 8) rfl (by kernel_rfl) hsh (fun K hK => ?_) ?_
          · refine step_append_lies _ (by rfl) (.tmp 194) (.tmp 196) 23 (by rfl) B 60 i0 (.agg #[.int .i64 0, .slice none 0 0, .slice none 0 0]) 3 56 Tryd.underlying23 hi0 iz0 iz1 iz2 rfl (by omega) (.slice A6 D2.length k6) D2.length css.flatten (by rfl) H2.r1 ⟨w17.heap.size + 1, 0, none⟩ 1 1 [.int .i64 2, .slice none 0 0, .slice (some ⟨w5.heap.size + 1, 0, none⟩) 1 1] (by rfl) (by rfl) (newsD (show ((w17.drew.alloc (.cells #[.int .i64 (D2.length : Nat)] 3)).alloc (.cells #[.int .i64 2, .slice none 0 0, .slice (some ⟨w5.heap.size + 1, 0, none⟩) 1 1] 60)).heap[w17.heap.size + 1]? = some (.cells #[.int .i64 2, .slice none 0 0, .slice (some ⟨w5.heap.size + 1, 0, none⟩) 1 1] 60) by have h := heap_alloc_new (w17.drew.alloc (.cells #[.int .i64 (D2.length : Nat)] 3)) (.cells #[.int .i64 2, .slice none 0 0, .slice (some ⟨w5.heap.size + 1, 0, none⟩) 1 1] 60); simpa using h)) (by intro u hu; simp at hu; rcases hu with rfl | rfl | rfl <;> rfl) (by omega) (by unfold maxLen; omega) (by omega) (Nat.le_trans HBW.out H2.be.size) _ rfl ?_
            intro g7 q7 w18 hown hgr hat _
            have H3 := H2.grow1 HBW.out hgr hown hat
            have HBB := grown_blockD hgr (block_below (heap_alloc_new w17.drew (.cells #[.int .i64 (D2.length : Nat)] 3)) ((Below.refl _ _).alloc (Nat.le_refl _) (.cells #[.int .i64 2, .slice none 0 0, .slice (some ⟨w5.heap.size + 1, 0, none⟩) 1 1] 60))) (fun e => by have := (H1r.out _ e).2; exact absurd this (Nat.lt_irrefl _))
            refine hK _ _ (fun _ => ⟨block_cell H3.box 3, block_cell H3.box 4, block_cell (H3.kp _ _ HT7.out HNT.out.1 HNT.out.2) 0, block_cell (H3.kp _ _ HT7.out HNT.out.1 HNT.out.2) 1, block_cell (H3.kp _ _ HT7.out HNT.out.1 HNT.out.2) 2⟩) ?_
            clear hK K hown hgr hat hsh
            intro hsh
            refine wpAnyC_ready (rs := [15]) (by kernel_rfl) (by simp) ?_
            refine AllC.cons (i := 15) rfl (by kernel_rfl) hsh (fun K hK => ?_) ?_
            · refine step_append_lies _ (by rfl) (.tmp 201) (.tmp 203) 37 (by rfl) B 3 j0 (.int .i64 0) 1 8 Tryd.underlying37 hj0 jz0 jz1 jz2 rfl (by omega) (.slice A7 D2.length k7) D2.length (ids D2.length) (by rfl) H3.r2 ⟨w17.heap.size, 0, none⟩ 1 1 [.int .i64 (D2.length : Nat)] (by rfl) (by rfl) (newsD HBB) (by intro u hu; simp at hu; subst hu; rfl) (by omega) (by unfold maxLen; omega) (by omega) (Nat.le_trans HBW.out H3.be.size) _ rfl ?_
              intro g8 q8 w19 hown hgr hat _
              have H4 := H3.grow2 HBW.out hgr hown hat
              refine hK _ _ (fun h => absurd (h.symm.trans (by kernel_rfl)) (show ¬ (false = true) by decide)) ?_
              clear hK K hown hgr hat hsh
              intro hsh
              refine wpAnyC_seq 16 (by kernel_rfl) (by kernel_rfl) (by kernel_rfl) ?_
              simp only [List.drop_succ_cons, List.drop_zero]
              have f3 := block_cell H4.box 3
              have f4 := block_cell H4.box 4
              have z3 : w19.frozen? ⟨c, 3, none⟩ = false := block_free H4.box 3
              have z4 : w19.frozen? ⟨c, 4, none⟩ = false := block_free H4.box 4
              obtain ⟨hr9, hty9, hk9, hn9⟩ := HM7.out.push hBw HTY7.out HMM.out HSH.out (by omega) H4
              have HR9 := hide hr9
              have HTY9 := hide hty9
              have hbk := hk9 _ _ HB7.out HNB.out.1 HNB.out.2 HB6.out.2.1
              have htk := hk9 _ _ HT7.out HNT.out.1 HNT.out.2 HT6.out.2.1
              have HB9 := hide (HB6.out.last hbk hn9 HNB.out hlb)
              have HT9 := hide (HT6.out.last htk hn9 HNT.out hlt)
              have x0 := block_cell HB9.out.1 0
              have x1 := block_cell HB9.out.1 1
              have x2 := block_cell HB9.out.1 2
              have fx0 := block_free HB9.out.1 0
              have fx1 := block_free HB9.out.1 1
              have fx2 := block_free HB9.out.1 2
              have y0 := block_cell HT9.out.1 0
              have y1 := block_cell HT9.out.1 1
              have y2 := block_cell HT9.out.1 2
              clear hsh hr9 hty9 hk9 hn9 hbk htk
              simp only [Act.put, Act.eval]
              go_wp2_with (fail)
              obtain ⟨hrz, hbz, hsz⟩ := rFin HR9.out hBw HB9.out hrb (.int .i64 2) (.slice none 0 0) (.slice (some ⟨w5.heap.size + 1, 0, none⟩) 1 1)
              generalize World.setCell _ (⟨w.heap.size, 2, none⟩ : Addr) _ = wz at hrz hbz hsz ⊢
              have r0 := block_cell hbz 0
              have r1 := block_cell hbz 1
              have r2 := block_cell hbz 2
              simp at r0 r1 r2
              ((try simp only [Exit.inBlock, Exit.then]); refine bodyPost_ret (by simp [results, Tryd.results34, go_sem, r0, r1, r2]; try rfl) rfl ?_)
              exact RP.ok HE.out ⟨(fun b => F5 b ∨ b = w5.heap.size + 1), _, _, _, _, _, _, _, rfl, stay_tyU _ _ _ _ _ _ HTY9.out hsz (fun _ h _ => h), hrz⟩
            exact AllC.nil
          exact AllC.nil
        exact AllC.nil
      exact AllC.nil
end Go.Proofs.YtecancnojdifaaaDoor

/- Walk of one of the reference's reader of mangled names, a list (printed by gen_rv.py). -/
namespace Go.Proofs.YtecancnojdifaaaDoor
open Go.RowKit
set_option linter.unusedVariables false
set_option linter.unusedSimpArgs false
set_option maxRecDepth 100000 in
set_option maxHeartbeats 16000000 in
theorem rOne_L {s : ByteArray} {f : Nat} (H : rOneOk s f) (hf : f + 1 ≤ 12) : rOneAt s (f + 1) 76 := by
  intro B c mb D F i d w hBw hs hDi hd h hb
  have hi := get_lt hb
  have HOK := hide h.ok
  have hra := (rR.refl h).alloc hBw (.cells #[.int .i64 0, .slice none 0 0, .slice none 0 0] 60)
  have HRA := hide hra
  have HBA0 := hide (rBk.new h (.cells #[.int .i64 0, .slice none 0 0, .slice none 0 0] 60))
  have c1 := HRA.out.st.c1
  have hrb2 := (rR.refl HRA.out.st).alloc (Nat.le_trans hBw HRA.out.size) (.cells #[.int .i64 0, .slice none 0 0, .slice none 0 0] 60)
  have HRB := hide (HRA.out.trans hrb2)
  have HBA := hide (HBA0.out.step hrb2)
  have HTA := hide (show rBk c mb ((w.alloc (.cells #[.int .i64 0, .slice none 0 0, .slice none 0 0] 60)).alloc (.cells #[.int .i64 0, .slice none 0 0, .slice none 0 0] 60)) F (w.heap.size + 1) (.cells #[.int .i64 0, .slice none 0 0, .slice none 0 0] 60) from by have := rBk.new HRA.out.st (.cells #[.int .i64 0, .slice none 0 0, .slice none 0 0] 60); rwa [show (w.alloc (.cells #[.int .i64 0, .slice none 0 0, .slice none 0 0] 60)).heap.size = w.heap.size + 1 by simp] at this)
  have hrb : w.heap.size ≤ w.heap.size := Nat.le_refl _
  have htb : w.heap.size ≤ w.heap.size + 1 := by omega
  have hbt : w.heap.size ≠ w.heap.size + 1 := by omega
  have hbt2 : w.heap.size + 1 ≠ w.heap.size := by omega
  have HPK := hide (rPeek B c mb s D F _ (Nat.le_trans hBw HRB.out.size) i hs HRB.out.st)
  rw [pkB_is hb] at HPK
  have HDD := hide hd
  have hdeep : decide ((12 : Int) ≤ d) = false := by simp; omega
  have hdd : ¬ (12 : Int) ≤ d := by omega
  have hdw : wrap64 (d + 1) = d + 1 := (by unfold wrap64; omega)
  clear h hd hra hrb2
  have HPE := hide (pkB_is hb)
  have hwi : wrap64 ((i : Int) + 1) = (i : Int) + 1 := by unfold wrap64; omega
  have HNM := hide (fun (W : World) (h : rR B c mb s ((i : Int) + 1) (-1) D F F w W) => H B c mb D F (i + 1) (d + 1) W (Nat.le_trans hBw h.size) hs hi (by omega) (by have := HDD.out; omega) (by rw [show ((i + 1 : Nat) : Int) = (i : Int) + 1 by omega]; exact h.st))
  have HX := hide (dOne_L (f := f) (D := D) hb)
  clear H hb
  cases hn : dOne s f D (i + 1) with
  | bad e0 =>
    have HND := hide hn
    have HE := hide (show dOne s (f + 1) D i = .bad e0 by rw [HX.out, hn]; rfl)
    clear hn HX
    go_enter Tryd.func34, Tryd.ntmps34
    go_wp2_with (first | (go_at_call 33; refine HPK.out.mono ?_; rintro e w1 ⟨rfl, hr⟩; have HR1 := hide (HRB.out.trans hr); have HB1 := hide (HBA.out.step hr); have HT1 := hide (HTA.out.step hr); have t0 := block_cell HT1.out.1 0; have ft0 := block_free HT1.out.1 0; have HR2 := hide (HR1.out.other (k := 0) hBw htb HT1.out.2 (.int .i64 2)); have HB2 := hide (HB1.out.other (k := 0) HR1.out.st HT1.out.2.1 hbt (.int .i64 2)); have HT2 := hide (show rBk c mb (w1.setCell ⟨w.heap.size + 1, 0, none⟩ (.int .i64 2)) F (w.heap.size + 1) (.cells #[.int .i64 2, .slice none 0 0, .slice none 0 0] 60) from HT1.out.set (k := 0) HR1.out.st (.int .i64 2)); have HPK2 := hide (rPeek B c mb s D F _ (Nat.le_trans hBw HR2.out.size) i hs HR2.out.st); rw [HPE.out] at HPK2; clear hr HPK) | (go_at_call 33; refine HPK2.out.mono ?_; rintro e w2 ⟨rfl, hr⟩; have HR3 := hide (HR2.out.trans hr); have HB3 := hide (HB2.out.step hr); have HT3 := hide (HT2.out.step hr); have t0' := block_cell HT3.out.1 0; have ft0' := block_free HT3.out.1 0; have HR4 := hide (HR3.out.other (k := 0) hBw htb HT3.out.2 (.int .i64 3)); have HB4 := hide (HB3.out.other (k := 0) HR3.out.st HT3.out.2.1 hbt (.int .i64 3)); have HT4 := hide (show rBk c mb (w2.setCell ⟨w.heap.size + 1, 0, none⟩ (.int .i64 3)) F (w.heap.size + 1) (.cells #[.int .i64 3, .slice none 0 0, .slice none 0 0] 60) from HT3.out.set (k := 0) HR3.out.st (.int .i64 3)); have c1' := HR4.out.st.c1; have f1' := HR4.out.st.f 1; have hr5 := (rR.refl HR4.out.st).set1 (Nat.le_trans hBw HR4.out.size) ((i : Int) + 1); have HRA5 := hide (HR4.out.trans hr5); have HBA5 := hide (HB4.out.step hr5); have HTA5 := hide (HT4.out.step hr5); clear hr hr5 HPK2) | (go_at_call 34; refine (HNM.out _ HRA5.out).mono ?_; intro e w5 hrp; obtain ⟨k, A1, n1, q1, A2, n2, q2, rfl, y, D5, F5, hr⟩ := hrp.of_bad HND.out; have HRB5 := hide (HRA5.out.trans hr); have HBB5 := hide (HBA5.out.step hr); have HTB5 := hide (HTA5.out.step hr); have hw15 := HTB5.out.2.2.2.2.2; have HNA := hide (heap_alloc_new w5 (.cells #[.int .i64 k, .slice A1 n1 q1, .slice A2 n2 q2] 60)); have m0 := block_cell HNA.out 0; have m1 := block_cell HNA.out 1; have m2 := block_cell HNA.out 2; have HT52 := hide (block_below HTB5.out.1 (below_2 w5 (.cells #[.int .i64 k, .slice A1 n1 q1, .slice A2 n2 q2] 60) (.cells #[.int .i64 k, .slice A1 n1 q1, .slice A2 n2 q2] 60))); have u2 := block_cell HT52.out 2; have fu2 := block_free HT52.out 2; have HR6 := hide (HRB5.out.other (k := 2) hBw htb HTB5.out.2 (.slice (some ⟨w5.heap.size + 1, 0, none⟩) 1 1)); have HB6 := hide (HBB5.out.other (k := 2) HRB5.out.st HTB5.out.2.1 hbt (.slice (some ⟨w5.heap.size + 1, 0, none⟩) 1 1)); have HT6 := hide (HTB5.out.set (k := 2) HRB5.out.st (.slice (some ⟨w5.heap.size + 1, 0, none⟩) 1 1)); have hz6 : (w5.setCell ⟨w.heap.size + 1, 2, none⟩ (.slice (some ⟨w5.heap.size + 1, 0, none⟩) 1 1)).heap.size = w5.heap.size := (by simp); have hr7 := (rR.refl HR6.out.st).alloc (Nat.le_trans hBw HR6.out.size) (.cells #[.int .i64 k, .slice A1 n1 q1, .slice A2 n2 q2] 60); have HR7 := hide (HR6.out.trans hr7); have HB7 := hide (HB6.out.step hr7); have HT7 := hide (HT6.out.step hr7); have hz7 : ((w5.setCell ⟨w.heap.size + 1, 2, none⟩ (.slice (some ⟨w5.heap.size + 1, 0, none⟩) 1 1)).alloc (.cells #[.int .i64 k, .slice A1 n1 q1, .slice A2 n2 q2] 60)).heap.size = w5.heap.size + 1 := (by simp); have hr8 := (rR.refl HR7.out.st).alloc (Nat.le_trans hBw HR7.out.size) (.cells #[.int .i64 k, .slice A1 n1 q1, .slice A2 n2 q2] 60); have HR8 := hide (HR7.out.trans hr8); have HB8 := hide (HB7.out.step hr8); have HT8 := hide (HT7.out.step hr8); have HS8 := hide (rBk.new HR7.out.st (.cells #[.int .i64 k, .slice A1 n1 q1, .slice A2 n2 q2] 60)); rw [hz7] at HS8; have hsb1 : ¬ (w.heap.size + 1 = w5.heap.size + 1) := (by have := HTB5.out.2.2.2.2.2; omega); have hsb2 : ¬ (w.heap.size = w5.heap.size + 1) := (by have := HBB5.out.2.2.2.2.2; omega); have HR9 := hide (HR8.out.join (fun j => j = w5.heap.size + 1) (fun j hj => (by subst hj; exact ⟨by have := HRB5.out.size; omega, HS8.out.2⟩))); have HB9 := hide (HB8.out.join (Y := fun j => j = w5.heap.size + 1) hsb2); have HT9 := hide (HT8.out.join (Y := fun j => j = w5.heap.size + 1) hsb1); have hcm := set_alloc2 w5 (.cells #[.int .i64 k, .slice A1 n1 q1, .slice A2 n2 q2] 60) (.cells #[.int .i64 k, .slice A1 n1 q1, .slice A2 n2 q2] 60) (i := 2) (.slice (some ⟨w5.heap.size + 1, 0, none⟩) 1 1) hw15; rw [hcm] at HR9 HB9 HT9; have y0' := block_cell HT9.out.1 0; have HTD := hide (show ∀ W, Calls Tryd.prog 72 #[.int .i64 3] W fun e w' => ∃ k : ByteArray, e = .returned (.string k) ∧ k.data.toList = toldL ((3 : Nat) : Int) ∧ k.size ≤ 4 ∧ Below W.heap.size W w' from fun W => told4R (n := 3) W (by decide)); clear hr hrp hr7 hr8 t0 ft0 hcm) | (go_at_call 72; refine (HTD.out _).mono ?_; rintro e w6 ⟨kz, rfl, hkz1, hkz4, hb⟩; have hr10 := (rR.refl HR9.out.st).below (Nat.le_trans hBw HR9.out.size) hb; have HR10 := hide (HR9.out.trans hr10); have HB10 := hide (HB9.out.step hr10); have HT10 := hide (HT9.out.step hr10); have HKZ := hide hkz1; have nb1 : ¬ 9223372036854775807 < kz.size + 1 := (by omega); skip; clear hkz1 hb hr10 HTD m0 m1 m2 u2 fu2) | (go_at_call 72; refine (told4R (n := 0) _ (by omega)).mono ?_; rintro e w7 ⟨ky, rfl, hky1, hky4, hb⟩; have hr11 := (rR.refl HR10.out.st).below (Nat.le_trans hBw HR10.out.size) hb; have HR5 := hide (HR10.out.trans hr11); have HB5 := hide (HB10.out.step hr11); have HT5 := hide (HT10.out.step hr11); have nb2 : ¬ 9223372036854775807 < kz.size + 1 + ky.size := (by omega); have c2 := HR5.out.st.c2; have x0 := block_cell HB5.out.1 0; have x1 := block_cell HB5.out.1 1; have x2 := block_cell HB5.out.1 2; have fx0 := block_free HB5.out.1 0; have fx1 := block_free HB5.out.1 1; have fx2 := block_free HB5.out.1 2; have y0 := block_cell HT5.out.1 0; have y1 := block_cell HT5.out.1 1; have y2 := block_cell HT5.out.1 2; clear hky1 hb hr11))
    obtain ⟨hrz, hbz, hsz⟩ := rFin HR5.out hBw HB5.out hrb (.int .i64 3) (.slice none 0 0) (.slice (some ⟨w5.heap.size + 1, 0, none⟩) 1 1)
    generalize World.setCell _ (⟨w.heap.size, 2, none⟩ : Addr) _ = wz at hrz hbz hsz ⊢
    have r0 := block_cell hbz 0
    have r1 := block_cell hbz 1
    have r2 := block_cell hbz 2
    simp at r0 r1 r2
    ((try simp only [Exit.inBlock, Exit.then]); refine bodyPost_ret (by simp [results, Tryd.results34, go_sem, r0, r1, r2]; try rfl) rfl ?_)
    exact RP.bad HE.out ⟨_, _, _, _, _, _, _, rfl, y, D5, _, hrz⟩
  | ok j z =>
    obtain ⟨m, t, D2⟩ := z
    have hgo := one_go hi HOK.out hn
    have hij := hgo.lt
    have hjs := hgo.le
    have hle := hgo.ext.len
    have hmn := hgo.no
    have hok2 := hgo.ext.ok
    simp only at hle hmn hok2
    have hsh : ShOk ⟨3, [], [m]⟩ := .inr (.inl ⟨.inr rfl, rfl, rfl⟩)
    have HND := hide hn
    have HSH := hide hsh
    have HHS := hide (fun (kb : ByteArray) (hk : kb.data.toList = rK ⟨3, [], [m]⟩) => has_rK hok2 hsh hk)
    clear hn hgo hsh hok2
    by_cases hm : (⟨3, [], [m]⟩ : Shp) ∈ D2.map (·.1)
    · have HE := hide (show dOne s (f + 1) D i = .bad i by rw [HX.out, HND.out]; simp only [Res.bind]; rw [dNew_no hm])
      simp only [hm, decide_true] at HHS
      clear hm HX
      go_enter Tryd.func34, Tryd.ntmps34
      go_wp2_with (first | (go_at_call 33; refine HPK.out.mono ?_; rintro e w1 ⟨rfl, hr⟩; have HR1 := hide (HRB.out.trans hr); have HB1 := hide (HBA.out.step hr); have HT1 := hide (HTA.out.step hr); have t0 := block_cell HT1.out.1 0; have ft0 := block_free HT1.out.1 0; have HR2 := hide (HR1.out.other (k := 0) hBw htb HT1.out.2 (.int .i64 2)); have HB2 := hide (HB1.out.other (k := 0) HR1.out.st HT1.out.2.1 hbt (.int .i64 2)); have HT2 := hide (show rBk c mb (w1.setCell ⟨w.heap.size + 1, 0, none⟩ (.int .i64 2)) F (w.heap.size + 1) (.cells #[.int .i64 2, .slice none 0 0, .slice none 0 0] 60) from HT1.out.set (k := 0) HR1.out.st (.int .i64 2)); have HPK2 := hide (rPeek B c mb s D F _ (Nat.le_trans hBw HR2.out.size) i hs HR2.out.st); rw [HPE.out] at HPK2; clear hr HPK) | (go_at_call 33; refine HPK2.out.mono ?_; rintro e w2 ⟨rfl, hr⟩; have HR3 := hide (HR2.out.trans hr); have HB3 := hide (HB2.out.step hr); have HT3 := hide (HT2.out.step hr); have t0' := block_cell HT3.out.1 0; have ft0' := block_free HT3.out.1 0; have HR4 := hide (HR3.out.other (k := 0) hBw htb HT3.out.2 (.int .i64 3)); have HB4 := hide (HB3.out.other (k := 0) HR3.out.st HT3.out.2.1 hbt (.int .i64 3)); have HT4 := hide (show rBk c mb (w2.setCell ⟨w.heap.size + 1, 0, none⟩ (.int .i64 3)) F (w.heap.size + 1) (.cells #[.int .i64 3, .slice none 0 0, .slice none 0 0] 60) from HT3.out.set (k := 0) HR3.out.st (.int .i64 3)); have c1' := HR4.out.st.c1; have f1' := HR4.out.st.f 1; have hr5 := (rR.refl HR4.out.st).set1 (Nat.le_trans hBw HR4.out.size) ((i : Int) + 1); have HRA5 := hide (HR4.out.trans hr5); have HBA5 := hide (HB4.out.step hr5); have HTA5 := hide (HT4.out.step hr5); clear hr hr5 HPK2) | (go_at_call 34; refine (HNM.out _ HRA5.out).mono ?_; intro e w5 hrp; obtain ⟨F5, k, A1, n1, q1, A2, n2, q2, rfl, hty, hr⟩ := hrp.of_ok HND.out; have HRB5 := hide (HRA5.out.trans hr); have HBB5 := hide (HBA5.out.step hr); have HTB5 := hide (HTA5.out.step hr); have hw15 := HTB5.out.2.2.2.2.2; have HNA := hide (heap_alloc_new w5 (.cells #[.int .i64 k, .slice A1 n1 q1, .slice A2 n2 q2] 60)); have m0 := block_cell HNA.out 0; have m1 := block_cell HNA.out 1; have m2 := block_cell HNA.out 2; have HT52 := hide (block_below HTB5.out.1 (below_2 w5 (.cells #[.int .i64 k, .slice A1 n1 q1, .slice A2 n2 q2] 60) (.cells #[.int .i64 k, .slice A1 n1 q1, .slice A2 n2 q2] 60))); have u2 := block_cell HT52.out 2; have fu2 := block_free HT52.out 2; have HR6 := hide (HRB5.out.other (k := 2) hBw htb HTB5.out.2 (.slice (some ⟨w5.heap.size + 1, 0, none⟩) 1 1)); have HB6 := hide (HBB5.out.other (k := 2) HRB5.out.st HTB5.out.2.1 hbt (.slice (some ⟨w5.heap.size + 1, 0, none⟩) 1 1)); have HT6 := hide (HTB5.out.set (k := 2) HRB5.out.st (.slice (some ⟨w5.heap.size + 1, 0, none⟩) 1 1)); have hz6 : (w5.setCell ⟨w.heap.size + 1, 2, none⟩ (.slice (some ⟨w5.heap.size + 1, 0, none⟩) 1 1)).heap.size = w5.heap.size := (by simp); have hr7 := (rR.refl HR6.out.st).alloc (Nat.le_trans hBw HR6.out.size) (.cells #[.int .i64 k, .slice A1 n1 q1, .slice A2 n2 q2] 60); have HR7 := hide (HR6.out.trans hr7); have HB7 := hide (HB6.out.step hr7); have HT7 := hide (HT6.out.step hr7); have hz7 : ((w5.setCell ⟨w.heap.size + 1, 2, none⟩ (.slice (some ⟨w5.heap.size + 1, 0, none⟩) 1 1)).alloc (.cells #[.int .i64 k, .slice A1 n1 q1, .slice A2 n2 q2] 60)).heap.size = w5.heap.size + 1 := (by simp); have hr8 := (rR.refl HR7.out.st).alloc (Nat.le_trans hBw HR7.out.size) (.cells #[.int .i64 k, .slice A1 n1 q1, .slice A2 n2 q2] 60); have HR8 := hide (HR7.out.trans hr8); have HB8 := hide (HB7.out.step hr8); have HT8 := hide (HT7.out.step hr8); have HS8 := hide (rBk.new HR7.out.st (.cells #[.int .i64 k, .slice A1 n1 q1, .slice A2 n2 q2] 60)); rw [hz7] at HS8; have hsb1 : ¬ (w.heap.size + 1 = w5.heap.size + 1) := (by have := HTB5.out.2.2.2.2.2; omega); have hsb2 : ¬ (w.heap.size = w5.heap.size + 1) := (by have := HBB5.out.2.2.2.2.2; omega); have HR9 := hide (HR8.out.join (fun j => j = w5.heap.size + 1) (fun j hj => (by subst hj; exact ⟨by have := HRB5.out.size; omega, HS8.out.2⟩))); have HB9 := hide (HB8.out.join (Y := fun j => j = w5.heap.size + 1) hsb2); have HT9 := hide (HT8.out.join (Y := fun j => j = w5.heap.size + 1) hsb1); have hty6 := stay_tyU _ _ _ _ _ _ hty (stay_ownR (k := 2) (x := .slice (some ⟨w5.heap.size + 1, 0, none⟩) 1 1) HTB5.out.2) (fun _ h _ => h); have hty7 := stay_tyU _ _ _ _ _ _ hty6 (hr7.trans hr8).stayF (fun b h _ => (Or.inl h : F5 b ∨ b = w5.heap.size + 1)); have HTY9 := hide (ty_of 3 (sl_one (F := fun b => F5 b ∨ b = w5.heap.size + 1) hty7 (Or.inr rfl) HS8.out.1) (Nat.le_refl _) (by unfold maxLen; omega)); clear hty hty6 hty7; have hcm := set_alloc2 w5 (.cells #[.int .i64 k, .slice A1 n1 q1, .slice A2 n2 q2] 60) (.cells #[.int .i64 k, .slice A1 n1 q1, .slice A2 n2 q2] 60) (i := 2) (.slice (some ⟨w5.heap.size + 1, 0, none⟩) 1 1) hw15; rw [hcm] at HR9 HB9 HT9 HTY9; have y0' := block_cell HT9.out.1 0; have HTD := hide (show ∀ W, Calls Tryd.prog 72 #[.int .i64 3] W fun e w' => ∃ k : ByteArray, e = .returned (.string k) ∧ k.data.toList = toldL ((3 : Nat) : Int) ∧ k.size ≤ 4 ∧ Below W.heap.size W w' from fun W => told4R (n := 3) W (by decide)); clear hr hrp hr7 hr8 t0 ft0 hcm) | (go_at_call 72; refine (HTD.out _).mono ?_; rintro e w6 ⟨kz, rfl, hkz1, hkz4, hb⟩; have hr10 := (rR.refl HR9.out.st).below (Nat.le_trans hBw HR9.out.size) hb; have HR10 := hide (HR9.out.trans hr10); have HB10 := hide (HB9.out.step hr10); have HT10 := hide (HT9.out.step hr10); have HKZ := hide hkz1; have nb1 : ¬ 9223372036854775807 < kz.size + 1 := (by omega); have HTY10 := hide (stay_tyU _ _ _ _ _ _ HTY9.out hr10.stayF (fun _ h _ => h)); clear HTY9; clear hkz1 hb hr10 HTD m0 m1 m2 u2 fu2) | (go_at_call 72; refine (told4R (n := m) _ (by omega)).mono ?_; rintro e w7 ⟨ky, rfl, hky1, hky4, hb⟩; have hr11 := (rR.refl HR10.out.st).below (Nat.le_trans hBw HR10.out.size) hb; have HR5 := hide (HR10.out.trans hr11); have HB5 := hide (HB10.out.step hr11); have HT5 := hide (HT10.out.step hr11); have nb2 : ¬ 9223372036854775807 < kz.size + 1 + ky.size := (by omega); have c2 := HR5.out.st.c2; have HTY := hide (stay_tyU _ _ _ _ _ _ HTY10.out hr11.stayF (fun _ h _ => h)); have HKB := hide (show (kz ++ ⟨#[58]⟩ ++ ky : ByteArray).data.toList = rK ⟨3, [], [m]⟩ from (by rw [app_toList, app_toList, HKZ.out, hky1]; exact (rK_one3 m).symm)); have hkm : (kz ++ ⟨#[58]⟩ ++ ky : ByteArray).size ≤ maxLen := (by rw [ByteArray.size_append, ByteArray.size_append]; show kz.size + 1 + ky.size ≤ maxLen; unfold maxLen; omega); have HHAS := hide (HHS.out _ HKB.out); obtain ⟨v6, u6, css, hbx, hrow, hur, hrs, hnf⟩ := HR5.out.st.st; obtain ⟨A6, k6, rfl⟩ := own_sl hrow; obtain ⟨A7, k7, rfl⟩ := own_sl hur; have HBX := hide hbx; have HROW := hide hrow; have HUR := hide hur; have HRS := hide hrs; have HNF := hide hnf; have b3 := block_cell HBX.out 3; have b5 := block_cell HBX.out 5; clear hbx hrow hur hrs hnf; clear hky1 hb hr11) | (at_lookup; refine Go.wpList_lookup_own_ok_int _ rfl _ _ 51 rfl 9 3 .i64 law_strD Tryd.underlying51 Tryd.underlying3 (zero_intD _) mb _ _ rfl HR5.out.st.map (.string (kz ++ ⟨#[58]⟩ ++ ky)) _ rfl (key_ofD _ hkm) ?_; intro c' hat hwc; rw [HHAS.out]; clear hat hwc) | (go_at_call 35; refine (rFail_new B c mb s D2 (fun b => F5 b ∨ b = w5.heap.size + 1) _ (Nat.le_trans hBw HR5.out.size) j i HR5.out.st).mono ?_; rintro e w8 ⟨rfl, hr⟩; have HR6 := hide (HR5.out.trans hr); have HB6 := hide (HB5.out.step hr); have HT6 := hide (HT5.out.step hr); have x0 := block_cell HB6.out.1 0; have x1 := block_cell HB6.out.1 1; have x2 := block_cell HB6.out.1 2; have fx0 := block_free HB6.out.1 0; have fx1 := block_free HB6.out.1 1; have fx2 := block_free HB6.out.1 2; have y0 := block_cell HT6.out.1 0; have y1 := block_cell HT6.out.1 1; have y2 := block_cell HT6.out.1 2; clear hr))
      obtain ⟨hrz, hbz, hsz⟩ := rFin HR6.out hBw HB6.out hrb (.int .i64 3) (.slice none 0 0) (.slice (some ⟨w5.heap.size + 1, 0, none⟩) 1 1)
      generalize World.setCell _ (⟨w.heap.size, 2, none⟩ : Addr) _ = wz at hrz hbz hsz ⊢
      have r0 := block_cell hbz 0
      have r1 := block_cell hbz 1
      have r2 := block_cell hbz 2
      simp at r0 r1 r2
      ((try simp only [Exit.inBlock, Exit.then]); refine bodyPost_ret (by simp [results, Tryd.results34, go_sem, r0, r1, r2]; try rfl) rfl ?_)
      exact RP.bad HE.out ⟨_, _, _, _, _, _, _, rfl, j, D2, _, hrz⟩
    · have HE := hide (show dOne s (f + 1) D i = .ok j (D2.length, Ty.mk 3 [] [t], D2 ++ [(⟨3, [], [m]⟩, Ty.mk 3 [] [t])]) by rw [HX.out, HND.out]; simp only [Res.bind]; rw [dNew_ok hm])
      simp only [hm, decide_false] at HHS
      have HMM := hide hm
      clear hm HX
      go_enter Tryd.func34, Tryd.ntmps34
      go_wp2_with (first | (go_at_call 33; refine HPK.out.mono ?_; rintro e w1 ⟨rfl, hr⟩; have HR1 := hide (HRB.out.trans hr); have HB1 := hide (HBA.out.step hr); have HT1 := hide (HTA.out.step hr); have t0 := block_cell HT1.out.1 0; have ft0 := block_free HT1.out.1 0; have HR2 := hide (HR1.out.other (k := 0) hBw htb HT1.out.2 (.int .i64 2)); have HB2 := hide (HB1.out.other (k := 0) HR1.out.st HT1.out.2.1 hbt (.int .i64 2)); have HT2 := hide (show rBk c mb (w1.setCell ⟨w.heap.size + 1, 0, none⟩ (.int .i64 2)) F (w.heap.size + 1) (.cells #[.int .i64 2, .slice none 0 0, .slice none 0 0] 60) from HT1.out.set (k := 0) HR1.out.st (.int .i64 2)); have HPK2 := hide (rPeek B c mb s D F _ (Nat.le_trans hBw HR2.out.size) i hs HR2.out.st); rw [HPE.out] at HPK2; clear hr HPK) | (go_at_call 33; refine HPK2.out.mono ?_; rintro e w2 ⟨rfl, hr⟩; have HR3 := hide (HR2.out.trans hr); have HB3 := hide (HB2.out.step hr); have HT3 := hide (HT2.out.step hr); have t0' := block_cell HT3.out.1 0; have ft0' := block_free HT3.out.1 0; have HR4 := hide (HR3.out.other (k := 0) hBw htb HT3.out.2 (.int .i64 3)); have HB4 := hide (HB3.out.other (k := 0) HR3.out.st HT3.out.2.1 hbt (.int .i64 3)); have HT4 := hide (show rBk c mb (w2.setCell ⟨w.heap.size + 1, 0, none⟩ (.int .i64 3)) F (w.heap.size + 1) (.cells #[.int .i64 3, .slice none 0 0, .slice none 0 0] 60) from HT3.out.set (k := 0) HR3.out.st (.int .i64 3)); have c1' := HR4.out.st.c1; have f1' := HR4.out.st.f 1; have hr5 := (rR.refl HR4.out.st).set1 (Nat.le_trans hBw HR4.out.size) ((i : Int) + 1); have HRA5 := hide (HR4.out.trans hr5); have HBA5 := hide (HB4.out.step hr5); have HTA5 := hide (HT4.out.step hr5); clear hr hr5 HPK2) | (go_at_call 34; refine (HNM.out _ HRA5.out).mono ?_; intro e w5 hrp; obtain ⟨F5, k, A1, n1, q1, A2, n2, q2, rfl, hty, hr⟩ := hrp.of_ok HND.out; have HRB5 := hide (HRA5.out.trans hr); have HBB5 := hide (HBA5.out.step hr); have HTB5 := hide (HTA5.out.step hr); have hw15 := HTB5.out.2.2.2.2.2; have HNA := hide (heap_alloc_new w5 (.cells #[.int .i64 k, .slice A1 n1 q1, .slice A2 n2 q2] 60)); have m0 := block_cell HNA.out 0; have m1 := block_cell HNA.out 1; have m2 := block_cell HNA.out 2; have HT52 := hide (block_below HTB5.out.1 (below_2 w5 (.cells #[.int .i64 k, .slice A1 n1 q1, .slice A2 n2 q2] 60) (.cells #[.int .i64 k, .slice A1 n1 q1, .slice A2 n2 q2] 60))); have u2 := block_cell HT52.out 2; have fu2 := block_free HT52.out 2; have HR6 := hide (HRB5.out.other (k := 2) hBw htb HTB5.out.2 (.slice (some ⟨w5.heap.size + 1, 0, none⟩) 1 1)); have HB6 := hide (HBB5.out.other (k := 2) HRB5.out.st HTB5.out.2.1 hbt (.slice (some ⟨w5.heap.size + 1, 0, none⟩) 1 1)); have HT6 := hide (HTB5.out.set (k := 2) HRB5.out.st (.slice (some ⟨w5.heap.size + 1, 0, none⟩) 1 1)); have hz6 : (w5.setCell ⟨w.heap.size + 1, 2, none⟩ (.slice (some ⟨w5.heap.size + 1, 0, none⟩) 1 1)).heap.size = w5.heap.size := (by simp); have hr7 := (rR.refl HR6.out.st).alloc (Nat.le_trans hBw HR6.out.size) (.cells #[.int .i64 k, .slice A1 n1 q1, .slice A2 n2 q2] 60); have HR7 := hide (HR6.out.trans hr7); have HB7 := hide (HB6.out.step hr7); have HT7 := hide (HT6.out.step hr7); have hz7 : ((w5.setCell ⟨w.heap.size + 1, 2, none⟩ (.slice (some ⟨w5.heap.size + 1, 0, none⟩) 1 1)).alloc (.cells #[.int .i64 k, .slice A1 n1 q1, .slice A2 n2 q2] 60)).heap.size = w5.heap.size + 1 := (by simp); have hr8 := (rR.refl HR7.out.st).alloc (Nat.le_trans hBw HR7.out.size) (.cells #[.int .i64 k, .slice A1 n1 q1, .slice A2 n2 q2] 60); have HR8 := hide (HR7.out.trans hr8); have HB8 := hide (HB7.out.step hr8); have HT8 := hide (HT7.out.step hr8); have HS8 := hide (rBk.new HR7.out.st (.cells #[.int .i64 k, .slice A1 n1 q1, .slice A2 n2 q2] 60)); rw [hz7] at HS8; have hsb1 : ¬ (w.heap.size + 1 = w5.heap.size + 1) := (by have := HTB5.out.2.2.2.2.2; omega); have hsb2 : ¬ (w.heap.size = w5.heap.size + 1) := (by have := HBB5.out.2.2.2.2.2; omega); have HR9 := hide (HR8.out.join (fun j => j = w5.heap.size + 1) (fun j hj => (by subst hj; exact ⟨by have := HRB5.out.size; omega, HS8.out.2⟩))); have HB9 := hide (HB8.out.join (Y := fun j => j = w5.heap.size + 1) hsb2); have HT9 := hide (HT8.out.join (Y := fun j => j = w5.heap.size + 1) hsb1); have hty6 := stay_tyU _ _ _ _ _ _ hty (stay_ownR (k := 2) (x := .slice (some ⟨w5.heap.size + 1, 0, none⟩) 1 1) HTB5.out.2) (fun _ h _ => h); have hty7 := stay_tyU _ _ _ _ _ _ hty6 (hr7.trans hr8).stayF (fun b h _ => (Or.inl h : F5 b ∨ b = w5.heap.size + 1)); have HTY9 := hide (ty_of 3 (sl_one (F := fun b => F5 b ∨ b = w5.heap.size + 1) hty7 (Or.inr rfl) HS8.out.1) (Nat.le_refl _) (by unfold maxLen; omega)); clear hty hty6 hty7; have hcm := set_alloc2 w5 (.cells #[.int .i64 k, .slice A1 n1 q1, .slice A2 n2 q2] 60) (.cells #[.int .i64 k, .slice A1 n1 q1, .slice A2 n2 q2] 60) (i := 2) (.slice (some ⟨w5.heap.size + 1, 0, none⟩) 1 1) hw15; rw [hcm] at HR9 HB9 HT9 HTY9; have y0' := block_cell HT9.out.1 0; have HTD := hide (show ∀ W, Calls Tryd.prog 72 #[.int .i64 3] W fun e w' => ∃ k : ByteArray, e = .returned (.string k) ∧ k.data.toList = toldL ((3 : Nat) : Int) ∧ k.size ≤ 4 ∧ Below W.heap.size W w' from fun W => told4R (n := 3) W (by decide)); clear hr hrp hr7 hr8 t0 ft0 hcm) | (go_at_call 72; refine (HTD.out _).mono ?_; rintro e w6 ⟨kz, rfl, hkz1, hkz4, hb⟩; have hr10 := (rR.refl HR9.out.st).below (Nat.le_trans hBw HR9.out.size) hb; have HR10 := hide (HR9.out.trans hr10); have HB10 := hide (HB9.out.step hr10); have HT10 := hide (HT9.out.step hr10); have HKZ := hide hkz1; have nb1 : ¬ 9223372036854775807 < kz.size + 1 := (by omega); have HTY10 := hide (stay_tyU _ _ _ _ _ _ HTY9.out hr10.stayF (fun _ h _ => h)); clear HTY9; clear hkz1 hb hr10 HTD m0 m1 m2 u2 fu2) | (go_at_call 72; refine (told4R (n := m) _ (by omega)).mono ?_; rintro e w7 ⟨ky, rfl, hky1, hky4, hb⟩; have hr11 := (rR.refl HR10.out.st).below (Nat.le_trans hBw HR10.out.size) hb; have HR5 := hide (HR10.out.trans hr11); have HB5 := hide (HB10.out.step hr11); have HT5 := hide (HT10.out.step hr11); have nb2 : ¬ 9223372036854775807 < kz.size + 1 + ky.size := (by omega); have c2 := HR5.out.st.c2; have HTY := hide (stay_tyU _ _ _ _ _ _ HTY10.out hr11.stayF (fun _ h _ => h)); have HKB := hide (show (kz ++ ⟨#[58]⟩ ++ ky : ByteArray).data.toList = rK ⟨3, [], [m]⟩ from (by rw [app_toList, app_toList, HKZ.out, hky1]; exact (rK_one3 m).symm)); have hkm : (kz ++ ⟨#[58]⟩ ++ ky : ByteArray).size ≤ maxLen := (by rw [ByteArray.size_append, ByteArray.size_append]; show kz.size + 1 + ky.size ≤ maxLen; unfold maxLen; omega); have HHAS := hide (HHS.out _ HKB.out); obtain ⟨v6, u6, css, hbx, hrow, hur, hrs, hnf⟩ := HR5.out.st.st; obtain ⟨A6, k6, rfl⟩ := own_sl hrow; obtain ⟨A7, k7, rfl⟩ := own_sl hur; have HBX := hide hbx; have HROW := hide hrow; have HUR := hide hur; have HRS := hide hrs; have HNF := hide hnf; have b3 := block_cell HBX.out 3; have b5 := block_cell HBX.out 5; clear hbx hrow hur hrs hnf; clear hky1 hb hr11) | (at_lookup; refine Go.wpList_lookup_own_ok_int _ rfl _ _ 51 rfl 9 3 .i64 law_strD Tryd.underlying51 Tryd.underlying3 (zero_intD _) mb _ _ rfl HR5.out.st.map (.string (kz ++ ⟨#[58]⟩ ++ ky)) _ rfl (key_ofD _ hkm) ?_; intro c' hat hwc; rw [HHAS.out]; clear hat hwc) | (at_mapUpdate; refine wpList_mapUpdate_own _ rfl _ _ _ 51 rfl 9 3 law_strD Tryd.underlying51 _ mb D2.length _ rfl HR5.out.st.map (by unfold maxLen; omega) _ _ _ rfl rfl (key_ofD _ hkm) _ [] (Go.plainElem_int Tryd.underlying3 (wf_intD (by omega))) ?_; intro w17 hown7 hg7; rw [HKB.out] at hown7; have HM7 := hide (rMid.start (x := (⟨3, [], [m]⟩, Ty.mk 3 [] [t])) HR5.out hBw HBX.out HROW.out HUR.out HRS.out HNF.out (Below.refl _ _) hown7 hg7); have HT7 := hide (HT5.out.mid (Below.refl _ _) hg7); have HB7 := hide (HB5.out.mid (Below.refl _ _) hg7); have HTY7 := hide (stay_tyU _ _ _ _ _ _ HTY.out (stay_midR HR5.out.st (Below.refl _ _) hg7) (fun _ h _ => h)); have hlb : w.heap.size < w17.heap.size := lt_of_block HB7.out; have hlt : w.heap.size + 1 < w17.heap.size := lt_of_block HT7.out; clear hown7 hg7))
      have HNB := hide (HB5.out.nrow HBX.out)
      have HNT := hide (HT5.out.nrow HBX.out)
      have HR6 := HR5
      have HB6 := HB5
      have HT6 := HT5
      obtain ⟨i0, hi0, iz0, iz1, iz2⟩ := info_parts info_ty
      obtain ⟨j0, hj0, jz0, jz1, jz2⟩ := info_parts info_intR
      have HBW := hide (show B ≤ w17.heap.size from Nat.le_trans hBw HM7.out.be.size)
      have H1r := hide (show ∀ k, (Value.slice A6 D2.length k6).ownBlock = some k → B ≤ k ∧ k < w17.heap.size from HM7.out.two.r1.lt)
      refine wp_region_chain (fun W => W.cell? ⟨c, 3, none⟩ = some (.slice A6 D2.length k6) ∧ W.cell? ⟨c, 4, none⟩ = some (.slice A7 D2.length k7) ∧ W.cell? ⟨w.heap.size + 1, 0, none⟩ = some (.int .i64 3) ∧ W.cell? ⟨w.heap.size + 1, 1, none⟩ = some (.slice none 0 0) ∧ W.cell? ⟨w.heap.size + 1, 2, none⟩ = some (.slice (some ⟨w5.heap.size + 1, 0, none⟩) 1 1)) 15 (by as_aux_lemma => kernel_rfl) (N := 22) (by as_aux_lemma => kernel_rfl) ?_; intro hsh
      have H0 : rTwo B c mb s j (.slice A6 D2.length k6) (.slice A7 D2.length k7) w17 (.slice A6 D2.length k6) D2.length css.flatten (.slice A7 D2.length k7) D2.length (ids D2.length) w17.drew := ⟨HM7.out.two.box, own_stay HM7.out.two.r1 (fun g o _ e => e), own_stay HM7.out.two.r2 (fun g o _ e => e), fun g h => .inl h, fun g h => .inl h, fun _ _ e _ _ => e, below_drewN (Below.refl _ _) 1⟩
      have HS : w17.drew.cell? ⟨c, 3, none⟩ = some (.slice A6 D2.length k6) ∧ w17.drew.cell? ⟨c, 4, none⟩ = some (.slice A7 D2.length k7) ∧ w17.drew.cell? ⟨w.heap.size + 1, 0, none⟩ = some (.int .i64 3) ∧ w17.drew.cell? ⟨w.heap.size + 1, 1, none⟩ = some (.slice none 0 0) ∧ w17.drew.cell? ⟨w.heap.size + 1, 2, none⟩ = some (.slice (some ⟨w5.heap.size + 1, 0, none⟩) 1 1) := ⟨block_cell H0.box 3, block_cell H0.box 4, block_cell (H0.kp _ _ HT7.out HNT.out.1 HNT.out.2) 0, block_cell (H0.kp _ _ HT7.out HNT.out.1 HNT.out.2) 1, block_cell (H0.kp _ _ HT7.out HNT.out.1 HNT.out.2) 2⟩
      refine wpAnyC_take0 (i := 0) (k := 15) (v := ?_) (d := some 189) rfl (by rfl) (by as_aux_lemma => kernel_rfl) (by as_aux_lemma => kernel_rfl) (by as_aux_lemma => kernel_rfl) hsh (by decide) (by intro _ _ _ h; exact h) (by assumption) (Or.inl ⟨by rfl, ?hy⟩) ?_; (case hy => (intro W _; go_simp; (try with_reducible rfl))); clear hsh; intro hsh
      refine wpAnyC_take0 (i := 1) (k := 15) (v := ?_) (d := some 190) rfl (by rfl) (by as_aux_lemma => kernel_rfl) (by as_aux_lemma => kernel_rfl) (by as_aux_lemma => kernel_rfl) hsh (by decide) (by intro _ _ _ h; exact h) (by assumption) (Or.inl ⟨by rfl, ?hy⟩) ?_; (case hy => (intro W _; go_simp; (try with_reducible rfl))); clear hsh; intro hsh
      refine wpAnyC_take0 (i := 2) (k := 15) (v := ?_) (d := some 191) rfl (by rfl) (by as_aux_lemma => kernel_rfl) (by as_aux_lemma => kernel_rfl) (by as_aux_lemma => kernel_rfl) hsh (by decide) (by intro _ _ _ h; exact h) (by assumption) (Or.inl ⟨by rfl, ?hy⟩) ?_; (case hy => (intro W _; go_simp; (try with_reducible rfl))); clear hsh; intro hsh
      refine wpAnyC_take0 (i := 3) (k := 15) (v := ?_) (d := some 192) rfl (by rfl) (by as_aux_lemma => kernel_rfl) (by as_aux_lemma => kernel_rfl) (by as_aux_lemma => kernel_rfl) hsh (by decide) (by intro _ _ _ h; exact h) (by assumption) (Or.inl ⟨by rfl, ?hy⟩) ?_; (case hy => (intro W _; go_simp; (try with_reducible rfl))); clear hsh; intro hsh
      refine wpAnyC_take0 (i := 4) (k := 15) (v := ?_) (d := some 193) rfl (by rfl) (by as_aux_lemma => kernel_rfl) (by as_aux_lemma => kernel_rfl) (by as_aux_lemma => kernel_rfl) hsh (by decide) (by intro _ _ _ h; exact h) (by assumption) (Or.inl ⟨by rfl, ?hy⟩) ?_; (case hy => (intro W _; go_simp; (try with_reducible rfl))); clear hsh; intro hsh
      refine wpAnyC_take (i := 5) (k := 15) (f := 40) (v := ?_) (d := some 194) rfl (by rfl) (by as_aux_lemma => kernel_rfl) (by as_aux_lemma => kernel_rfl) (by as_aux_lemma => kernel_rfl) hsh (by decide) (by as_aux_lemma => kernel_rfl) (by intro _ _ _ h; exact h) (by assumption) (Or.inl ⟨by rfl, ?hy⟩) ?_; (case hy => (rintro W ⟨y0, y1, y2, y3, y4⟩; go_simp; (try with_reducible rfl))); clear hsh; intro hsh
      refine wpAnyC_take (i := 6) (k := 15) (f := 40) (v := ?_) (d := some 195) rfl (by rfl) (by as_aux_lemma => kernel_rfl) (by as_aux_lemma => kernel_rfl) (by as_aux_lemma => kernel_rfl) hsh (by decide) (by as_aux_lemma => kernel_rfl) (by intro _ _ _ h; exact h) (by assumption) (Or.inl ⟨by rfl, ?hy⟩) ?_; (case hy => (rintro W ⟨y0, y1, y2, y3, y4⟩; go_simp; (try with_reducible rfl))); clear hsh; intro hsh
      refine wpAnyC_take0 (i := 9) (k := 15) (v := ?_) (d := some 198) rfl (by rfl) (by as_aux_lemma => kernel_rfl) (by as_aux_lemma => kernel_rfl) (by as_aux_lemma => kernel_rfl) hsh (by decide) (by intro _ _ _ h; exact h) (by assumption) (Or.inl ⟨by rfl, ?hy⟩) ?_; (case hy => (intro W _; go_simp; (try with_reducible rfl))); clear hsh; intro hsh
      refine wpAnyC_take0 (i := 10) (k := 15) (v := ?_) (d := some 199) rfl (by rfl) (by as_aux_lemma => kernel_rfl) (by as_aux_lemma => kernel_rfl) (by as_aux_lemma => kernel_rfl) hsh (by decide) (by intro _ _ _ h; exact h) (by assumption) (Or.inl ⟨by rfl, ?hy⟩) ?_; (case hy => (intro W _; go_simp; (try with_reducible rfl))); clear hsh; intro hsh
      refine wpAnyC_take0 (i := 11) (k := 15) (v := ?_) (d := some 200) rfl (by rfl) (by as_aux_lemma => kernel_rfl) (by as_aux_lemma => kernel_rfl) (by as_aux_lemma => kernel_rfl) hsh (by decide) (by intro _ _ _ h; exact h) (by assumption) (Or.inl ⟨by rfl, ?hy⟩) ?_; (case hy => (intro W _; go_simp; (try with_reducible rfl))); clear hsh; intro hsh
      refine wpAnyC_take (i := 12) (k := 15) (f := 40) (v := ?_) (d := some 201) rfl (by rfl) (by as_aux_lemma => kernel_rfl) (by as_aux_lemma => kernel_rfl) (by as_aux_lemma => kernel_rfl) hsh (by decide) (by as_aux_lemma => kernel_rfl) (by intro _ _ _ h; exact h) (by assumption) (Or.inl ⟨by rfl, ?hy⟩) ?_; (case hy => (rintro W ⟨y0, y1, y2, y3, y4⟩; go_simp; (try with_reducible rfl))); clear hsh; intro hsh
      refine wpAnyC_take0 (i := 13) (k := 15) (v := ?_) (d := some 202) rfl (by rfl) (by as_aux_lemma => kernel_rfl) (by as_aux_lemma => kernel_rfl) (by as_aux_lemma => kernel_rfl) hsh (by decide) (by intro _ _ _ h; exact h) (by assumption) (Or.inl ⟨by rfl, ?hy⟩) ?_; (case hy => (intro W _; go_simp; (try with_reducible rfl))); clear hsh; intro hsh
      clear HS
      refine wpAnyC_ready (rs := [7, 14]) (by kernel_rfl) (by simp) ?_
      refine AllC.cons (i := 7) rfl (by kernel_rfl) hsh (fun K hK => ?_) ?_
      · go_simp
        have H1 := H0.alloc HBW.out (.cells #[.int .i64 3, .slice none 0 0, .slice (some ⟨w5.heap.size + 1, 0, none⟩) 1 1] 60)
        refine hK _ _ (fun _ => ⟨block_cell H1.box 3, block_cell H1.box 4, block_cell (H1.kp _ _ HT7.out HNT.out.1 HNT.out.2) 0, block_cell (H1.kp _ _ HT7.out HNT.out.1 HNT.out.2) 1, block_cell (H1.kp _ _ HT7.out HNT.out.1 HNT.out.2) 2⟩) ?_
        clear hK K hsh
        intro hsh
        refine wpAnyC_ready (rs := [8, 14]) (by kernel_rfl) (by simp) ?_
        refine AllC.cons (i := 8) rfl (by kernel_rfl) hsh (fun K hK => ?_) ?_
        · refine step_append_lies _ (by rfl) (.tmp 194) (.tmp 196) 23 (by rfl) B 60 i0 (.agg #[.int .i64 0, .slice none 0 0, .slice none 0 0]) 3 56 Tryd.underlying23 hi0 iz0 iz1 iz2 rfl (by omega) (.slice A6 D2.length k6) D2.length css.flatten (by rfl) H1.r1 ⟨w17.heap.size, 0, none⟩ 1 1 [.int .i64 3, .slice none 0 0, .slice (some ⟨w5.heap.size + 1, 0, none⟩) 1 1] (by rfl) (by rfl) (newsD (heap_alloc_new w17.drew (.cells #[.int .i64 3, .slice none 0 0, .slice (some ⟨w5.heap.size + 1, 0, none⟩) 1 1] 60))) (by intro u hu; simp at hu; rcases hu with rfl | rfl | rfl <;> rfl) (by omega) (by unfold maxLen; omega) (by omega) (Nat.le_trans HBW.out H1.be.size) _ rfl ?_
          intro g7 q7 w18 hown hgr hat _
          have H2 := H1.grow1 HBW.out hgr hown hat
          refine hK _ _ (fun _ => ⟨block_cell H2.box 3, block_cell H2.box 4, block_cell (H2.kp _ _ HT7.out HNT.out.1 HNT.out.2) 0, block_cell (H2.kp _ _ HT7.out HNT.out.1 HNT.out.2) 1, block_cell (H2.kp _ _ HT7.out HNT.out.1 HNT.out.2) 2⟩) ?_
          clear hK K hown hgr hat hsh
          intro hsh
          refine wpAnyC_ready (rs := [14]) (by kernel_rfl) (by simp) ?_
          refine AllC.cons (i := 14) rfl (by kernel_rfl) hsh (fun K hK => ?_) ?_
          · go_simp
            have H3 := H2.alloc HBW.out (.cells #[.int .i64 (D2.length : Nat)] 3)
            refine hK _ _ (fun _ => ⟨block_cell H3.box 3, block_cell H3.box 4, block_cell (H3.kp _ _ HT7.out HNT.out.1 HNT.out.2) 0, block_cell (H3.kp _ _ HT7.out HNT.out.1 HNT.out.2) 1, block_cell (H3.kp _ _ HT7.out HNT.out.1 HNT.out.2) 2⟩) ?_
            clear hK K hsh
            intro hsh
            refine wpAnyC_ready (rs := [15]) (by kernel_rfl) (by simp) ?_
            refine AllC.cons (i := 15) rfl (by kernel_rfl) hsh (fun K hK => ?_) ?_
            · refine step_append_lies _ (by rfl) (.tmp 201) (.tmp 203) 37 (by rfl) B 3 j0 (.int .i64 0) 1 8 Tryd.underlying37 hj0 jz0 jz1 jz2 rfl (by omega) (.slice A7 D2.length k7) D2.length (ids D2.length) (by rfl) H3.r2 ⟨w18.heap.size, 0, none⟩ 1 1 [.int .i64 (D2.length : Nat)] (by rfl) (by rfl) (newsD (heap_alloc_new w18 (.cells #[.int .i64 (D2.length : Nat)] 3))) (by intro u hu; simp at hu; subst hu; rfl) (by omega) (by unfold maxLen; omega) (by omega) (Nat.le_trans HBW.out H3.be.size) _ rfl ?_
              intro g8 q8 w19 hown hgr hat _
              have H4 := H3.grow2 HBW.out hgr hown hat
              refine hK _ _ (fun h => absurd (h.symm.trans (by kernel_rfl)) (show ¬ (false = true) by decide)) ?_
              clear hK K hown hgr hat hsh
              intro hsh
              refine wpAnyC_seq 16 (by kernel_rfl) (by kernel_rfl) (by kernel_rfl) ?_
              simp only [List.drop_succ_cons, List.drop_zero]
              have f3 := block_cell H4.box 3
              have f4 := block_cell H4.box 4
              have z3 : w19.frozen? ⟨c, 3, none⟩ = false := block_free H4.box 3
              have z4 : w19.frozen? ⟨c, 4, none⟩ = false := block_free H4.box 4
              obtain ⟨hr9, hty9, hk9, hn9⟩ := HM7.out.push hBw HTY7.out HMM.out HSH.out (by omega) H4
              have HR9 := hide hr9
              have HTY9 := hide hty9
              have hbk := hk9 _ _ HB7.out HNB.out.1 HNB.out.2 HB6.out.2.1
              have htk := hk9 _ _ HT7.out HNT.out.1 HNT.out.2 HT6.out.2.1
              have HB9 := hide (HB6.out.last hbk hn9 HNB.out hlb)
              have HT9 := hide (HT6.out.last htk hn9 HNT.out hlt)
              have x0 := block_cell HB9.out.1 0
              have x1 := block_cell HB9.out.1 1
              have x2 := block_cell HB9.out.1 2
              have fx0 := block_free HB9.out.1 0
              have fx1 := block_free HB9.out.1 1
              have fx2 := block_free HB9.out.1 2
              have y0 := block_cell HT9.out.1 0
              have y1 := block_cell HT9.out.1 1
              have y2 := block_cell HT9.out.1 2
              clear hsh hr9 hty9 hk9 hn9 hbk htk
              simp only [Act.put, Act.eval]
              go_wp2_with (fail)
              obtain ⟨hrz, hbz, hsz⟩ := rFin HR9.out hBw HB9.out hrb (.int .i64 3) (.slice none 0 0) (.slice (some ⟨w5.heap.size + 1, 0, none⟩) 1 1)
              generalize World.setCell _ (⟨w.heap.size, 2, none⟩ : Addr) _ = wz at hrz hbz hsz ⊢
              have r0 := block_cell hbz 0
              have r1 := block_cell hbz 1
              have r2 := block_cell hbz 2
              simp at r0 r1 r2
              ((try simp only [Exit.inBlock, Exit.then]); refine bodyPost_ret (by simp [results, Tryd.results34, go_sem, r0, r1, r2]; try rfl) rfl ?_)
              exact RP.ok HE.out ⟨(fun b => F5 b ∨ b = w5.heap.size + 1), _, _, _, _, _, _, _, rfl, stay_tyU _ _ _ _ _ _ HTY9.out hsz (fun _ h _ => h), hrz⟩
            exact AllC.nil
          exact AllC.nil
        refine AllC.cons (i := 14) rfl (by kernel_rfl) hsh (fun K hK => ?_) ?_
        · go_simp
          have H2 := H1.alloc HBW.out (.cells #[.int .i64 (D2.length : Nat)] 3)
          refine hK _ _ (fun _ => ⟨block_cell H2.box 3, block_cell H2.box 4, block_cell (H2.kp _ _ HT7.out HNT.out.1 HNT.out.2) 0, block_cell (H2.kp _ _ HT7.out HNT.out.1 HNT.out.2) 1, block_cell (H2.kp _ _ HT7.out HNT.out.1 HNT.out.2) 2⟩) ?_
          clear hK K hsh
          intro hsh
          refine wpAnyC_ready (rs := [8]) (by kernel_rfl) (by simp) ?_
          refine AllC.cons (i := 8) rfl (by kernel_rfl) hsh (fun K hK => ?_) ?_
          · refine step_append_lies _ (by rfl) (.tmp 194) (.tmp 196) 23 (by rfl) B 60 i0 (.agg #[.int .i64 0, .slice none 0 0, .slice none 0 0]) 3 56 Tryd.underlying23 hi0 iz0 iz1 iz2 rfl (by omega) (.slice A6 D2.length k6) D2.length css.flatten (by rfl) H2.r1 ⟨w17.heap.size, 0, none⟩ 1 1 [.int .i64 3, .slice none 0 0, .slice (some ⟨w5.heap.size + 1, 0, none⟩) 1 1] (by rfl) (by rfl) (newsD (block_below (heap_alloc_new w17.drew (.cells #[.int .i64 3, .slice none 0 0, .slice (some ⟨w5.heap.size + 1, 0, none⟩) 1 1] 60)) ((Below.refl _ _).alloc (Nat.le_refl _) (.cells #[.int .i64 (D2.length : Nat)] 3)))) (by intro u hu; simp at hu; rcases hu with rfl | rfl | rfl <;> rfl) (by omega) (by unfold maxLen; omega) (by omega) (Nat.le_trans HBW.out H2.be.size) _ rfl ?_
            intro g7 q7 w18 hown hgr hat _
            have H3 := H2.grow1 HBW.out hgr hown hat
            have HBB := grown_blockD hgr (show ((w17.drew.alloc (.cells #[.int .i64 3, .slice none 0 0, .slice (some ⟨w5.heap.size + 1, 0, none⟩) 1 1] 60)).alloc (.cells #[.int .i64 (D2.length : Nat)] 3)).heap[w17.heap.size + 1]? = some (.cells #[.int .i64 (D2.length : Nat)] 3) by have h := heap_alloc_new (w17.drew.alloc (.cells #[.int .i64 3, .slice none 0 0, .slice (some ⟨w5.heap.size + 1, 0, none⟩) 1 1] 60)) (.cells #[.int .i64 (D2.length : Nat)] 3); simpa using h) (fun e => by have := (H1r.out _ e).2; omega)
            refine hK _ _ (fun _ => ⟨block_cell H3.box 3, block_cell H3.box 4, block_cell (H3.kp _ _ HT7.out HNT.out.1 HNT.out.2) 0, block_cell (H3.kp _ _ HT7.out HNT.out.1 HNT.out.2) 1, block_cell (H3.kp _ _ HT7.out HNT.out.1 HNT.out.2) 2⟩) ?_
            clear hK K hown hgr hat hsh
            intro hsh
            refine wpAnyC_ready (rs := [15]) (by kernel_rfl) (by simp) ?_
            refine AllC.cons (i := 15) rfl (by kernel_rfl) hsh (fun K hK => ?_) ?_
            · refine step_append_lies _ (by rfl) (.tmp 201) (.tmp 203) 37 (by rfl) B 3 j0 (.int .i64 0) 1 8 Tryd.underlying37 hj0 jz0 jz1 jz2 rfl (by omega) (.slice A7 D2.length k7) D2.length (ids D2.length) (by rfl) H3.r2 ⟨w17.heap.size + 1, 0, none⟩ 1 1 [.int .i64 (D2.length : Nat)] (by rfl) (by rfl) (newsD HBB) (by intro u hu; simp at hu; subst hu; rfl) (by omega) (by unfold maxLen; omega) (by omega) (Nat.le_trans HBW.out H3.be.size) _ rfl ?_
              intro g8 q8 w19 hown hgr hat _
              have H4 := H3.grow2 HBW.out hgr hown hat
              refine hK _ _ (fun h => absurd (h.symm.trans (by kernel_rfl)) (show ¬ (false = true) by decide)) ?_
              clear hK K hown hgr hat hsh
              intro hsh
              refine wpAnyC_seq 16 (by kernel_rfl) (by kernel_rfl) (by kernel_rfl) ?_
              simp only [List.drop_succ_cons, List.drop_zero]
              have f3 := block_cell H4.box 3
              have f4 := block_cell H4.box 4
              have z3 : w19.frozen? ⟨c, 3, none⟩ = false := block_free H4.box 3
              have z4 : w19.frozen? ⟨c, 4, none⟩ = false := block_free H4.box 4
              obtain ⟨hr9, hty9, hk9, hn9⟩ := HM7.out.push hBw HTY7.out HMM.out HSH.out (by omega) H4
              have HR9 := hide hr9
              have HTY9 := hide hty9
              have hbk := hk9 _ _ HB7.out HNB.out.1 HNB.out.2 HB6.out.2.1
              have htk := hk9 _ _ HT7.out HNT.out.1 HNT.out.2 HT6.out.2.1
              have HB9 := hide (HB6.out.last hbk hn9 HNB.out hlb)
              have HT9 := hide (HT6.out.last htk hn9 HNT.out hlt)
              have x0 := block_cell HB9.out.1 0
              have x1 := block_cell HB9.out.1 1
              have x2 := block_cell HB9.out.1 2
              have fx0 := block_free HB9.out.1 0
              have fx1 := block_free HB9.out.1 1
              have fx2 := block_free HB9.out.1 2
              have y0 := block_cell HT9.out.1 0
              have y1 := block_cell HT9.out.1 1
              have y2 := block_cell HT9.out.1 2
              clear hsh hr9 hty9 hk9 hn9 hbk htk
              simp only [Act.put, Act.eval]
              go_wp2_with (fail)
              obtain ⟨hrz, hbz, hsz⟩ := rFin HR9.out hBw HB9.out hrb (.int .i64 3) (.slice none 0 0) (.slice (some ⟨w5.heap.size + 1, 0, none⟩) 1 1)
              generalize World.setCell _ (⟨w.heap.size, 2, none⟩ : Addr) _ = wz at hrz hbz hsz ⊢
              have r0 := block_cell hbz 0
              have r1 := block_cell hbz 1
              have r2 := block_cell hbz 2
              simp at r0 r1 r2
              ((try simp only [Exit.inBlock, Exit.then]); refine bodyPost_ret (by simp [results, Tryd.results34, go_sem, r0, r1, r2]; try rfl) rfl ?_)
              exact RP.ok HE.out ⟨(fun b => F5 b ∨ b = w5.heap.size + 1), _, _, _, _, _, _, _, rfl, stay_tyU _ _ _ _ _ _ HTY9.out hsz (fun _ h _ => h), hrz⟩
            exact AllC.nil
          exact AllC.nil
        exact AllC.nil
      refine AllC.cons (i := 14) rfl (by kernel_rfl) hsh (fun K hK => ?_) ?_
      · go_simp
        have H1 := H0.alloc HBW.out (.cells #[.int .i64 (D2.length : Nat)] 3)
        refine hK _ _ (fun _ => ⟨block_cell H1.box 3, block_cell H1.box 4, block_cell (H1.kp _ _ HT7.out HNT.out.1 HNT.out.2) 0, block_cell (H1.kp _ _ HT7.out HNT.out.1 HNT.out.2) 1, block_cell (H1.kp _ _ HT7.out HNT.out.1 HNT.out.2) 2⟩) ?_
        clear hK K hsh
        intro hsh
        refine wpAnyC_ready (rs := [7]) (by kernel_rfl) (by simp) ?_
        refine AllC.cons (i := 7) rfl (by kernel_rfl) hsh (fun K hK => ?_) ?_
        · go_simp
          have H2 := H1.alloc HBW.out (.cells #[.int .i64 3, .slice none 0 0, .slice (some ⟨w5.heap.size + 1, 0, none⟩) 1 1] 60)
          refine hK _ _ (fun _ => ⟨block_cell H2.box 3, block_cell H2.box 4, block_cell (H2.kp _ _ HT7.out HNT.out.1 HNT.out.2) 0, block_cell (H2.kp _ _ HT7.out HNT.out.1 HNT.out.2) 1, block_cell (H2.kp _ _ HT7.out HNT.out.1 HNT.out.2) 2⟩) ?_
          clear hK K hsh
          intro hsh
          refine wpAnyC_ready (rs := [8]) (by kernel_rfl) (by simp) ?_
          refine AllC.cons (i := 8) rfl (by kernel_rfl) hsh (fun K hK => ?_) ?_
          · refine step_append_lies _ (by rfl) (.tmp 194) (.tmp 196) 23 (by rfl) B 60 i0 (.agg #[.int .i64 0, .slice none 0 0, .slice none 0 0]) 3 56 Tryd.underlying23 hi0 iz0 iz1 iz2 rfl (by omega) (.slice A6 D2.length k6) D2.length css.flatten (by rfl) H2.r1 ⟨w17.heap.size + 1, 0, none⟩ 1 1 [.int .i64 3, .slice none 0 0, .slice (some ⟨w5.heap.size + 1, 0, none⟩) 1 1] (by rfl) (by rfl) (newsD (show ((w17.drew.alloc (.cells #[.int .i64 (D2.length : Nat)] 3)).alloc (.cells #[.int .i64 3, .slice none 0 0, .slice (some ⟨w5.heap.size + 1, 0, none⟩) 1 1] 60)).heap[w17.heap.size + 1]? = some (.cells #[.int .i64 3, .slice none 0 0, .slice (some ⟨w5.heap.size + 1, 0, none⟩) 1 1] 60) by have h := heap_alloc_new (w17.drew.alloc (.cells #[.int .i64 (D2.length : Nat)] 3)) (.cells #[.int .i64 3, .slice none 0 0, .slice (some ⟨w5.heap.size + 1, 0, none⟩) 1 1] 60); simpa using h)) (by intro u hu; simp at hu; rcases hu with rfl | rfl | rfl <;> rfl) (by omega) (by unfold maxLen; omega) (by omega) (Nat.le_trans HBW.out H2.be.size) _ rfl ?_
            intro g7 q7 w18 hown hgr hat _
            have H3 := H2.grow1 HBW.out hgr hown hat
            have HBB := grown_blockD hgr (block_below (heap_alloc_new w17.drew (.cells #[.int .i64 (D2.length : Nat)] 3)) ((Below.refl _ _).alloc (Nat.le_refl _) (.cells #[.int .i64 3, .slice none 0 0, .slice (some ⟨w5.heap.size + 1, 0, none⟩) 1 1] 60))) (fun e => by have := (H1r.out _ e).2; exact absurd this (Nat.lt_irrefl _))
            refine hK _ _ (fun _ => ⟨block_cell H3.box 3, block_cell H3.box 4, block_cell (H3.kp _ _ HT7.out HNT.out.1 HNT.out.2) 0, block_cell (H3.kp _ _ HT7.out HNT.out.1 HNT.out.2) 1, block_cell (H3.kp _ _ HT7.out HNT.out.1 HNT.out.2) 2⟩) ?_
            clear hK K hown hgr hat hsh
            intro hsh
            refine wpAnyC_ready (rs := [15]) (by kernel_rfl) (by simp) ?_
            refine AllC.cons (i := 15) rfl (by kernel_rfl) hsh (fun K hK => ?_) ?_
            · refine step_append_lies _ (by rfl) (.tmp 201) (.tmp 203) 37 (by rfl) B 3 j0 (.int .i64 0) 1 8 Tryd.underlying37 hj0 jz0 jz1 jz2 rfl (by omega) (.slice A7 D2.length k7) D2.length (ids D2.length) (by rfl) H3.r2 ⟨w17.heap.size, 0, none⟩ 1 1 [.int .i64 (D2.length : Nat)] (by rfl) (by rfl) (newsD HBB) (by intro u hu; simp at hu; subst hu; rfl) (by omega) (by unfold maxLen; omega) (by omega) (Nat.le_trans HBW.out H3.be.size) _ rfl ?_
              intro g8 q8 w19 hown hgr hat _
              have H4 := H3.grow2 HBW.out hgr hown hat
              refine hK _ _ (fun h => absurd (h.symm.trans (by kernel_rfl)) (show ¬ (false = true) by decide)) ?_
              clear hK K hown hgr hat hsh
              intro hsh
              refine wpAnyC_seq 16 (by kernel_rfl) (by kernel_rfl) (by kernel_rfl) ?_
              simp only [List.drop_succ_cons, List.drop_zero]
              have f3 := block_cell H4.box 3
              have f4 := block_cell H4.box 4
              have z3 : w19.frozen? ⟨c, 3, none⟩ = false := block_free H4.box 3
              have z4 : w19.frozen? ⟨c, 4, none⟩ = false := block_free H4.box 4
              obtain ⟨hr9, hty9, hk9, hn9⟩ := HM7.out.push hBw HTY7.out HMM.out HSH.out (by omega) H4
              have HR9 := hide hr9
              have HTY9 := hide hty9
              have hbk := hk9 _ _ HB7.out HNB.out.1 HNB.out.2 HB6.out.2.1
              have htk := hk9 _ _ HT7.out HNT.out.1 HNT.out.2 HT6.out.2.1
              have HB9 := hide (HB6.out.last hbk hn9 HNB.out hlb)
              have HT9 := hide (HT6.out.last htk hn9 HNT.out hlt)
              have x0 := block_cell HB9.out.1 0
              have x1 := block_cell HB9.out.1 1
              have x2 := block_cell HB9.out.1 2
              have fx0 := block_free HB9.out.1 0
              have fx1 := block_free HB9.out.1 1
              have fx2 := block_free HB9.out.1 2
              have y0 := block_cell HT9.out.1 0
              have y1 := block_cell HT9.out.1 1
              have y2 := block_cell HT9.out.1 2
              clear hsh hr9 hty9 hk9 hn9 hbk htk
              simp only [Act.put, Act.eval]
              go_wp2_with (fail)
              obtain ⟨hrz, hbz, hsz⟩ := rFin HR9.out hBw HB9.out hrb (.int .i64 3) (.slice none 0 0) (.slice (some ⟨w5.heap.size + 1, 0, none⟩) 1 1)
              generalize World.setCell _ (⟨w.heap.size, 2, none⟩ : Addr) _ = wz at hrz hbz hsz ⊢
              have r0 := block_cell hbz 0
              have r1 := block_cell hbz 1
              have r2 := block_cell hbz 2
              simp at r0 r1 r2
              ((try simp only [Exit.inBlock, Exit.then]); refine bodyPost_ret (by simp [results, Tryd.results34, go_sem, r0, r1, r2]; try rfl) rfl ?_)
              exact RP.ok HE.out ⟨(fun b => F5 b ∨ b = w5.heap.size + 1), _, _, _, _, _, _, _, rfl, stay_tyU _ _ _ _ _ _ HTY9.out hsz (fun _ h _ => h), hrz⟩
            exact AllC.nil
          exact AllC.nil
        exact AllC.nil
      exact AllC.nil
end Go.Proofs.YtecancnojdifaaaDoor

/- Walk of one of the reference's reader of mangled names, a function (printed by gen_rv.py). -/
namespace Go.Proofs.YtecancnojdifaaaDoor
open Go.RowKit
set_option linter.unusedVariables false
set_option linter.unusedSimpArgs false
set_option maxRecDepth 100000 in
set_option maxHeartbeats 16000000 in
theorem rOne_F {s : ByteArray} {f : Nat} (H : rTysOk s f) (hf : f + 1 ≤ 12) : rOneAt s (f + 1) 70 := by
  intro B c mb D F i d w hBw hs hDi hd h hb
  have hi := get_lt hb
  have HOK := hide h.ok
  have hra := (rR.refl h).alloc hBw (.cells #[.int .i64 0, .slice none 0 0, .slice none 0 0] 60)
  have HRA := hide hra
  have HBA0 := hide (rBk.new h (.cells #[.int .i64 0, .slice none 0 0, .slice none 0 0] 60))
  have c1 := HRA.out.st.c1
  have hrb2 := (rR.refl HRA.out.st).alloc (Nat.le_trans hBw HRA.out.size) (.cells #[.int .i64 0, .slice none 0 0, .slice none 0 0] 60)
  have HRB := hide (HRA.out.trans hrb2)
  have HBA := hide (HBA0.out.step hrb2)
  have HTA := hide (show rBk c mb ((w.alloc (.cells #[.int .i64 0, .slice none 0 0, .slice none 0 0] 60)).alloc (.cells #[.int .i64 0, .slice none 0 0, .slice none 0 0] 60)) F (w.heap.size + 1) (.cells #[.int .i64 0, .slice none 0 0, .slice none 0 0] 60) from by have := rBk.new HRA.out.st (.cells #[.int .i64 0, .slice none 0 0, .slice none 0 0] 60); rwa [show (w.alloc (.cells #[.int .i64 0, .slice none 0 0, .slice none 0 0] 60)).heap.size = w.heap.size + 1 by simp] at this)
  have hrb : w.heap.size ≤ w.heap.size := Nat.le_refl _
  have htb : w.heap.size ≤ w.heap.size + 1 := by omega
  have hbt : w.heap.size ≠ w.heap.size + 1 := by omega
  have hbt2 : w.heap.size + 1 ≠ w.heap.size := by omega
  have HPK := hide (rPeek B c mb s D F _ (Nat.le_trans hBw HRB.out.size) i hs HRB.out.st)
  rw [pkB_is hb] at HPK
  have HDD := hide hd
  have hdeep : decide ((12 : Int) ≤ d) = false := by simp; omega
  have hdd : ¬ (12 : Int) ≤ d := by omega
  have hdw : wrap64 (d + 1) = d + 1 := (by unfold wrap64; omega)
  clear h hd hra hrb2
  have hwi : wrap64 ((i : Int) + 1) = (i : Int) + 1 := by unfold wrap64; omega
  have HNM := hide (fun (W : World) (h : rR B c mb s ((i : Int) + 1) (-1) D F F w W) => H B c mb D F (i + 1) (d + 1) W (Nat.le_trans hBw h.size) hs hi (by omega) (by have := HDD.out; omega) (by rw [show ((i + 1 : Nat) : Int) = (i : Int) + 1 by omega]; exact h.st))
  have HX := hide (dOne_F (f := f) (D := D) hb)
  clear H hb
  cases hn : dTys s (dOne s f) (s.size + 1) [] [] D (i + 1) with
  | bad e0 =>
    have HND := hide hn
    have HE := hide (show dOne s (f + 1) D i = .bad e0 by rw [HX.out, hn]; rfl)
    clear hn HX
    go_enter Tryd.func34, Tryd.ntmps34
    go_wp2_with (first | (go_at_call 33; refine HPK.out.mono ?_; rintro e w1 ⟨rfl, hr⟩; have HR1 := hide (HRB.out.trans hr); have HB1 := hide (HBA.out.step hr); have HT1 := hide (HTA.out.step hr); have c1' := HR1.out.st.c1; have f1' := HR1.out.st.f 1; have hr2 := (rR.refl HR1.out.st).set1 (Nat.le_trans hBw HR1.out.size) ((i : Int) + 1); have HR2 := hide (HR1.out.trans hr2); have HB2 := hide (HB1.out.step hr2); have HT2 := hide (HT1.out.step hr2); have t0 := block_cell HT2.out.1 0; have ft0 := block_free HT2.out.1 0; have HR3 := hide (HR2.out.other (k := 0) hBw htb HT2.out.2 (.int .i64 4)); have HB3 := hide (HB2.out.other (k := 0) HR2.out.st HT2.out.2.1 hbt (.int .i64 4)); have HT3 := hide (show rBk c mb ((w1.setCell ⟨c, 1, none⟩ (.int .i64 ((i : Int) + 1))).setCell ⟨w.heap.size + 1, 0, none⟩ (.int .i64 4)) F (w.heap.size + 1) (.cells #[.int .i64 4, .slice none 0 0, .slice none 0 0] 60) from HT2.out.set (k := 0) HR2.out.st (.int .i64 4)); clear hr hr2 HPK) | (go_at_call 70; refine (HNM.out _ HR3.out).mono ?_; intro e w4 hrp; obtain ⟨A, n, q, kb, rfl, hkz, y, D4, F4, hr⟩ := hrp.of_bad HND.out; have HR4 := hide (HR3.out.trans hr); have HB4 := hide (HB3.out.step hr); have HT4 := hide (HT3.out.step hr); have u1 := block_cell HT4.out.1 2; have fu1 := block_free HT4.out.1 2; have nb1 : ¬ 9223372036854775807 < 2 + kb.size := (by omega); have HR5 := hide (HR4.out.other (k := 2) hBw htb HT4.out.2 (.slice A n q)); have HB5 := hide (HB4.out.other (k := 2) HR4.out.st HT4.out.2.1 hbt (.slice A n q)); have HT5 := hide (HT4.out.set (k := 2) HR4.out.st (.slice A n q)); have c2 := HR5.out.st.c2; have x0 := block_cell HB5.out.1 0; have x1 := block_cell HB5.out.1 1; have x2 := block_cell HB5.out.1 2; have fx0 := block_free HB5.out.1 0; have fx1 := block_free HB5.out.1 1; have fx2 := block_free HB5.out.1 2; have y0 := block_cell HT5.out.1 0; have y1 := block_cell HT5.out.1 1; have y2 := block_cell HT5.out.1 2; clear hr hrp t0 ft0))
    obtain ⟨hrz, hbz, hsz⟩ := rFin HR5.out hBw HB5.out hrb (.int .i64 4) (.slice none 0 0) (.slice A n q)
    generalize World.setCell _ (⟨w.heap.size, 2, none⟩ : Addr) _ = wz at hrz hbz hsz ⊢
    have r0 := block_cell hbz 0
    have r1 := block_cell hbz 1
    have r2 := block_cell hbz 2
    simp at r0 r1 r2
    ((try simp only [Exit.inBlock, Exit.then]); refine bodyPost_ret (by simp [results, Tryd.results34, go_sem, r0, r1, r2]; try rfl) rfl ?_)
    exact RP.bad HE.out ⟨_, _, _, _, _, _, _, rfl, y, D4, F4, hrz⟩
  | ok j z =>
    obtain ⟨l, ids, D2⟩ := z
    have hgo := tys_go hi HOK.out hn
    have hij := hgo.lt
    have hjs := hgo.le
    have hle := hgo.ext.len
    have hok2 := hgo.ext.ok
    simp only at hle hok2
    have hsh : ShOk ⟨4, [], ids⟩ := .inr (.inr ⟨rfl, rfl⟩)
    have HND := hide hn
    have HSH := hide hsh
    have HHS := hide (fun (kb : ByteArray) (hk : kb.data.toList = rK ⟨4, [], ids⟩) => has_rK hok2 hsh hk)
    clear hn hgo hsh hok2
    by_cases hm : (⟨4, [], ids⟩ : Shp) ∈ D2.map (·.1)
    · have HE := hide (show dOne s (f + 1) D i = .bad i by rw [HX.out, HND.out]; simp only [Res.bind]; rw [dNew_no hm])
      simp only [hm, decide_true] at HHS
      clear hm HX
      go_enter Tryd.func34, Tryd.ntmps34
      go_wp2_with (first | (go_at_call 33; refine HPK.out.mono ?_; rintro e w1 ⟨rfl, hr⟩; have HR1 := hide (HRB.out.trans hr); have HB1 := hide (HBA.out.step hr); have HT1 := hide (HTA.out.step hr); have c1' := HR1.out.st.c1; have f1' := HR1.out.st.f 1; have hr2 := (rR.refl HR1.out.st).set1 (Nat.le_trans hBw HR1.out.size) ((i : Int) + 1); have HR2 := hide (HR1.out.trans hr2); have HB2 := hide (HB1.out.step hr2); have HT2 := hide (HT1.out.step hr2); have t0 := block_cell HT2.out.1 0; have ft0 := block_free HT2.out.1 0; have HR3 := hide (HR2.out.other (k := 0) hBw htb HT2.out.2 (.int .i64 4)); have HB3 := hide (HB2.out.other (k := 0) HR2.out.st HT2.out.2.1 hbt (.int .i64 4)); have HT3 := hide (show rBk c mb ((w1.setCell ⟨c, 1, none⟩ (.int .i64 ((i : Int) + 1))).setCell ⟨w.heap.size + 1, 0, none⟩ (.int .i64 4)) F (w.heap.size + 1) (.cells #[.int .i64 4, .slice none 0 0, .slice none 0 0] 60) from HT2.out.set (k := 0) HR2.out.st (.int .i64 4)); clear hr hr2 HPK) | (go_at_call 70; refine (HNM.out _ HR3.out).mono ?_; intro e w4 hrp; obtain ⟨F2, A, n, q, kb, rfl, hkb, hkz, hnq, hqm, hsl, hr⟩ := hrp.of_ok HND.out; have HR4 := hide (HR3.out.trans hr); have HB4 := hide (HB3.out.step hr); have HT4 := hide (HT3.out.step hr); have u1 := block_cell HT4.out.1 2; have fu1 := block_free HT4.out.1 2; have nb1 : ¬ 9223372036854775807 < 2 + kb.size := (by omega); have HR5 := hide (HR4.out.other (k := 2) hBw htb HT4.out.2 (.slice A n q)); have HB5 := hide (HB4.out.other (k := 2) HR4.out.st HT4.out.2.1 hbt (.slice A n q)); have HT5 := hide (HT4.out.set (k := 2) HR4.out.st (.slice A n q)); have c2 := HR5.out.st.c2; have HTY := hide (ty_of 4 (hsl.stay (S' := F2) (R' := TyU (w4.setCell ⟨w.heap.size + 1, 2, none⟩ (.slice A n q)) F2) (stay_ownR HT4.out.2) (fun _ h _ => h) (fun a _ cs h => stay_tyU _ _ _ _ a cs h (stay_ownR HT4.out.2) (fun _ h _ => h))) hnq hqm); have hkm : (⟨#[52, 58]⟩ ++ kb : ByteArray).size ≤ maxLen := (by rw [ByteArray.size_append]; show 2 + kb.size ≤ maxLen; unfold maxLen; omega); have HKB := hide (show (⟨#[52, 58]⟩ ++ kb : ByteArray).data.toList = rK ⟨4, [], ids⟩ from (by rw [app_toList, hkb]; rfl)); have HHAS := hide (HHS.out _ HKB.out); obtain ⟨v6, u6, css, hbx, hrow, hur, hrs, hnf⟩ := HR5.out.st.st; obtain ⟨A6, k6, rfl⟩ := own_sl hrow; obtain ⟨A7, k7, rfl⟩ := own_sl hur; have HBX := hide hbx; have HROW := hide hrow; have HUR := hide hur; have HRS := hide hrs; have HNF := hide hnf; have b3 := block_cell HBX.out 3; have b5 := block_cell HBX.out 5; clear hbx hrow hur hrs hnf; clear hr hrp hsl hkb t0 ft0) | (at_lookup; refine Go.wpList_lookup_own_ok_int _ rfl _ _ 51 rfl 9 3 .i64 law_strD Tryd.underlying51 Tryd.underlying3 (zero_intD _) mb _ _ rfl HR5.out.st.map (.string (⟨#[52, 58]⟩ ++ kb)) _ rfl (key_ofD _ hkm) ?_; intro c' hat hwc; rw [HHAS.out]; clear hat hwc) | (go_at_call 35; refine (rFail_new B c mb s D2 F2 _ (Nat.le_trans hBw HR5.out.size) j i HR5.out.st).mono ?_; rintro e w6 ⟨rfl, hr⟩; have HR6 := hide (HR5.out.trans hr); have HB6 := hide (HB5.out.step hr); have HT6 := hide (HT5.out.step hr); have x0 := block_cell HB6.out.1 0; have x1 := block_cell HB6.out.1 1; have x2 := block_cell HB6.out.1 2; have fx0 := block_free HB6.out.1 0; have fx1 := block_free HB6.out.1 1; have fx2 := block_free HB6.out.1 2; have y0 := block_cell HT6.out.1 0; have y1 := block_cell HT6.out.1 1; have y2 := block_cell HT6.out.1 2; clear hr))
      obtain ⟨hrz, hbz, hsz⟩ := rFin HR6.out hBw HB6.out hrb (.int .i64 4) (.slice none 0 0) (.slice A n q)
      generalize World.setCell _ (⟨w.heap.size, 2, none⟩ : Addr) _ = wz at hrz hbz hsz ⊢
      have r0 := block_cell hbz 0
      have r1 := block_cell hbz 1
      have r2 := block_cell hbz 2
      simp at r0 r1 r2
      ((try simp only [Exit.inBlock, Exit.then]); refine bodyPost_ret (by simp [results, Tryd.results34, go_sem, r0, r1, r2]; try rfl) rfl ?_)
      exact RP.bad HE.out ⟨_, _, _, _, _, _, _, rfl, j, D2, F2, hrz⟩
    · have HE := hide (show dOne s (f + 1) D i = .ok j (D2.length, Ty.mk 4 [] l, D2 ++ [(⟨4, [], ids⟩, Ty.mk 4 [] l)]) by rw [HX.out, HND.out]; simp only [Res.bind]; rw [dNew_ok hm])
      simp only [hm, decide_false] at HHS
      have HMM := hide hm
      clear hm HX
      go_enter Tryd.func34, Tryd.ntmps34
      go_wp2_with (first | (go_at_call 33; refine HPK.out.mono ?_; rintro e w1 ⟨rfl, hr⟩; have HR1 := hide (HRB.out.trans hr); have HB1 := hide (HBA.out.step hr); have HT1 := hide (HTA.out.step hr); have c1' := HR1.out.st.c1; have f1' := HR1.out.st.f 1; have hr2 := (rR.refl HR1.out.st).set1 (Nat.le_trans hBw HR1.out.size) ((i : Int) + 1); have HR2 := hide (HR1.out.trans hr2); have HB2 := hide (HB1.out.step hr2); have HT2 := hide (HT1.out.step hr2); have t0 := block_cell HT2.out.1 0; have ft0 := block_free HT2.out.1 0; have HR3 := hide (HR2.out.other (k := 0) hBw htb HT2.out.2 (.int .i64 4)); have HB3 := hide (HB2.out.other (k := 0) HR2.out.st HT2.out.2.1 hbt (.int .i64 4)); have HT3 := hide (show rBk c mb ((w1.setCell ⟨c, 1, none⟩ (.int .i64 ((i : Int) + 1))).setCell ⟨w.heap.size + 1, 0, none⟩ (.int .i64 4)) F (w.heap.size + 1) (.cells #[.int .i64 4, .slice none 0 0, .slice none 0 0] 60) from HT2.out.set (k := 0) HR2.out.st (.int .i64 4)); clear hr hr2 HPK) | (go_at_call 70; refine (HNM.out _ HR3.out).mono ?_; intro e w4 hrp; obtain ⟨F2, A, n, q, kb, rfl, hkb, hkz, hnq, hqm, hsl, hr⟩ := hrp.of_ok HND.out; have HR4 := hide (HR3.out.trans hr); have HB4 := hide (HB3.out.step hr); have HT4 := hide (HT3.out.step hr); have u1 := block_cell HT4.out.1 2; have fu1 := block_free HT4.out.1 2; have nb1 : ¬ 9223372036854775807 < 2 + kb.size := (by omega); have HR5 := hide (HR4.out.other (k := 2) hBw htb HT4.out.2 (.slice A n q)); have HB5 := hide (HB4.out.other (k := 2) HR4.out.st HT4.out.2.1 hbt (.slice A n q)); have HT5 := hide (HT4.out.set (k := 2) HR4.out.st (.slice A n q)); have c2 := HR5.out.st.c2; have HTY := hide (ty_of 4 (hsl.stay (S' := F2) (R' := TyU (w4.setCell ⟨w.heap.size + 1, 2, none⟩ (.slice A n q)) F2) (stay_ownR HT4.out.2) (fun _ h _ => h) (fun a _ cs h => stay_tyU _ _ _ _ a cs h (stay_ownR HT4.out.2) (fun _ h _ => h))) hnq hqm); have hkm : (⟨#[52, 58]⟩ ++ kb : ByteArray).size ≤ maxLen := (by rw [ByteArray.size_append]; show 2 + kb.size ≤ maxLen; unfold maxLen; omega); have HKB := hide (show (⟨#[52, 58]⟩ ++ kb : ByteArray).data.toList = rK ⟨4, [], ids⟩ from (by rw [app_toList, hkb]; rfl)); have HHAS := hide (HHS.out _ HKB.out); obtain ⟨v6, u6, css, hbx, hrow, hur, hrs, hnf⟩ := HR5.out.st.st; obtain ⟨A6, k6, rfl⟩ := own_sl hrow; obtain ⟨A7, k7, rfl⟩ := own_sl hur; have HBX := hide hbx; have HROW := hide hrow; have HUR := hide hur; have HRS := hide hrs; have HNF := hide hnf; have b3 := block_cell HBX.out 3; have b5 := block_cell HBX.out 5; clear hbx hrow hur hrs hnf; clear hr hrp hsl hkb t0 ft0) | (at_lookup; refine Go.wpList_lookup_own_ok_int _ rfl _ _ 51 rfl 9 3 .i64 law_strD Tryd.underlying51 Tryd.underlying3 (zero_intD _) mb _ _ rfl HR5.out.st.map (.string (⟨#[52, 58]⟩ ++ kb)) _ rfl (key_ofD _ hkm) ?_; intro c' hat hwc; rw [HHAS.out]; clear hat hwc) | (at_mapUpdate; refine wpList_mapUpdate_own _ rfl _ _ _ 51 rfl 9 3 law_strD Tryd.underlying51 _ mb D2.length _ rfl HR5.out.st.map (by unfold maxLen; omega) _ _ _ rfl rfl (key_ofD _ hkm) _ [] (Go.plainElem_int Tryd.underlying3 (wf_intD (by omega))) ?_; intro w7 hown7 hg7; rw [HKB.out] at hown7; have HM7 := hide (rMid.start (x := (⟨4, [], ids⟩, Ty.mk 4 [] l)) HR5.out hBw HBX.out HROW.out HUR.out HRS.out HNF.out (Below.refl _ _) hown7 hg7); have HT7 := hide (HT5.out.mid (Below.refl _ _) hg7); have HB7 := hide (HB5.out.mid (Below.refl _ _) hg7); have HTY7 := hide (stay_tyU _ _ _ _ _ _ HTY.out (stay_midR HR5.out.st (Below.refl _ _) hg7) (fun _ h _ => h)); have hlb : w.heap.size < w7.heap.size := lt_of_block HB7.out; have hlt : w.heap.size + 1 < w7.heap.size := lt_of_block HT7.out; clear hown7 hg7))
      have HNB := hide (HB5.out.nrow HBX.out)
      have HNT := hide (HT5.out.nrow HBX.out)
      have HR6 := HR5
      have HB6 := HB5
      have HT6 := HT5
      obtain ⟨i0, hi0, iz0, iz1, iz2⟩ := info_parts info_ty
      obtain ⟨j0, hj0, jz0, jz1, jz2⟩ := info_parts info_intR
      have HBW := hide (show B ≤ w7.heap.size from Nat.le_trans hBw HM7.out.be.size)
      have H1r := hide (show ∀ k, (Value.slice A6 D2.length k6).ownBlock = some k → B ≤ k ∧ k < w7.heap.size from HM7.out.two.r1.lt)
      refine wp_region_chain (fun W => W.cell? ⟨c, 3, none⟩ = some (.slice A6 D2.length k6) ∧ W.cell? ⟨c, 4, none⟩ = some (.slice A7 D2.length k7) ∧ W.cell? ⟨w.heap.size + 1, 0, none⟩ = some (.int .i64 4) ∧ W.cell? ⟨w.heap.size + 1, 1, none⟩ = some (.slice none 0 0) ∧ W.cell? ⟨w.heap.size + 1, 2, none⟩ = some (.slice A n q)) 15 (by as_aux_lemma => kernel_rfl) (N := 22) (by as_aux_lemma => kernel_rfl) ?_; intro hsh
      have H0 : rTwo B c mb s j (.slice A6 D2.length k6) (.slice A7 D2.length k7) w7 (.slice A6 D2.length k6) D2.length css.flatten (.slice A7 D2.length k7) D2.length (Go.Proofs.YtecancnojdifaaaDoor.ids D2.length) w7.drew := ⟨HM7.out.two.box, own_stay HM7.out.two.r1 (fun g o _ e => e), own_stay HM7.out.two.r2 (fun g o _ e => e), fun g h => .inl h, fun g h => .inl h, fun _ _ e _ _ => e, below_drewN (Below.refl _ _) 1⟩
      have HS : w7.drew.cell? ⟨c, 3, none⟩ = some (.slice A6 D2.length k6) ∧ w7.drew.cell? ⟨c, 4, none⟩ = some (.slice A7 D2.length k7) ∧ w7.drew.cell? ⟨w.heap.size + 1, 0, none⟩ = some (.int .i64 4) ∧ w7.drew.cell? ⟨w.heap.size + 1, 1, none⟩ = some (.slice none 0 0) ∧ w7.drew.cell? ⟨w.heap.size + 1, 2, none⟩ = some (.slice A n q) := ⟨block_cell H0.box 3, block_cell H0.box 4, block_cell (H0.kp _ _ HT7.out HNT.out.1 HNT.out.2) 0, block_cell (H0.kp _ _ HT7.out HNT.out.1 HNT.out.2) 1, block_cell (H0.kp _ _ HT7.out HNT.out.1 HNT.out.2) 2⟩
      refine wpAnyC_take0 (i := 0) (k := 15) (v := ?_) (d := some 189) rfl (by rfl) (by as_aux_lemma => kernel_rfl) (by as_aux_lemma => kernel_rfl) (by as_aux_lemma => kernel_rfl) hsh (by decide) (by intro _ _ _ h; exact h) (by assumption) (Or.inl ⟨by rfl, ?hy⟩) ?_; (case hy => (intro W _; go_simp; (try with_reducible rfl))); clear hsh; intro hsh
      refine wpAnyC_take0 (i := 1) (k := 15) (v := ?_) (d := some 190) rfl (by rfl) (by as_aux_lemma => kernel_rfl) (by as_aux_lemma => kernel_rfl) (by as_aux_lemma => kernel_rfl) hsh (by decide) (by intro _ _ _ h; exact h) (by assumption) (Or.inl ⟨by rfl, ?hy⟩) ?_; (case hy => (intro W _; go_simp; (try with_reducible rfl))); clear hsh; intro hsh
      refine wpAnyC_take0 (i := 2) (k := 15) (v := ?_) (d := some 191) rfl (by rfl) (by as_aux_lemma => kernel_rfl) (by as_aux_lemma => kernel_rfl) (by as_aux_lemma => kernel_rfl) hsh (by decide) (by intro _ _ _ h; exact h) (by assumption) (Or.inl ⟨by rfl, ?hy⟩) ?_; (case hy => (intro W _; go_simp; (try with_reducible rfl))); clear hsh; intro hsh
      refine wpAnyC_take0 (i := 3) (k := 15) (v := ?_) (d := some 192) rfl (by rfl) (by as_aux_lemma => kernel_rfl) (by as_aux_lemma => kernel_rfl) (by as_aux_lemma => kernel_rfl) hsh (by decide) (by intro _ _ _ h; exact h) (by assumption) (Or.inl ⟨by rfl, ?hy⟩) ?_; (case hy => (intro W _; go_simp; (try with_reducible rfl))); clear hsh; intro hsh
      refine wpAnyC_take0 (i := 4) (k := 15) (v := ?_) (d := some 193) rfl (by rfl) (by as_aux_lemma => kernel_rfl) (by as_aux_lemma => kernel_rfl) (by as_aux_lemma => kernel_rfl) hsh (by decide) (by intro _ _ _ h; exact h) (by assumption) (Or.inl ⟨by rfl, ?hy⟩) ?_; (case hy => (intro W _; go_simp; (try with_reducible rfl))); clear hsh; intro hsh
      refine wpAnyC_take (i := 5) (k := 15) (f := 40) (v := ?_) (d := some 194) rfl (by rfl) (by as_aux_lemma => kernel_rfl) (by as_aux_lemma => kernel_rfl) (by as_aux_lemma => kernel_rfl) hsh (by decide) (by as_aux_lemma => kernel_rfl) (by intro _ _ _ h; exact h) (by assumption) (Or.inl ⟨by rfl, ?hy⟩) ?_; (case hy => (rintro W ⟨y0, y1, y2, y3, y4⟩; go_simp; (try with_reducible rfl))); clear hsh; intro hsh
      refine wpAnyC_take (i := 6) (k := 15) (f := 40) (v := ?_) (d := some 195) rfl (by rfl) (by as_aux_lemma => kernel_rfl) (by as_aux_lemma => kernel_rfl) (by as_aux_lemma => kernel_rfl) hsh (by decide) (by as_aux_lemma => kernel_rfl) (by intro _ _ _ h; exact h) (by assumption) (Or.inl ⟨by rfl, ?hy⟩) ?_; (case hy => (rintro W ⟨y0, y1, y2, y3, y4⟩; go_simp; (try with_reducible rfl))); clear hsh; intro hsh
      refine wpAnyC_take0 (i := 9) (k := 15) (v := ?_) (d := some 198) rfl (by rfl) (by as_aux_lemma => kernel_rfl) (by as_aux_lemma => kernel_rfl) (by as_aux_lemma => kernel_rfl) hsh (by decide) (by intro _ _ _ h; exact h) (by assumption) (Or.inl ⟨by rfl, ?hy⟩) ?_; (case hy => (intro W _; go_simp; (try with_reducible rfl))); clear hsh; intro hsh
      refine wpAnyC_take0 (i := 10) (k := 15) (v := ?_) (d := some 199) rfl (by rfl) (by as_aux_lemma => kernel_rfl) (by as_aux_lemma => kernel_rfl) (by as_aux_lemma => kernel_rfl) hsh (by decide) (by intro _ _ _ h; exact h) (by assumption) (Or.inl ⟨by rfl, ?hy⟩) ?_; (case hy => (intro W _; go_simp; (try with_reducible rfl))); clear hsh; intro hsh
      refine wpAnyC_take0 (i := 11) (k := 15) (v := ?_) (d := some 200) rfl (by rfl) (by as_aux_lemma => kernel_rfl) (by as_aux_lemma => kernel_rfl) (by as_aux_lemma => kernel_rfl) hsh (by decide) (by intro _ _ _ h; exact h) (by assumption) (Or.inl ⟨by rfl, ?hy⟩) ?_; (case hy => (intro W _; go_simp; (try with_reducible rfl))); clear hsh; intro hsh
      refine wpAnyC_take (i := 12) (k := 15) (f := 40) (v := ?_) (d := some 201) rfl (by rfl) (by as_aux_lemma => kernel_rfl) (by as_aux_lemma => kernel_rfl) (by as_aux_lemma => kernel_rfl) hsh (by decide) (by as_aux_lemma => kernel_rfl) (by intro _ _ _ h; exact h) (by assumption) (Or.inl ⟨by rfl, ?hy⟩) ?_; (case hy => (rintro W ⟨y0, y1, y2, y3, y4⟩; go_simp; (try with_reducible rfl))); clear hsh; intro hsh
      refine wpAnyC_take0 (i := 13) (k := 15) (v := ?_) (d := some 202) rfl (by rfl) (by as_aux_lemma => kernel_rfl) (by as_aux_lemma => kernel_rfl) (by as_aux_lemma => kernel_rfl) hsh (by decide) (by intro _ _ _ h; exact h) (by assumption) (Or.inl ⟨by rfl, ?hy⟩) ?_; (case hy => (intro W _; go_simp; (try with_reducible rfl))); clear hsh; intro hsh
      clear HS
      refine wpAnyC_ready (rs := [7, 14]) (by kernel_rfl) (by simp) ?_
      refine AllC.cons (i := 7) rfl (by kernel_rfl) hsh (fun K hK => ?_) ?_
      · go_simp
        have H1 := H0.alloc HBW.out (.cells #[.int .i64 4, .slice none 0 0, .slice A n q] 60)
        refine hK _ _ (fun _ => ⟨block_cell H1.box 3, block_cell H1.box 4, block_cell (H1.kp _ _ HT7.out HNT.out.1 HNT.out.2) 0, block_cell (H1.kp _ _ HT7.out HNT.out.1 HNT.out.2) 1, block_cell (H1.kp _ _ HT7.out HNT.out.1 HNT.out.2) 2⟩) ?_
        clear hK K hsh
        intro hsh
        refine wpAnyC_ready (rs := [8, 14]) (by kernel_rfl) (by simp) ?_
        refine AllC.cons (i := 8) rfl (by kernel_rfl) hsh (fun K hK => ?_) ?_
        · refine step_append_lies _ (by rfl) (.tmp 194) (.tmp 196) 23 (by rfl) B 60 i0 (.agg #[.int .i64 0, .slice none 0 0, .slice none 0 0]) 3 56 Tryd.underlying23 hi0 iz0 iz1 iz2 rfl (by omega) (.slice A6 D2.length k6) D2.length css.flatten (by rfl) H1.r1 ⟨w7.heap.size, 0, none⟩ 1 1 [.int .i64 4, .slice none 0 0, .slice A n q] (by rfl) (by rfl) (newsD (heap_alloc_new w7.drew (.cells #[.int .i64 4, .slice none 0 0, .slice A n q] 60))) (by intro u hu; simp at hu; rcases hu with rfl | rfl | rfl <;> rfl) (by omega) (by unfold maxLen; omega) (by omega) (Nat.le_trans HBW.out H1.be.size) _ rfl ?_
          intro g7 q7 w8 hown hgr hat _
          have H2 := H1.grow1 HBW.out hgr hown hat
          refine hK _ _ (fun _ => ⟨block_cell H2.box 3, block_cell H2.box 4, block_cell (H2.kp _ _ HT7.out HNT.out.1 HNT.out.2) 0, block_cell (H2.kp _ _ HT7.out HNT.out.1 HNT.out.2) 1, block_cell (H2.kp _ _ HT7.out HNT.out.1 HNT.out.2) 2⟩) ?_
          clear hK K hown hgr hat hsh
          intro hsh
          refine wpAnyC_ready (rs := [14]) (by kernel_rfl) (by simp) ?_
          refine AllC.cons (i := 14) rfl (by kernel_rfl) hsh (fun K hK => ?_) ?_
          · go_simp
            have H3 := H2.alloc HBW.out (.cells #[.int .i64 (D2.length : Nat)] 3)
            refine hK _ _ (fun _ => ⟨block_cell H3.box 3, block_cell H3.box 4, block_cell (H3.kp _ _ HT7.out HNT.out.1 HNT.out.2) 0, block_cell (H3.kp _ _ HT7.out HNT.out.1 HNT.out.2) 1, block_cell (H3.kp _ _ HT7.out HNT.out.1 HNT.out.2) 2⟩) ?_
            clear hK K hsh
            intro hsh
            refine wpAnyC_ready (rs := [15]) (by kernel_rfl) (by simp) ?_
            refine AllC.cons (i := 15) rfl (by kernel_rfl) hsh (fun K hK => ?_) ?_
            · refine step_append_lies _ (by rfl) (.tmp 201) (.tmp 203) 37 (by rfl) B 3 j0 (.int .i64 0) 1 8 Tryd.underlying37 hj0 jz0 jz1 jz2 rfl (by omega) (.slice A7 D2.length k7) D2.length (Go.Proofs.YtecancnojdifaaaDoor.ids D2.length) (by rfl) H3.r2 ⟨w8.heap.size, 0, none⟩ 1 1 [.int .i64 (D2.length : Nat)] (by rfl) (by rfl) (newsD (heap_alloc_new w8 (.cells #[.int .i64 (D2.length : Nat)] 3))) (by intro u hu; simp at hu; subst hu; rfl) (by omega) (by unfold maxLen; omega) (by omega) (Nat.le_trans HBW.out H3.be.size) _ rfl ?_
              intro g8 q8 w9 hown hgr hat _
              have H4 := H3.grow2 HBW.out hgr hown hat
              refine hK _ _ (fun h => absurd (h.symm.trans (by kernel_rfl)) (show ¬ (false = true) by decide)) ?_
              clear hK K hown hgr hat hsh
              intro hsh
              refine wpAnyC_seq 16 (by kernel_rfl) (by kernel_rfl) (by kernel_rfl) ?_
              simp only [List.drop_succ_cons, List.drop_zero]
              have f3 := block_cell H4.box 3
              have f4 := block_cell H4.box 4
              have z3 : w9.frozen? ⟨c, 3, none⟩ = false := block_free H4.box 3
              have z4 : w9.frozen? ⟨c, 4, none⟩ = false := block_free H4.box 4
              obtain ⟨hr9, hty9, hk9, hn9⟩ := HM7.out.push hBw HTY7.out HMM.out HSH.out (by omega) H4
              have HR9 := hide hr9
              have HTY9 := hide hty9
              have hbk := hk9 _ _ HB7.out HNB.out.1 HNB.out.2 HB6.out.2.1
              have htk := hk9 _ _ HT7.out HNT.out.1 HNT.out.2 HT6.out.2.1
              have HB9 := hide (HB6.out.last hbk hn9 HNB.out hlb)
              have HT9 := hide (HT6.out.last htk hn9 HNT.out hlt)
              have x0 := block_cell HB9.out.1 0
              have x1 := block_cell HB9.out.1 1
              have x2 := block_cell HB9.out.1 2
              have fx0 := block_free HB9.out.1 0
              have fx1 := block_free HB9.out.1 1
              have fx2 := block_free HB9.out.1 2
              have y0 := block_cell HT9.out.1 0
              have y1 := block_cell HT9.out.1 1
              have y2 := block_cell HT9.out.1 2
              clear hsh hr9 hty9 hk9 hn9 hbk htk
              simp only [Act.put, Act.eval]
              go_wp2_with (fail)
              obtain ⟨hrz, hbz, hsz⟩ := rFin HR9.out hBw HB9.out hrb (.int .i64 4) (.slice none 0 0) (.slice A n q)
              generalize World.setCell _ (⟨w.heap.size, 2, none⟩ : Addr) _ = wz at hrz hbz hsz ⊢
              have r0 := block_cell hbz 0
              have r1 := block_cell hbz 1
              have r2 := block_cell hbz 2
              simp at r0 r1 r2
              ((try simp only [Exit.inBlock, Exit.then]); refine bodyPost_ret (by simp [results, Tryd.results34, go_sem, r0, r1, r2]; try rfl) rfl ?_)
              exact RP.ok HE.out ⟨F2, _, _, _, _, _, _, _, rfl, stay_tyU _ _ _ _ _ _ HTY9.out hsz (fun _ h _ => h), hrz⟩
            exact AllC.nil
          exact AllC.nil
        refine AllC.cons (i := 14) rfl (by kernel_rfl) hsh (fun K hK => ?_) ?_
        · go_simp
          have H2 := H1.alloc HBW.out (.cells #[.int .i64 (D2.length : Nat)] 3)
          refine hK _ _ (fun _ => ⟨block_cell H2.box 3, block_cell H2.box 4, block_cell (H2.kp _ _ HT7.out HNT.out.1 HNT.out.2) 0, block_cell (H2.kp _ _ HT7.out HNT.out.1 HNT.out.2) 1, block_cell (H2.kp _ _ HT7.out HNT.out.1 HNT.out.2) 2⟩) ?_
          clear hK K hsh
          intro hsh
          refine wpAnyC_ready (rs := [8]) (by kernel_rfl) (by simp) ?_
          refine AllC.cons (i := 8) rfl (by kernel_rfl) hsh (fun K hK => ?_) ?_
          · refine step_append_lies _ (by rfl) (.tmp 194) (.tmp 196) 23 (by rfl) B 60 i0 (.agg #[.int .i64 0, .slice none 0 0, .slice none 0 0]) 3 56 Tryd.underlying23 hi0 iz0 iz1 iz2 rfl (by omega) (.slice A6 D2.length k6) D2.length css.flatten (by rfl) H2.r1 ⟨w7.heap.size, 0, none⟩ 1 1 [.int .i64 4, .slice none 0 0, .slice A n q] (by rfl) (by rfl) (newsD (block_below (heap_alloc_new w7.drew (.cells #[.int .i64 4, .slice none 0 0, .slice A n q] 60)) ((Below.refl _ _).alloc (Nat.le_refl _) (.cells #[.int .i64 (D2.length : Nat)] 3)))) (by intro u hu; simp at hu; rcases hu with rfl | rfl | rfl <;> rfl) (by omega) (by unfold maxLen; omega) (by omega) (Nat.le_trans HBW.out H2.be.size) _ rfl ?_
            intro g7 q7 w8 hown hgr hat _
            have H3 := H2.grow1 HBW.out hgr hown hat
            have HBB := grown_blockD hgr (show ((w7.drew.alloc (.cells #[.int .i64 4, .slice none 0 0, .slice A n q] 60)).alloc (.cells #[.int .i64 (D2.length : Nat)] 3)).heap[w7.heap.size + 1]? = some (.cells #[.int .i64 (D2.length : Nat)] 3) by have h := heap_alloc_new (w7.drew.alloc (.cells #[.int .i64 4, .slice none 0 0, .slice A n q] 60)) (.cells #[.int .i64 (D2.length : Nat)] 3); simpa using h) (fun e => by have := (H1r.out _ e).2; omega)
            refine hK _ _ (fun _ => ⟨block_cell H3.box 3, block_cell H3.box 4, block_cell (H3.kp _ _ HT7.out HNT.out.1 HNT.out.2) 0, block_cell (H3.kp _ _ HT7.out HNT.out.1 HNT.out.2) 1, block_cell (H3.kp _ _ HT7.out HNT.out.1 HNT.out.2) 2⟩) ?_
            clear hK K hown hgr hat hsh
            intro hsh
            refine wpAnyC_ready (rs := [15]) (by kernel_rfl) (by simp) ?_
            refine AllC.cons (i := 15) rfl (by kernel_rfl) hsh (fun K hK => ?_) ?_
            · refine step_append_lies _ (by rfl) (.tmp 201) (.tmp 203) 37 (by rfl) B 3 j0 (.int .i64 0) 1 8 Tryd.underlying37 hj0 jz0 jz1 jz2 rfl (by omega) (.slice A7 D2.length k7) D2.length (Go.Proofs.YtecancnojdifaaaDoor.ids D2.length) (by rfl) H3.r2 ⟨w7.heap.size + 1, 0, none⟩ 1 1 [.int .i64 (D2.length : Nat)] (by rfl) (by rfl) (newsD HBB) (by intro u hu; simp at hu; subst hu; rfl) (by omega) (by unfold maxLen; omega) (by omega) (Nat.le_trans HBW.out H3.be.size) _ rfl ?_
              intro g8 q8 w9 hown hgr hat _
              have H4 := H3.grow2 HBW.out hgr hown hat
              refine hK _ _ (fun h => absurd (h.symm.trans (by kernel_rfl)) (show ¬ (false = true) by decide)) ?_
              clear hK K hown hgr hat hsh
              intro hsh
              refine wpAnyC_seq 16 (by kernel_rfl) (by kernel_rfl) (by kernel_rfl) ?_
              simp only [List.drop_succ_cons, List.drop_zero]
              have f3 := block_cell H4.box 3
              have f4 := block_cell H4.box 4
              have z3 : w9.frozen? ⟨c, 3, none⟩ = false := block_free H4.box 3
              have z4 : w9.frozen? ⟨c, 4, none⟩ = false := block_free H4.box 4
              obtain ⟨hr9, hty9, hk9, hn9⟩ := HM7.out.push hBw HTY7.out HMM.out HSH.out (by omega) H4
              have HR9 := hide hr9
              have HTY9 := hide hty9
              have hbk := hk9 _ _ HB7.out HNB.out.1 HNB.out.2 HB6.out.2.1
              have htk := hk9 _ _ HT7.out HNT.out.1 HNT.out.2 HT6.out.2.1
              have HB9 := hide (HB6.out.last hbk hn9 HNB.out hlb)
              have HT9 := hide (HT6.out.last htk hn9 HNT.out hlt)
              have x0 := block_cell HB9.out.1 0
              have x1 := block_cell HB9.out.1 1
              have x2 := block_cell HB9.out.1 2
              have fx0 := block_free HB9.out.1 0
              have fx1 := block_free HB9.out.1 1
              have fx2 := block_free HB9.out.1 2
              have y0 := block_cell HT9.out.1 0
              have y1 := block_cell HT9.out.1 1
              have y2 := block_cell HT9.out.1 2
              clear hsh hr9 hty9 hk9 hn9 hbk htk
              simp only [Act.put, Act.eval]
              go_wp2_with (fail)
              obtain ⟨hrz, hbz, hsz⟩ := rFin HR9.out hBw HB9.out hrb (.int .i64 4) (.slice none 0 0) (.slice A n q)
              generalize World.setCell _ (⟨w.heap.size, 2, none⟩ : Addr) _ = wz at hrz hbz hsz ⊢
              have r0 := block_cell hbz 0
              have r1 := block_cell hbz 1
              have r2 := block_cell hbz 2
              simp at r0 r1 r2
              ((try simp only [Exit.inBlock, Exit.then]); refine bodyPost_ret (by simp [results, Tryd.results34, go_sem, r0, r1, r2]; try rfl) rfl ?_)
              exact RP.ok HE.out ⟨F2, _, _, _, _, _, _, _, rfl, stay_tyU _ _ _ _ _ _ HTY9.out hsz (fun _ h _ => h), hrz⟩
            exact AllC.nil
          exact AllC.nil
        exact AllC.nil
      refine AllC.cons (i := 14) rfl (by kernel_rfl) hsh (fun K hK => ?_) ?_
      · go_simp
        have H1 := H0.alloc HBW.out (.cells #[.int .i64 (D2.length : Nat)] 3)
        refine hK _ _ (fun _ => ⟨block_cell H1.box 3, block_cell H1.box 4, block_cell (H1.kp _ _ HT7.out HNT.out.1 HNT.out.2) 0, block_cell (H1.kp _ _ HT7.out HNT.out.1 HNT.out.2) 1, block_cell (H1.kp _ _ HT7.out HNT.out.1 HNT.out.2) 2⟩) ?_
        clear hK K hsh
        intro hsh
        refine wpAnyC_ready (rs := [7]) (by kernel_rfl) (by simp) ?_
        refine AllC.cons (i := 7) rfl (by kernel_rfl) hsh (fun K hK => ?_) ?_
        · go_simp
          have H2 := H1.alloc HBW.out (.cells #[.int .i64 4, .slice none 0 0, .slice A n q] 60)
          refine hK _ _ (fun _ => ⟨block_cell H2.box 3, block_cell H2.box 4, block_cell (H2.kp _ _ HT7.out HNT.out.1 HNT.out.2) 0, block_cell (H2.kp _ _ HT7.out HNT.out.1 HNT.out.2) 1, block_cell (H2.kp _ _ HT7.out HNT.out.1 HNT.out.2) 2⟩) ?_
          clear hK K hsh
          intro hsh
          refine wpAnyC_ready (rs := [8]) (by kernel_rfl) (by simp) ?_
          refine AllC.cons (i := 8) rfl (by kernel_rfl) hsh (fun K hK => ?_) ?_
          · refine step_append_lies _ (by rfl) (.tmp 194) (.tmp 196) 23 (by rfl) B 60 i0 (.agg #[.int .i64 0, .slice none 0 0, .slice none 0 0]) 3 56 Tryd.underlying23 hi0 iz0 iz1 iz2 rfl (by omega) (.slice A6 D2.length k6) D2.length css.flatten (by rfl) H2.r1 ⟨w7.heap.size + 1, 0, none⟩ 1 1 [.int .i64 4, .slice none 0 0, .slice A n q] (by rfl) (by rfl) (newsD (show ((w7.drew.alloc (.cells #[.int .i64 (D2.length : Nat)] 3)).alloc (.cells #[.int .i64 4, .slice none 0 0, .slice A n q] 60)).heap[w7.heap.size + 1]? = some (.cells #[.int .i64 4, .slice none 0 0, .slice A n q] 60) by have h := heap_alloc_new (w7.drew.alloc (.cells #[.int .i64 (D2.length : Nat)] 3)) (.cells #[.int .i64 4, .slice none 0 0, .slice A n q] 60); simpa using h)) (by intro u hu; simp at hu; rcases hu with rfl | rfl | rfl <;> rfl) (by omega) (by unfold maxLen; omega) (by omega) (Nat.le_trans HBW.out H2.be.size) _ rfl ?_
            intro g7 q7 w8 hown hgr hat _
            have H3 := H2.grow1 HBW.out hgr hown hat
            have HBB := grown_blockD hgr (block_below (heap_alloc_new w7.drew (.cells #[.int .i64 (D2.length : Nat)] 3)) ((Below.refl _ _).alloc (Nat.le_refl _) (.cells #[.int .i64 4, .slice none 0 0, .slice A n q] 60))) (fun e => by have := (H1r.out _ e).2; exact absurd this (Nat.lt_irrefl _))
            refine hK _ _ (fun _ => ⟨block_cell H3.box 3, block_cell H3.box 4, block_cell (H3.kp _ _ HT7.out HNT.out.1 HNT.out.2) 0, block_cell (H3.kp _ _ HT7.out HNT.out.1 HNT.out.2) 1, block_cell (H3.kp _ _ HT7.out HNT.out.1 HNT.out.2) 2⟩) ?_
            clear hK K hown hgr hat hsh
            intro hsh
            refine wpAnyC_ready (rs := [15]) (by kernel_rfl) (by simp) ?_
            refine AllC.cons (i := 15) rfl (by kernel_rfl) hsh (fun K hK => ?_) ?_
            · refine step_append_lies _ (by rfl) (.tmp 201) (.tmp 203) 37 (by rfl) B 3 j0 (.int .i64 0) 1 8 Tryd.underlying37 hj0 jz0 jz1 jz2 rfl (by omega) (.slice A7 D2.length k7) D2.length (Go.Proofs.YtecancnojdifaaaDoor.ids D2.length) (by rfl) H3.r2 ⟨w7.heap.size, 0, none⟩ 1 1 [.int .i64 (D2.length : Nat)] (by rfl) (by rfl) (newsD HBB) (by intro u hu; simp at hu; subst hu; rfl) (by omega) (by unfold maxLen; omega) (by omega) (Nat.le_trans HBW.out H3.be.size) _ rfl ?_
              intro g8 q8 w9 hown hgr hat _
              have H4 := H3.grow2 HBW.out hgr hown hat
              refine hK _ _ (fun h => absurd (h.symm.trans (by kernel_rfl)) (show ¬ (false = true) by decide)) ?_
              clear hK K hown hgr hat hsh
              intro hsh
              refine wpAnyC_seq 16 (by kernel_rfl) (by kernel_rfl) (by kernel_rfl) ?_
              simp only [List.drop_succ_cons, List.drop_zero]
              have f3 := block_cell H4.box 3
              have f4 := block_cell H4.box 4
              have z3 : w9.frozen? ⟨c, 3, none⟩ = false := block_free H4.box 3
              have z4 : w9.frozen? ⟨c, 4, none⟩ = false := block_free H4.box 4
              obtain ⟨hr9, hty9, hk9, hn9⟩ := HM7.out.push hBw HTY7.out HMM.out HSH.out (by omega) H4
              have HR9 := hide hr9
              have HTY9 := hide hty9
              have hbk := hk9 _ _ HB7.out HNB.out.1 HNB.out.2 HB6.out.2.1
              have htk := hk9 _ _ HT7.out HNT.out.1 HNT.out.2 HT6.out.2.1
              have HB9 := hide (HB6.out.last hbk hn9 HNB.out hlb)
              have HT9 := hide (HT6.out.last htk hn9 HNT.out hlt)
              have x0 := block_cell HB9.out.1 0
              have x1 := block_cell HB9.out.1 1
              have x2 := block_cell HB9.out.1 2
              have fx0 := block_free HB9.out.1 0
              have fx1 := block_free HB9.out.1 1
              have fx2 := block_free HB9.out.1 2
              have y0 := block_cell HT9.out.1 0
              have y1 := block_cell HT9.out.1 1
              have y2 := block_cell HT9.out.1 2
              clear hsh hr9 hty9 hk9 hn9 hbk htk
              simp only [Act.put, Act.eval]
              go_wp2_with (fail)
              obtain ⟨hrz, hbz, hsz⟩ := rFin HR9.out hBw HB9.out hrb (.int .i64 4) (.slice none 0 0) (.slice A n q)
              generalize World.setCell _ (⟨w.heap.size, 2, none⟩ : Addr) _ = wz at hrz hbz hsz ⊢
              have r0 := block_cell hbz 0
              have r1 := block_cell hbz 1
              have r2 := block_cell hbz 2
              simp at r0 r1 r2
              ((try simp only [Exit.inBlock, Exit.then]); refine bodyPost_ret (by simp [results, Tryd.results34, go_sem, r0, r1, r2]; try rfl) rfl ?_)
              exact RP.ok HE.out ⟨F2, _, _, _, _, _, _, _, rfl, stay_tyU _ _ _ _ _ _ HTY9.out hsz (fun _ h _ => h), hrz⟩
            exact AllC.nil
          exact AllC.nil
        exact AllC.nil
      exact AllC.nil
end Go.Proofs.YtecancnojdifaaaDoor

/- Walk of one of the reference's reader of mangled names, a number (printed by gen_rv.py). -/
namespace Go.Proofs.YtecancnojdifaaaDoor
open Go.RowKit
set_option linter.unusedVariables false
set_option linter.unusedSimpArgs false
theorem rS.node {B c mb : Nat} {s : ByteArray} {i q : Int} {D : List Nd} {F : Nat → Prop} {w : World} (h : rS B c mb s i q D F w) {n : Nat} {x : Nd} (hx : D[n]? = some x) : ∃ (g cap g2 cap2 : Nat) (k : Int) (A : Option Addr) (m r : Nat) (A' : Option Addr) (m' r' : Nat), w.cell? ⟨c, 3, none⟩ = some (.slice (some ⟨g, 0, none⟩) D.length cap) ∧ w.cell? ⟨c, 4, none⟩ = some (.slice (some ⟨g2, 0, none⟩) D.length cap2) ∧ D.length ≤ cap ∧ cap ≤ maxLen ∧ D.length ≤ cap2 ∧ cap2 ≤ maxLen ∧
    w.cell? ⟨g, n * 3, none⟩ = some (.int .i64 k) ∧ w.cell? ⟨g, n * 3 + 1, none⟩ = some (.slice A m r) ∧ w.cell? ⟨g, n * 3 + 2, none⟩ = some (.slice A' m' r') ∧ w.cell? ⟨g2, n, none⟩ = some (.int .i64 (n : Int)) ∧ rRow c mb w g ∧ rRow c mb w g2 ∧ TyU w F x.2 [.int .i64 k, .slice A m r, .slice A' m' r'] := by
  obtain ⟨v, u, css, h1, h2, h3, h4, h5⟩ := h.st
  have hn : n < D.length := (List.getElem?_eq_some_iff.1 hx).1
  obtain ⟨g, cap, cur, rfl, hbg, hgb, hncp, hcpm, _⟩ := own_blk h2 (by omega)
  obtain ⟨g2, cap2, cur2, rfl, hbg2, hgb2, hncp2, hcpm2, _⟩ := own_blk h3 (by omega)
  have hcs := List.getElem?_eq_getElem (show n < css.length by rw [h4.len]; exact hn)
  obtain ⟨c', e, ht⟩ := h4.in_ n x _ hx hcs
  obtain ⟨A, m, r, A', m', r', e'⟩ := tyU_len ht
  rw [e, e'] at hcs
  have hall : ∀ cs ∈ css, cs.length = 3 := fun cs hc => by
    obtain ⟨k, hk, rfl⟩ := List.mem_iff_getElem.1 hc
    have hl : k < D.length := by have := h4.len; omega
    obtain ⟨c2, e2, ht2⟩ := h4.in_ k _ _ (List.getElem?_eq_getElem hl) (List.getElem?_eq_getElem hk)
    obtain ⟨_, _, _, _, _, _, e3⟩ := tyU_len ht2
    rw [e2, e3]; rfl
  have hk := fun j u hu => own_cell h2 (n * 3 + j) u (flat_get css n j _ u hall hcs hu)
  have hi := own_cell h3 n (.int .i64 (n : Int)) (by unfold ids; rw [List.getElem?_map, List.getElem?_range hn]; rfl)
  rw [e'] at ht
  exact ⟨g, cap, g2, cap2, _, A, m, r, A', m', r', block_cell h1 3, block_cell h1 4, hncp, hcpm, hncp2, hcpm2, hk 0 _ rfl, hk 1 _ rfl, hk 2 _ rfl, hi, ⟨_, _, _, _, _, h1, .inl rfl⟩, ⟨_, _, _, _, _, h1, .inr rfl⟩, ht⟩
set_option maxRecDepth 100000 in
set_option maxHeartbeats 16000000 in
theorem rOne_S {s : ByteArray} {f : Nat} (hf : f + 1 ≤ 12) : rOneAt s (f + 1) 83 := by
  intro B c mb D F i d w hBw hs hDi hd h hb
  have hi := get_lt hb
  have HOK := hide h.ok
  have hra := (rR.refl h).alloc hBw (.cells #[.int .i64 0, .slice none 0 0, .slice none 0 0] 60)
  have HRA := hide hra
  have HBA0 := hide (rBk.new h (.cells #[.int .i64 0, .slice none 0 0, .slice none 0 0] 60))
  have c1 := HRA.out.st.c1
  have hrb2 := (rR.refl HRA.out.st).alloc (Nat.le_trans hBw HRA.out.size) (.cells #[.int .i64 0, .slice none 0 0, .slice none 0 0] 60)
  have HRB := hide (HRA.out.trans hrb2)
  have HBA := hide (HBA0.out.step hrb2)
  have HTA := hide (show rBk c mb ((w.alloc (.cells #[.int .i64 0, .slice none 0 0, .slice none 0 0] 60)).alloc (.cells #[.int .i64 0, .slice none 0 0, .slice none 0 0] 60)) F (w.heap.size + 1) (.cells #[.int .i64 0, .slice none 0 0, .slice none 0 0] 60) from by have := rBk.new HRA.out.st (.cells #[.int .i64 0, .slice none 0 0, .slice none 0 0] 60); rwa [show (w.alloc (.cells #[.int .i64 0, .slice none 0 0, .slice none 0 0] 60)).heap.size = w.heap.size + 1 by simp] at this)
  have hrb : w.heap.size ≤ w.heap.size := Nat.le_refl _
  have htb : w.heap.size ≤ w.heap.size + 1 := by omega
  have hbt : w.heap.size ≠ w.heap.size + 1 := by omega
  have hbt2 : w.heap.size + 1 ≠ w.heap.size := by omega
  have HPK := hide (rPeek B c mb s D F _ (Nat.le_trans hBw HRB.out.size) i hs HRB.out.st)
  rw [pkB_is hb] at HPK
  have HDD := hide hd
  have hdeep : decide ((12 : Int) ≤ d) = false := by simp; omega
  have hdd : ¬ (12 : Int) ≤ d := by omega
  have hdw : wrap64 (d + 1) = d + 1 := (by unfold wrap64; omega)
  clear h hd hra hrb2
  have hwi : wrap64 ((i : Int) + 1) = (i : Int) + 1 := by unfold wrap64; omega
  have HX := hide (dOne_S (f := f) (D := D) hb)
  have HDG := hide (fun (W : World) (hW : B ≤ W.heap.size) (h : rS B c mb s ((i : Int) + 1) (-1) D F W) => rNum_on B c mb s D F W hW (i + 1) hs hi (by rw [show ((i + 1 : Nat) : Int) = (i : Int) + 1 by omega]; exact h))
  have hnf := dNum_from s (i + 1) hi
  clear hb
  cases hn : dNum s (i + 1) with
  | bad e0 =>
    rw [hn] at hnf
    simp only at hnf
    subst hnf
    have HN := hide hn
    have HE := hide (HX.out.trans (dAgain_num (D := D) hn))
    have hx8 : decide (((i : Int) + 1) < 0) = false := by simp; omega
    have hx9 : (0 : Int) ≤ (i : Int) + 1 := by omega
    clear hn HX
    go_enter Tryd.func34, Tryd.ntmps34
    go_wp2_with (first | (go_at_call 33; refine HPK.out.mono ?_; rintro e w1 ⟨rfl, hr⟩; have HR1 := hide (HRB.out.trans hr); have HB1 := hide (HBA.out.step hr); have HT1 := hide (HTA.out.step hr); have c1' := HR1.out.st.c1; have f1' := HR1.out.st.f 1; have hr2 := (rR.refl HR1.out.st).set1 (Nat.le_trans hBw HR1.out.size) ((i : Int) + 1); have HR2 := hide (HR1.out.trans hr2); have HB2 := hide (HB1.out.step hr2); have HT2 := hide (HT1.out.step hr2); clear hr hr2 HPK) | (go_at_call 68; refine (HDG.out _ (Nat.le_trans hBw HR2.out.size) HR2.out.st).mono ?_; intro e w3 hrp; obtain ⟨rfl, _, y, hy, hr⟩ := hrp.of_bad HN.out; have HR3 := hide (HR2.out.trans hr); have HB3 := hide (HB2.out.step hr); have HT3 := hide (HT2.out.step hr); clear hr hrp c1' f1') | (go_at_call 31; refine (rTake_off B c mb s D F _ (Nat.le_trans hBw HR3.out.size) (y : Int) ((i + 1 : Nat) : Int) 95 (by omega) HR3.out.st).mono ?_; rintro e w4 ⟨rfl, hr⟩; have HR4 := hide (HR3.out.trans hr); have HB4 := hide (HB3.out.step hr); have HT4 := hide (HT3.out.step hr); have c2' := hr.st.c2; have x0 := block_cell HB4.out.1 0; have x1 := block_cell HB4.out.1 1; have x2 := block_cell HB4.out.1 2; have fx0 := block_free HB4.out.1 0; have fx1 := block_free HB4.out.1 1; have fx2 := block_free HB4.out.1 2; have y0 := block_cell HT4.out.1 0; have y1 := block_cell HT4.out.1 1; have y2 := block_cell HT4.out.1 2; clear hr))
    obtain ⟨hrz, hbz, hsz⟩ := rFin HR4.out hBw HB4.out hrb (.int .i64 0) (.slice none 0 0) (.slice none 0 0)
    generalize World.setCell _ (⟨w.heap.size, 2, none⟩ : Addr) _ = wz at hrz hbz hsz ⊢
    have r0 := block_cell hbz 0
    have r1 := block_cell hbz 1
    have r2 := block_cell hbz 2
    simp at r0 r1 r2
    ((try simp only [Exit.inBlock, Exit.then]); refine bodyPost_ret (by simp [results, Tryd.results34, go_sem, r0, r1, r2]; try rfl) rfl ?_)
    exact RP.bad HE.out ⟨_, _, _, _, _, _, _, rfl, y, D, F, hrz⟩
  | ok j n =>
    rw [hn] at hnf
    simp only at hnf
    obtain ⟨hij, hj4, hjs⟩ := hnf
    have hn4 := (dNum_lt hn).1
    have HN := hide hn
    clear hn
    by_cases h95 : s.data.toList[j]? = some 95
    · have hjl := get_lt h95
      have H95 := hide h95
      cases hx : D[n]? with
      | none =>
        have HE := hide (HX.out.trans (dAgain_no HN.out h95 hx))
        have hnl : (D.length : Int) ≤ (n : Int) := by have := List.getElem?_eq_none_iff.1 hx; omega
        clear h95 hx HX
        go_enter Tryd.func34, Tryd.ntmps34
        go_wp2_with (first | (go_at_call 33; refine HPK.out.mono ?_; rintro e w1 ⟨rfl, hr⟩; have HR1 := hide (HRB.out.trans hr); have HB1 := hide (HBA.out.step hr); have HT1 := hide (HTA.out.step hr); have c1' := HR1.out.st.c1; have f1' := HR1.out.st.f 1; have hr2 := (rR.refl HR1.out.st).set1 (Nat.le_trans hBw HR1.out.size) ((i : Int) + 1); have HR2 := hide (HR1.out.trans hr2); have HB2 := hide (HB1.out.step hr2); have HT2 := hide (HT1.out.step hr2); clear hr hr2 HPK) | (go_at_call 68; refine (HDG.out _ (Nat.le_trans hBw HR2.out.size) HR2.out.st).mono ?_; intro e w3 hrp; obtain ⟨rfl, hr⟩ := hrp.of_ok HN.out; have HR3 := hide (HR2.out.trans hr); have HB3 := hide (HB2.out.step hr); have HT3 := hide (HT2.out.step hr); clear hr hrp c1' f1') | (go_at_call 31; refine (rTake_ok B c mb s D F _ (Nat.le_trans hBw HR3.out.size) j 95 hs H95.out HR3.out.st).mono ?_; rintro e w4 ⟨rfl, hr⟩; have HR4 := hide (HR3.out.trans hr); have HB4 := hide (HB3.out.step hr); have HT4 := hide (HT3.out.step hr); have c2' := hr.st.c2; have x0 := block_cell HB4.out.1 0; have x1 := block_cell HB4.out.1 1; have x2 := block_cell HB4.out.1 2; have fx0 := block_free HB4.out.1 0; have fx1 := block_free HB4.out.1 1; have fx2 := block_free HB4.out.1 2; have y0 := block_cell HT4.out.1 0; have y1 := block_cell HT4.out.1 1; have y2 := block_cell HT4.out.1 2; obtain ⟨A6, k6, A7, k7, hbx⟩ := hr.st.box; have b3 := block_cell hbx 3; clear hbx; clear hr) | (go_at_call 35; refine (rFail_new B c mb s D F _ (Nat.le_trans hBw HR4.out.size) ((j + 1 : Nat) : Int) i HR4.out.st).mono ?_; rintro e w5 ⟨rfl, hr⟩; have HR5 := hide (HR4.out.trans hr); have HB5 := hide (HB4.out.step hr); have HT5 := hide (HT4.out.step hr); have c2'' := hr.st.c2; clear x0 x1 x2 fx0 fx1 fx2 y0 y1 y2; have x0 := block_cell HB5.out.1 0; have x1 := block_cell HB5.out.1 1; have x2 := block_cell HB5.out.1 2; have fx0 := block_free HB5.out.1 0; have fx1 := block_free HB5.out.1 1; have fx2 := block_free HB5.out.1 2; have y0 := block_cell HT5.out.1 0; have y1 := block_cell HT5.out.1 1; have y2 := block_cell HT5.out.1 2; clear hr))
        obtain ⟨hrz, hbz, hsz⟩ := rFin HR5.out hBw HB5.out hrb (.int .i64 0) (.slice none 0 0) (.slice none 0 0)
        generalize World.setCell _ (⟨w.heap.size, 2, none⟩ : Addr) _ = wz at hrz hbz hsz ⊢
        have r0 := block_cell hbz 0
        have r1 := block_cell hbz 1
        have r2 := block_cell hbz 2
        simp at r0 r1 r2
        ((try simp only [Exit.inBlock, Exit.then]); refine bodyPost_ret (by simp [results, Tryd.results34, go_sem, r0, r1, r2]; try rfl) rfl ?_)
        exact RP.bad HE.out ⟨_, _, _, _, _, _, _, rfl, _, D, F, hrz⟩
      | some x =>
        have HE := hide (HX.out.trans (dAgain_ok HN.out h95 hx))
        have hnl := (List.getElem?_eq_some_iff.1 hx).1
        have hnl' : decide ((D.length : Int) ≤ (n : Int)) = false := by simp; omega
        have HXX := hide hx
        clear h95 hx HX
        go_enter Tryd.func34, Tryd.ntmps34
        go_wp2_with (first | (go_at_call 33; refine HPK.out.mono ?_; rintro e w1 ⟨rfl, hr⟩; have HR1 := hide (HRB.out.trans hr); have HB1 := hide (HBA.out.step hr); have HT1 := hide (HTA.out.step hr); have c1' := HR1.out.st.c1; have f1' := HR1.out.st.f 1; have hr2 := (rR.refl HR1.out.st).set1 (Nat.le_trans hBw HR1.out.size) ((i : Int) + 1); have HR2 := hide (HR1.out.trans hr2); have HB2 := hide (HB1.out.step hr2); have HT2 := hide (HT1.out.step hr2); clear hr hr2 HPK) | (go_at_call 68; refine (HDG.out _ (Nat.le_trans hBw HR2.out.size) HR2.out.st).mono ?_; intro e w3 hrp; obtain ⟨rfl, hr⟩ := hrp.of_ok HN.out; have HR3 := hide (HR2.out.trans hr); have HB3 := hide (HB2.out.step hr); have HT3 := hide (HT2.out.step hr); clear hr hrp c1' f1') | (go_at_call 31; refine (rTake_ok B c mb s D F _ (Nat.le_trans hBw HR3.out.size) j 95 hs H95.out HR3.out.st).mono ?_; rintro e w4 ⟨rfl, hr⟩; have HR4 := hide (HR3.out.trans hr); have HB4 := hide (HB3.out.step hr); have HT4 := hide (HT3.out.step hr); have c2' := hr.st.c2; have x0 := block_cell HB4.out.1 0; have x1 := block_cell HB4.out.1 1; have x2 := block_cell HB4.out.1 2; have fx0 := block_free HB4.out.1 0; have fx1 := block_free HB4.out.1 1; have fx2 := block_free HB4.out.1 2; have y0 := block_cell HT4.out.1 0; have y1 := block_cell HT4.out.1 1; have y2 := block_cell HT4.out.1 2; obtain ⟨g4, k4, g5, k5, nk, A4, m4, r4, A5, m5, r5, b3, b4, hc1, hc2, hc3, hc4, z0, z1, z2, z3, hg4, hg5, hty⟩ := hr.st.node HXX.out; have HTY := hide hty; have hne4 : g4 ≠ w.heap.size := (fun e => HB4.out.2.2.2.1 (e ▸ hg4)); have hne5 : g5 ≠ w.heap.size := (fun e => HB4.out.2.2.2.1 (e ▸ hg5)); clear hty hg4 hg5; clear hr))
        go_region
        obtain ⟨hrz0, hbz0, hsz0⟩ := rFin HR4.out hBw HB4.out hrb (.int .i64 nk) (.slice A4 m4 r4) (.slice A5 m5 r5)
        generalize World.setCell _ (⟨w.heap.size, 2, none⟩ : Addr) _ = wy at hrz0 hbz0 hsz0 ⊢
        have hrz := hrz0.drew hBw
        have hbz : wy.drew.heap[w.heap.size]? = _ := hbz0
        have hsz : StayS F w4 wy.drew := hsz0
        go_wp2_with (fail)
        have r0 := block_cell hbz 0
        have r1 := block_cell hbz 1
        have r2 := block_cell hbz 2
        simp at r0 r1 r2
        ((try simp only [Exit.inBlock, Exit.then]); refine bodyPost_ret (by simp [results, Tryd.results34, go_sem, r0, r1, r2]; try rfl) rfl ?_)
        exact RP.ok HE.out ⟨F, nk, A4, m4, r4, A5, m5, r5, rfl, stay_tyU _ _ _ _ _ _ HTY.out hsz (fun _ h _ => h), hrz⟩
    · have HE := hide (HX.out.trans (dAgain_sep (D := D) HN.out h95))
      have H95 := hide h95
      have hx8 : decide ((j : Int) < 0) = false := by simp
      clear h95 HX
      go_enter Tryd.func34, Tryd.ntmps34
      go_wp2_with (first | (go_at_call 33; refine HPK.out.mono ?_; rintro e w1 ⟨rfl, hr⟩; have HR1 := hide (HRB.out.trans hr); have HB1 := hide (HBA.out.step hr); have HT1 := hide (HTA.out.step hr); have c1' := HR1.out.st.c1; have f1' := HR1.out.st.f 1; have hr2 := (rR.refl HR1.out.st).set1 (Nat.le_trans hBw HR1.out.size) ((i : Int) + 1); have HR2 := hide (HR1.out.trans hr2); have HB2 := hide (HB1.out.step hr2); have HT2 := hide (HT1.out.step hr2); clear hr hr2 HPK) | (go_at_call 68; refine (HDG.out _ (Nat.le_trans hBw HR2.out.size) HR2.out.st).mono ?_; intro e w3 hrp; obtain ⟨rfl, hr⟩ := hrp.of_ok HN.out; have HR3 := hide (HR2.out.trans hr); have HB3 := hide (HB2.out.step hr); have HT3 := hide (HT2.out.step hr); clear hr hrp c1' f1') | (go_at_call 31; refine (rTake_bad B c mb s D F _ (Nat.le_trans hBw HR3.out.size) j 95 hs hjs H95.out HR3.out.st).mono ?_; rintro e w4 ⟨rfl, y, hy, hr⟩; have HR4 := hide (HR3.out.trans hr); have HB4 := hide (HB3.out.step hr); have HT4 := hide (HT3.out.step hr); have c2' := hr.st.c2; have x0 := block_cell HB4.out.1 0; have x1 := block_cell HB4.out.1 1; have x2 := block_cell HB4.out.1 2; have fx0 := block_free HB4.out.1 0; have fx1 := block_free HB4.out.1 1; have fx2 := block_free HB4.out.1 2; have y0 := block_cell HT4.out.1 0; have y1 := block_cell HT4.out.1 1; have y2 := block_cell HT4.out.1 2; clear hr))
      obtain ⟨hrz, hbz, hsz⟩ := rFin HR4.out hBw HB4.out hrb (.int .i64 0) (.slice none 0 0) (.slice none 0 0)
      generalize World.setCell _ (⟨w.heap.size, 2, none⟩ : Addr) _ = wz at hrz hbz hsz ⊢
      have r0 := block_cell hbz 0
      have r1 := block_cell hbz 1
      have r2 := block_cell hbz 2
      simp at r0 r1 r2
      ((try simp only [Exit.inBlock, Exit.then]); refine bodyPost_ret (by simp [results, Tryd.results34, go_sem, r0, r1, r2]; try rfl) rfl ?_)
      exact RP.bad HE.out ⟨_, _, _, _, _, _, _, rfl, y, D, F, hrz⟩
end Go.Proofs.YtecancnojdifaaaDoor

/- Walk of one of the reference's reader of mangled names, none of these (printed by gen_rv.py). -/
namespace Go.Proofs.YtecancnojdifaaaDoor
open Go.RowKit
set_option linter.unusedVariables false
set_option linter.unusedSimpArgs false
theorem idx_none {b : UInt8} (h1 : b ≠ 83) (h2 : b ≠ 78) (h3 : b ≠ 82) (h4 : b ≠ 76) (h5 : b ≠ 70) : Lib.indexByte (⟨#[83, 78, 82, 76, 70]⟩ : ByteArray).data.toList ((b.toNat : Int)).toNat.toUInt8 = -1 := by
  have e : ((b.toNat : Int)).toNat.toUInt8 = b := by
    show UInt8.ofNat b.toNat = b
    exact UInt8.ofNat_toNat
  rw [e]
  have g : ∀ x : UInt8, b ≠ x → (x == b) = false := fun x h => beq_eq_false_iff_ne.2 (fun e => h e.symm)
  show Lib.indexByte [83, 78, 82, 76, 70] b = -1
  simp [Lib.indexByte, g _ h1, g _ h2, g _ h3, g _ h4, g _ h5]
theorem idx_some : ∀ k : Nat, k < 256 → (k = 83 ∨ k = 78 ∨ k = 82 ∨ k = 76 ∨ k = 70) → 0 ≤ Lib.indexByte (⟨#[83, 78, 82, 76, 70]⟩ : ByteArray).data.toList ((k : Int)).toNat.toUInt8 := by decide +kernel
set_option maxRecDepth 100000 in
set_option maxHeartbeats 16000000 in
theorem rOne_no {s : ByteArray} {f : Nat} (hf : f + 1 ≤ 12) (B c mb : Nat) (D : List Nd) (F : Nat → Prop) (i : Nat) (d : Int) (w : World) (hBw : B ≤ w.heap.size) (hs : s.size ≤ 8000) (hi : i ≤ s.size) (hDi : D.length ≤ i) (hd : d = 12 - ((f + 1 : Nat) : Int)) (h : rS B c mb s i (-1) D F w)
    (hn83 : ¬ s.data.toList[i]? = some 83) (hn78 : ¬ s.data.toList[i]? = some 78) (hn82 : ¬ s.data.toList[i]? = some 82) (hn76 : ¬ s.data.toList[i]? = some 76) (hn70 : ¬ s.data.toList[i]? = some 70) :
    Calls Tryd.prog 34 #[.pointer (some ⟨c, 0, none⟩), .int .i64 d] w fun e w' => RP (dOne s (f + 1) D i)
    (fun e0 => ∃ (k : Int) (A : Option Addr) (n q : Nat) (A' : Option Addr) (n' q' : Nat), e = .returned (.tuple #[.agg #[.int .i64 k, .slice A n q, .slice A' n' q'], .int .i64 0]) ∧ ∃ (j : Int) (D' : List Nd) (F' : Nat → Prop), rR B c mb s j e0 D' F F' w w')
    (fun j x => ∃ (F' : Nat → Prop) (k : Int) (A : Option Addr) (n q : Nat) (A' : Option Addr) (n' q' : Nat), e = .returned (.tuple #[.agg #[.int .i64 k, .slice A n q, .slice A' n' q'], .int .i64 x.1]) ∧ TyU w' F' x.2.1 [.int .i64 k, .slice A n q, .slice A' n' q'] ∧ rR B c mb s j (-1) x.2.2 F F' w w') := by
  have HOK := hide h.ok
  have hra := (rR.refl h).alloc hBw (.cells #[.int .i64 0, .slice none 0 0, .slice none 0 0] 60)
  have HRA := hide hra
  have HBA0 := hide (rBk.new h (.cells #[.int .i64 0, .slice none 0 0, .slice none 0 0] 60))
  have c1 := HRA.out.st.c1
  have hrb2 := (rR.refl HRA.out.st).alloc (Nat.le_trans hBw HRA.out.size) (.cells #[.int .i64 0, .slice none 0 0, .slice none 0 0] 60)
  have HRB := hide (HRA.out.trans hrb2)
  have HBA := hide (HBA0.out.step hrb2)
  have HTA := hide (show rBk c mb ((w.alloc (.cells #[.int .i64 0, .slice none 0 0, .slice none 0 0] 60)).alloc (.cells #[.int .i64 0, .slice none 0 0, .slice none 0 0] 60)) F (w.heap.size + 1) (.cells #[.int .i64 0, .slice none 0 0, .slice none 0 0] 60) from by have := rBk.new HRA.out.st (.cells #[.int .i64 0, .slice none 0 0, .slice none 0 0] 60); rwa [show (w.alloc (.cells #[.int .i64 0, .slice none 0 0, .slice none 0 0] 60)).heap.size = w.heap.size + 1 by simp] at this)
  have hrb : w.heap.size ≤ w.heap.size := Nat.le_refl _
  have htb : w.heap.size ≤ w.heap.size + 1 := by omega
  have hbt : w.heap.size ≠ w.heap.size + 1 := by omega
  have hbt2 : w.heap.size + 1 ≠ w.heap.size := by omega
  have HPK := hide (rPeek B c mb s D F _ (Nat.le_trans hBw HRB.out.size) i hs HRB.out.st)
  have HDD := hide hd
  have hdeep : decide ((12 : Int) ≤ d) = false := by simp; omega
  have hdd : ¬ (12 : Int) ≤ d := by omega
  have hdw : wrap64 (d + 1) = d + 1 := (by unfold wrap64; omega)
  clear h hd hra hrb2
  have HE := hide (dOne_no (f := f) (D := D) hn83 hn78 hn82 hn76 hn70)
  have q83 := pk_ne (by decide) hn83
  have q83' : (((pkB s i).toNat : Int) == 83) = false := by simpa using q83
  have q78 := pk_ne (by decide) hn78
  have q78' : (((pkB s i).toNat : Int) == 78) = false := by simpa using q78
  have q82 := pk_ne (by decide) hn82
  have q82' : (((pkB s i).toNat : Int) == 82) = false := by simpa using q82
  have q76 := pk_ne (by decide) hn76
  have q76' : (((pkB s i).toNat : Int) == 76) = false := by simpa using q76
  have q70 := pk_ne (by decide) hn70
  have q70' : (((pkB s i).toNat : Int) == 70) = false := by simpa using q70
  clear hn83 hn78 hn82 hn76 hn70
  go_enter Tryd.func34, Tryd.ntmps34
  go_wp2_with (first | (go_at_call 33; refine HPK.out.mono ?_; rintro e w1 ⟨rfl, hr⟩; have HR1 := hide (HRB.out.trans hr); have HB1 := hide (HBA.out.step hr); have HT1 := hide (HTA.out.step hr); have c1' := HR1.out.st.c1; clear hr HPK) | (go_at_call 35; refine (rFail_new B c mb s D F _ (Nat.le_trans hBw HR1.out.size) i i HR1.out.st).mono ?_; rintro e w6 ⟨rfl, hr⟩; have HR6 := hide (HR1.out.trans hr); have HB6 := hide (HB1.out.step hr); have HT6 := hide (HT1.out.step hr); have c2 := hr.st.c2; have x0 := block_cell HB6.out.1 0; have x1 := block_cell HB6.out.1 1; have x2 := block_cell HB6.out.1 2; have fx0 := block_free HB6.out.1 0; have fx1 := block_free HB6.out.1 1; have fx2 := block_free HB6.out.1 2; have y0 := block_cell HT6.out.1 0; have y1 := block_cell HT6.out.1 1; have y2 := block_cell HT6.out.1 2; clear hr))
  obtain ⟨hrz, hbz, hsz⟩ := rFin HR6.out hBw HB6.out hrb (.int .i64 0) (.slice none 0 0) (.slice none 0 0)
  generalize World.setCell _ (⟨w.heap.size, 2, none⟩ : Addr) _ = wz at hrz hbz hsz ⊢
  have r0 := block_cell hbz 0
  have r1 := block_cell hbz 1
  have r2 := block_cell hbz 2
  simp at r0 r1 r2
  ((try simp only [Exit.inBlock, Exit.then]); refine bodyPost_ret (by simp [results, Tryd.results34, go_sem, r0, r1, r2]; try rfl) rfl ?_)
  exact RP.bad HE.out ⟨_, _, _, _, _, _, _, rfl, i, D, F, hrz⟩
set_option maxRecDepth 100000 in
set_option maxHeartbeats 16000000 in
theorem rOne_zero {s : ByteArray} : rOneOk s 0 := by
  intro B c mb D F i d w hBw hs hi hDi hd h
  have HRA := hide ((rR.refl h).alloc hBw (.cells #[.int .i64 0, .slice none 0 0, .slice none 0 0] 60))
  have HBA := hide (rBk.new h (.cells #[.int .i64 0, .slice none 0 0, .slice none 0 0] 60))
  have hrb : w.heap.size ≤ w.heap.size := Nat.le_refl _
  have c1 := HRA.out.st.c1
  have HP0 := hide (rPeek B c mb s D F _ (Nat.le_trans hBw HRA.out.size) i hs HRA.out.st)
  have hdeep : (12 : Int) ≤ d := by omega
  have HE := hide (show dOne s 0 D i = .bad i from rfl)
  have hi0 : (0 : Int) ≤ (i : Int) := by omega
  clear h hd
  obtain ⟨v, hv⟩ : ∃ v, Lib.indexByte (⟨#[83, 78, 82, 76, 70]⟩ : ByteArray).data.toList (((pkB s i).toNat : Int)).toNat.toUInt8 = v := ⟨_, rfl⟩
  have HIX := hide (fun W => Tryd.strings_IndexByte ⟨#[83, 78, 82, 76, 70]⟩ ((pkB s i).toNat : Int) W)
  rw [hv] at HIX
  by_cases h5 : pkB s i = 83 ∨ pkB s i = 78 ∨ pkB s i = 82 ∨ pkB s i = 76 ∨ pkB s i = 70
  · have hv0 : 0 ≤ v := by
      rw [← hv]
      refine idx_some _ (UInt8.toNat_lt _) ?_
      rcases h5 with h | h | h | h | h <;> rw [h] <;> decide
    have hz : ¬ ((pkB s i).toNat : Int) = 0 := by
      rcases h5 with h | h | h | h | h <;> rw [h] <;> decide
    have hz' : (((pkB s i).toNat : Int) == 0) = false := by simpa using hz
    clear h5 hv
    go_enter Tryd.func34, Tryd.ntmps34
    go_wp2_with (first | (go_at_call 33; refine HP0.out.mono ?_; rintro e w1 ⟨rfl, hr⟩; have HR1 := hide (HRA.out.trans hr); have HB1 := hide (HBA.out.step hr); have HP1 := hide (rPeek B c mb s D F _ (Nat.le_trans hBw HR1.out.size) i hs HR1.out.st); clear hr HP0) | (go_at_call 71; refine (HIX.out _).mono ?_; rintro e w9 ⟨rfl, rfl⟩) | (go_at_call 33; refine HP1.out.mono ?_; rintro e w2 ⟨rfl, hr⟩; have HR2 := hide (HR1.out.trans hr); have HB2 := hide (HB1.out.step hr); have HF2 := hide (rFail_new B c mb s D F _ (Nat.le_trans hBw HR2.out.size) i i HR2.out.st); clear hr HP1) | (go_at_call 35; refine HF2.out.mono ?_; rintro e w3 ⟨rfl, hr⟩; have HR3 := hide (HR2.out.trans hr); have HB3 := hide (HB2.out.step hr); have hra4 := (rR.refl HR3.out.st).alloc (Nat.le_trans hBw HR3.out.size) (.cells #[.int .i64 0, .slice none 0 0, .slice none 0 0] 60); have HR4 := hide (HR3.out.trans hra4); have HB4 := hide (HB3.out.step hra4); have HT4 := hide (rBk.new HR3.out.st (.cells #[.int .i64 0, .slice none 0 0, .slice none 0 0] 60)); clear hra4; have HP4 := hide (rPeek_off B c mb s D F _ (Nat.le_trans hBw HR4.out.size) i i (by omega) HR4.out.st); clear hr HF2) | (go_at_call 33; refine HP4.out.mono ?_; rintro e w5 ⟨rfl, hr⟩; have HR5 := hide (HR4.out.trans hr); have HB5 := hide (HB4.out.step hr); have HT5 := hide (HT4.out.step hr); have HF5 := hide (rFail_old B c mb s D F _ (Nat.le_trans hBw HR5.out.size) i i i (by omega) HR5.out.st); clear hr HP4) | (go_at_call 35; refine HF5.out.mono ?_; rintro e w6 ⟨rfl, hr⟩; have HR6 := hide (HR5.out.trans hr); have HB6 := hide (HB5.out.step hr); have HT6 := hide (HT5.out.step hr); have c2 := hr.st.c2; have x0 := block_cell HB6.out.1 0; have x1 := block_cell HB6.out.1 1; have x2 := block_cell HB6.out.1 2; have fx0 := block_free HB6.out.1 0; have fx1 := block_free HB6.out.1 1; have fx2 := block_free HB6.out.1 2; have y0 := block_cell HT6.out.1 0; have y1 := block_cell HT6.out.1 1; have y2 := block_cell HT6.out.1 2; clear hr HF5))
    obtain ⟨hrz, hbz, hsz⟩ := rFin HR6.out hBw HB6.out hrb (.int .i64 0) (.slice none 0 0) (.slice none 0 0)
    generalize World.setCell _ (⟨w.heap.size, 2, none⟩ : Addr) _ = wz at hrz hbz hsz ⊢
    have r0 := block_cell hbz 0
    have r1 := block_cell hbz 1
    have r2 := block_cell hbz 2
    simp at r0 r1 r2
    ((try simp only [Exit.inBlock, Exit.then]); refine bodyPost_ret (by simp [results, Tryd.results34, go_sem, r0, r1, r2]; try rfl) rfl ?_)
    exact RP.bad HE.out ⟨_, _, _, _, _, _, _, rfl, i, D, F, hrz⟩
  · have hn83 : ¬ pkB s i = 83 := fun h => h5 (.inl h)
    have hn78 : ¬ pkB s i = 78 := fun h => h5 (.inr (.inl h))
    have hn82 : ¬ pkB s i = 82 := fun h => h5 (.inr (.inr (.inl h)))
    have hn76 : ¬ pkB s i = 76 := fun h => h5 (.inr (.inr (.inr (.inl h))))
    have hn70 : ¬ pkB s i = 70 := fun h => h5 (.inr (.inr (.inr (.inr h))))
    have hv0 : v = -1 := by rw [← hv]; exact idx_none hn83 hn78 hn82 hn76 hn70
    subst hv0
    have q83 : ¬ ((pkB s i).toNat : Int) = 83 := u8_neD hn83
    have q83' : (((pkB s i).toNat : Int) == 83) = false := by simpa using q83
    have q78 : ¬ ((pkB s i).toNat : Int) = 78 := u8_neD hn78
    have q78' : (((pkB s i).toNat : Int) == 78) = false := by simpa using q78
    have q82 : ¬ ((pkB s i).toNat : Int) = 82 := u8_neD hn82
    have q82' : (((pkB s i).toNat : Int) == 82) = false := by simpa using q82
    have q76 : ¬ ((pkB s i).toNat : Int) = 76 := u8_neD hn76
    have q76' : (((pkB s i).toNat : Int) == 76) = false := by simpa using q76
    have q70 : ¬ ((pkB s i).toNat : Int) = 70 := u8_neD hn70
    have q70' : (((pkB s i).toNat : Int) == 70) = false := by simpa using q70
    clear h5 hv hn83 hn78 hn82 hn76 hn70
    go_enter Tryd.func34, Tryd.ntmps34
    go_wp2_with (first | (go_at_call 33; refine HP0.out.mono ?_; rintro e w1 ⟨rfl, hr⟩; have HR1 := hide (HRA.out.trans hr); have HB1 := hide (HBA.out.step hr); have hra4 := (rR.refl HR1.out.st).alloc (Nat.le_trans hBw HR1.out.size) (.cells #[.int .i64 0, .slice none 0 0, .slice none 0 0] 60); have HR4 := hide (HR1.out.trans hra4); have HB4 := hide (HB1.out.step hra4); have HT4 := hide (rBk.new HR1.out.st (.cells #[.int .i64 0, .slice none 0 0, .slice none 0 0] 60)); clear hra4; have HP4 := hide (rPeek B c mb s D F _ (Nat.le_trans hBw HR4.out.size) i hs HR4.out.st); clear hr HP0) | (go_at_call 71; refine (HIX.out _).mono ?_; rintro e w9 ⟨rfl, rfl⟩) | (go_at_call 33; refine HP4.out.mono ?_; rintro e w5 ⟨rfl, hr⟩; have HR5 := hide (HR4.out.trans hr); have HB5 := hide (HB4.out.step hr); have HT5 := hide (HT4.out.step hr); have HF5 := hide (rFail_new B c mb s D F _ (Nat.le_trans hBw HR5.out.size) i i HR5.out.st); clear hr HP4) | (go_at_call 35; refine HF5.out.mono ?_; rintro e w6 ⟨rfl, hr⟩; have HR6 := hide (HR5.out.trans hr); have HB6 := hide (HB5.out.step hr); have HT6 := hide (HT5.out.step hr); have c2 := hr.st.c2; have x0 := block_cell HB6.out.1 0; have x1 := block_cell HB6.out.1 1; have x2 := block_cell HB6.out.1 2; have fx0 := block_free HB6.out.1 0; have fx1 := block_free HB6.out.1 1; have fx2 := block_free HB6.out.1 2; have y0 := block_cell HT6.out.1 0; have y1 := block_cell HT6.out.1 1; have y2 := block_cell HT6.out.1 2; clear hr HF5))
    obtain ⟨hrz, hbz, hsz⟩ := rFin HR6.out hBw HB6.out hrb (.int .i64 0) (.slice none 0 0) (.slice none 0 0)
    generalize World.setCell _ (⟨w.heap.size, 2, none⟩ : Addr) _ = wz at hrz hbz hsz ⊢
    have r0 := block_cell hbz 0
    have r1 := block_cell hbz 1
    have r2 := block_cell hbz 2
    simp at r0 r1 r2
    ((try simp only [Exit.inBlock, Exit.then]); refine bodyPost_ret (by simp [results, Tryd.results34, go_sem, r0, r1, r2]; try rfl) rfl ?_)
    exact RP.bad HE.out ⟨_, _, _, _, _, _, _, rfl, i, D, F, hrz⟩
end Go.Proofs.YtecancnojdifaaaDoor

/- Walk of one of the reference's reader of mangled names, all (printed by gen_rv.py). -/
namespace Go.Proofs.YtecancnojdifaaaDoor
open Go.RowKit
set_option linter.unusedVariables false
set_option linter.unusedSimpArgs false
theorem rOne_next {s : ByteArray} {f : Nat} (H : rOneOk s f) (hf : f + 1 ≤ 12) : rOneOk s (f + 1) := by
  have HT := rTys_of H (by omega)
  have HN := rNam_of HT (by omega)
  intro B c mb D F i d w hBw hs hi hDi hd h
  by_cases h83 : s.data.toList[i]? = some 83
  · exact rOne_S hf B c mb D F i d w hBw hs hDi hd h h83
  by_cases h78 : s.data.toList[i]? = some 78
  · exact rOne_N HN hf B c mb D F i d w hBw hs hDi hd h h78
  by_cases h82 : s.data.toList[i]? = some 82
  · exact rOne_R H hf B c mb D F i d w hBw hs hDi hd h h82
  by_cases h76 : s.data.toList[i]? = some 76
  · exact rOne_L H hf B c mb D F i d w hBw hs hDi hd h h76
  by_cases h70 : s.data.toList[i]? = some 70
  · exact rOne_F HT hf B c mb D F i d w hBw hs hDi hd h h70
  exact rOne_no hf B c mb D F i d w hBw hs hi hDi hd h h83 h78 h82 h76 h70
theorem rOne_all (s : ByteArray) : ∀ f, f ≤ 12 → rOneOk s f
  | 0, _ => rOne_zero
  | f + 1, hf => rOne_next (rOne_all s f (by omega)) hf
theorem rTys_all (s : ByteArray) : rTysOk s 12 := rTys_of (rOne_all s 12 (Nat.le_refl _)) (Nat.le_refl _)
theorem rNam_all (s : ByteArray) : rNamOk s 12 := rNam_of (rTys_all s) (Nat.le_refl _)
end Go.Proofs.YtecancnojdifaaaDoor
