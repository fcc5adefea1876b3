/- The law AlertWatches (printed by gen_ag.py). -/
import Derived.Test.YtmakkdadhhpapaaDoorAlRTk
import Derived.Test.YtmakkdadhhpapaaDoorAlLawM
import Derived.Test.YtmakkdadhhpapaaDoorAlNwR
import Derived.Test.YtmakkdadhhpapaaDoorAlSet
import Derived.Test.YtmakkdadhhpapaaDoorRows
import Derived.LaidMore
namespace Go.Proofs.YtmakkdadhhpapaaDoor
open Go.RowKit
set_option linter.unusedVariables false
set_option linter.unusedSimpArgs false
set_option linter.unusedSectionVars false
/-- What stands when j beats are done. -/
def LawInv (W : World) (pw rw_ n : Nat) (R0 : Option Addr) (c : Nat) (l : List Rl) (g : Int) (j : Nat) (w : World) : Prop :=
  ∃ (cr m mc sn sc kc sc2 tc m2 mc2 : Nat) (R A SA A2 KA SB ST : Option Addr) (ws : List Wd) (cs cs2 : List Ct) (ks : List Bool) (sl : List Sil) (wat : Int),
    PM W.heap.size pw n m sn cr mc sc R A SA ws cs sl wat g w ∧ RM W.heap.size rw_ n m2 sn c mc2 kc sc2 tc R0 A2 KA SB ST l (ws.map Wd.stt) cs2 ks sl wat w ∧ Pl ws cs cs2 ks wat g j ∧ (ws.map (·.r) = l ∧ sl.length ≤ 50) ∧ Below W.heap.size W w
theorem tkErr_ok {t wat : Int} (h : tkErr t wat = 0) : momB t = true ∧ ¬ t < wat := by
  unfold tkErr at h
  split at h
  · cases h
  · rename_i hm
    split at h
    · cases h
    · rename_i hlt
      exact ⟨by simpa using hm, hlt⟩
namespace alertWatches
set_option maxRecDepth 100000 in
set_option maxHeartbeats 16000000 in
theorem walk {H : Type} {enc : TypeId × Value → H} {d0 d2 : DataW H} {p0 p2 : List MemPlace} {base : Nat} {W : World}
    (v0 : Value) (k0 : DataW.Trod enc Tryd.prog W 0 (fun _ => true) true 22 v0 d0 p0) (ok0 : Value.okWide Tryd.prog W .any base 22 v0)
    (z0 : ∀ el sp, d0 = .slice el sp → (el.length + sp.length) * Tryd.prog.bytesOf 55 ≤ reachBytes)
    (a1 : Int) (w1 : (Lit.int .i64 a1).wf = true)
    (v2 : Value) (k2 : DataW.Trod enc Tryd.prog W 0 (fun _ => true) true 23 v2 d2 p2) (ok2 : Value.okWide Tryd.prog W .any base 23 v2)
    (z2 : ∀ el sp, d2 = .slice el sp → (el.length + sp.length) * Tryd.prog.bytesOf 34 ≤ reachBytes)
    (hL : laidMetH Tryd.prog Rows.alertWatchesRow.laid W) :
    Calls Tryd.prog 3 #[v0, .int .i64 a1, v2] W fun e w' => e = .returned (.bool true) ∧ Below W.heap.size W w' := by
  obtain ⟨A0, n, c, l, rfl, hl, hnc, hcm, hf⟩ := open_rules ok0 k0
  obtain ⟨A9, n9, c9, bl, rfl, hbl, hnc9, hcm9, hbo⟩ := open_beats ok2 k2
  clear k0 ok0 z0 k2 ok2 z2 hL
  have hnm : n ≤ maxLen := Nat.le_trans hnc hcm
  by_cases hE : rlErr l = 0
  · obtain ⟨hl50, hlo⟩ := rl_ok hE
    have hn : n ≤ 1000 := by rw [← hl.len]; omega
    cases hm : momB a1
    · have C1 := hide (nNewWatch_mom n c A0 l a1 W hnm hl hf hE hm)
      have CM := hide (show ∀ W, Calls Tryd.prog 6 #[.int .i64 a1] W fun e w' => e = .returned (.bool false) ∧ W = w' from fun W => hm ▸ Moment_any a1 W)
      have HSL := hide hl
      clear hbl hbo hl hm
      go_enter Tryd.func3, Tryd.ntmps3
      go_wp2_with (first | (go_at_call 4; refine C1.out.mono ?_; rintro e w2 ⟨rfl, hw2⟩) | (go_at_call 5; refine (hE ▸ AlertRulesError_any A0 n c l w2 hnm hnc (Sl.up HSL.out hw2) hf).mono ?_; rintro e w3 ⟨rfl, hw3⟩; have hB3 := hw2.trans (hw3.mono hw2.size)) | (go_at_call 6; refine (CM.out _).mono ?_; rintro e w' ⟨rfl, rfl⟩))
      go_ret
      exact ⟨rfl, hB3⟩
    · have C1 := hide (nNewWatch_ok n c A0 l a1 W hn hl hf hE hm)
      have CM := hide (show ∀ W, Calls Tryd.prog 6 #[.int .i64 a1] W fun e w' => e = .returned (.bool true) ∧ W = w' from fun W => hm ▸ Moment_any a1 W)
      have HSL := hide hl
      have HBL9 := hide hbl
      have HBO := hide hbo
      have h10 : 0 ≤ a1 := by unfold momB outsideB at hm; simp at hm; omega
      have hm1 : a1 ≤ 3155759999 := by unfold momB outsideB at hm; simp at hm; omega
      have hln := hl.len
      clear hbl hbo hl hm
      go_enter Tryd.func3, Tryd.ntmps3
      go_wp2_with (fail)
      refine C1.out.mono ?_
      rintro e w2 ⟨pw, vr, hpw, rfl, hb2, ho2, hw2⟩
      obtain ⟨R1, cr1, rfl⟩ := own_sl ho2
      have hHP0 : PM W.heap.size pw n 0 0 cr1 0 0 R1 none none (l.map (wd0 a1)) [] [] a1 (lng l) w2 := ⟨hb2, World.ownsRow.mono ho2 (by omega), World.ownsRow_nil _ _ _ _, World.ownsRow_nil _ _ _ _, hpw, by rw [List.length_map]; exact hln, rfl, rfl⟩
      have HP0 := hide hHP0
      have HW2 := hide hw2
      clear hb2 ho2 hHP0 hw2
      go_wp2_with (first | (go_at_call 5; refine (hE ▸ AlertRulesError_any A0 n c l w2 hnm hnc (Sl.up HSL.out HW2.out) hf).mono ?_; rintro e w3 ⟨rfl, hw3⟩; have HB3 := hide (HW2.out.trans (hw3.mono HW2.out.size)); have HP3 := hide (HP0.out.below HW2.out.size hw3); clear hw3) | (go_at_call 6; refine (CM.out _).mono ?_; rintro e w' ⟨rfl, rfl⟩) | (go_at_call 7; refine (rNewWatch_any n c A0 l a1 _ hn (Sl.up HSL.out HB3.out)).mono ?_; rintro e w4 ⟨v4, rfl, hb4, ho4, hw4⟩; obtain ⟨ST, tc, rfl⟩ := own_sl ho4; have HB4 := hide (HB3.out.trans (hw4.mono HB3.out.size)); have HP4 := hide (HP3.out.below HB3.out.size hw4); have HR4 := hide (show RM W.heap.size w3.heap.size n 0 0 c 0 0 0 tc A0 none none none ST l ((l.map (wd0 a1)).map Wd.stt) [] [] [] a1 w4 from ⟨hb4, (HSL.out.below HB4.out), World.ownsRow.mono (by rw [List.map_map]; exact ho4) (by have := HB3.out.size; omega), World.ownsRow_nil _ _ _ _, World.ownsRow_nil _ _ _ _, World.ownsRow_nil _ _ _ _, HB3.out.size, by rw [List.length_map, List.length_map]; exact hln, rfl, rfl, rfl⟩); clear hb4 ho4 hw4))
      have HPL := hide (show Pl (l.map (wd0 a1)) [] [] [] a1 (lng l) 0 from ⟨by rw [List.map_map]; exact congrArg lng (by simp [wd0, Function.comp_def]), rfl, rfl, fun i c hc _ => by simp at hc, fun c hc => by simp at hc, Nat.le_refl _, fun x hx => by
        obtain ⟨y, hy, rfl⟩ := List.mem_map.1 hx
        have := hlo y hy
        exact ⟨this.1, this.2.1, this.2.2.1, this.2.2.2, by simp [wd0], by simp [wd0], h10, Int.le_refl _⟩, h10⟩)
      have HWR := hide (show (l.map (wd0 a1)).map (·.r) = l by rw [List.map_map]; simp [wd0, Function.comp_def])
      obtain ⟨kk, hkk⟩ : ∃ kk : Nat, min n9 80 = kk := ⟨_, rfl⟩
      have hk80 : kk ≤ 80 := by omega
      have hk9 : kk ≤ n9 := by omega
      obtain ⟨rw_, hrw⟩ : ∃ q, w3.heap.size = q := ⟨_, rfl⟩
      rw [hrw] at HR4 ⊢
      clear HP0 HP3 HB3 HW2 C1 CM hrw
      go_wp2_with (fail)
      go_loopw [57] (fun i wr => ∃ (j : Nat), j ≤ kk ∧ i = .int .i64 j ∧ LawInv W pw rw_ n A0 c l (lng l) j wr) (fun i _ => kk - (intOf i).toNat)
      case atStart => exact ⟨0, Nat.zero_le _, rfl, ⟨cr1, 0, 0, 0, 0, 0, 0, tc, 0, 0, R1, none, none, none, none, none, ST, _, [], [], [], [], a1, HP4.out, HR4.out, HPL.out, ⟨HWR.out, by simp⟩, HB4.out⟩⟩
      case round =>
        obtain ⟨j, hj, rfl, hI⟩ := hrel
        by_cases hlt : j < kk
        · obtain ⟨cr, m, mc, sn, sc, kc, sc2, tc, m2, mc2, R, A, SA, A2, KA, SB, ST, ws, cs, cs2, ks, sl, wat, hP, hR, hLP, ⟨hWR, hsl50⟩, hBW⟩ := hI
          obtain ⟨bb, oo, ⟨wt, at_, bn, ky, sa, sk, scap, xs⟩, rfl, hbb, hx, hc⟩ := (HBL9.out.below hBW).at_ (show j < n9 by omega)
          have d0 : wr.cell? ⟨bb, oo + j * 5, none⟩ = some (.int .i64 wt) := by simpa using hc 0 _ rfl
          have d1 : wr.cell? ⟨bb, oo + j * 5 + 1, none⟩ = some (.int .i64 at_) := hc 1 _ rfl
          have d2 : wr.cell? ⟨bb, oo + j * 5 + 2, none⟩ = some (.int .i64 bn) := hc 2 _ rfl
          have d3 : wr.cell? ⟨bb, oo + j * 5 + 3, none⟩ = some (.string ky) := hc 3 _ rfl
          have d4 : wr.cell? ⟨bb, oo + j * 5 + 4, none⟩ = some (.slice sa sk scap) := hc 4 _ rfl
          obtain ⟨hky, hskm, hskc, hxs0, hfit⟩ := HBO.out _ (List.mem_of_getElem? hx)
          simp only at hky hskm hskc hxs0 hfit
          have hxl := hxs0.len
          have hbx : Below wr.heap.size wr (wr.alloc (.cells #[.int .i64 wt, .int .i64 at_, .int .i64 bn, .string ky, .slice sa sk scap] 34)) := (Below.refl _ _).alloc (Nat.le_refl _) _
          have HX := hide (BtB.mk (q := wr.heap.size) (heap_alloc_new wr (.cells #[.int .i64 wt, .int .i64 at_, .int .i64 bn, .string ky, .slice sa sk scap] 34)))
          have HP := hide (hP.below hBW.size hbx)
          have HR := hide (hR.below hBW.size hbx)
          have HBL := hide (hBW.trans (hbx.mono hBW.size))
          have HZB := hide HBL.out.size
          have HL := hide hLP
          have HWR := hide (show ws.map (·.r) = l ∧ sl.length ≤ 50 from ⟨hWR, hsl50⟩)
          have hxs := sl_args hxs0 HBL.out
          have hmk : m ≤ 1000 := by have := hLP.le; have := hP.hm; omega
          have hmk2 : m2 ≤ 1000 := by have := hLP.hq; have := hR.hm; omega
          have hsn : sn ≤ 1000 := by have := hP.hs; omega
          clear hc hx hP hR hLP hBW hWR hbx
          by_cases hw0 : wt = 0
          · subst hw0
            obtain ⟨E, hEv⟩ : ∃ E, cntErr ky at_ bn wat = E := ⟨_, rfl⟩
            have HE := hide hEv
            by_cases hE0 : E = 0
            · subst hE0
              clear hEv
              go_wp2_with (fail)
              obtain ⟨w1, hw1⟩ : ∃ w1, wr.alloc (.cells #[.int .i64 0, .int .i64 at_, .int .i64 bn, .string ky, .slice sa sk scap] 34) = w1 := ⟨_, rfl⟩
              rw [hw1] at HP HR HBL HZB HX hxs ⊢
              clear hw1 d0 d1 d2 d3 d4
              refine wp_region_chain (fun W => BtX wr.heap.size 0 at_ bn ky sa sk scap W) 15 (by as_aux_lemma => kernel_rfl) (N := 18) (by as_aux_lemma => kernel_rfl) ?_; intro hsh
              have HS : BtX wr.heap.size 0 at_ bn ky sa sk scap w1.drew := HX.out.drew.x
              refine wpAnyC_take0 (i := 0) (k := 15) (v := ?_) (d := some 74) rfl (by rfl) (by as_aux_lemma => kernel_rfl) (by as_aux_lemma => kernel_rfl) (by as_aux_lemma => kernel_rfl) hsh (by decide) (by intro _ _ _ h; exact h) (by assumption) (Or.inl ⟨by rfl, ?hy⟩) ?_; (case hy => (intro W _; go_simp; (try with_reducible rfl))); clear hsh; intro hsh
              refine wpAnyC_take0 (i := 1) (k := 15) (v := ?_) (d := some 75) rfl (by rfl) (by as_aux_lemma => kernel_rfl) (by as_aux_lemma => kernel_rfl) (by as_aux_lemma => kernel_rfl) hsh (by decide) (by intro _ _ _ h; exact h) (by assumption) (Or.inl ⟨by rfl, ?hy⟩) ?_; (case hy => (intro W _; go_simp; (try with_reducible rfl))); clear hsh; intro hsh
              refine wpAnyC_take (i := 2) (k := 15) (f := 40) (v := ?_) (d := some 76) rfl (by rfl) (by as_aux_lemma => kernel_rfl) (by as_aux_lemma => kernel_rfl) (by as_aux_lemma => kernel_rfl) hsh (by decide) (by as_aux_lemma => kernel_rfl) (by intro _ _ _ h; exact h) (by assumption) (Or.inl ⟨by rfl, ?hy⟩) ?_; (case hy => (rintro W ⟨b0, b1, b2, b3, b4⟩; go_simp; (try with_reducible rfl))); clear hsh; intro hsh
              refine wpAnyC_take0 (i := 3) (k := 15) (v := ?_) (d := some 77) rfl (by rfl) (by as_aux_lemma => kernel_rfl) (by as_aux_lemma => kernel_rfl) (by as_aux_lemma => kernel_rfl) hsh (by decide) (by intro _ _ _ h; exact h) (by assumption) (Or.inl ⟨by rfl, ?hy⟩) ?_; (case hy => (intro W _; go_simp; (try with_reducible rfl))); clear hsh; intro hsh
              refine wpAnyC_take (i := 4) (k := 15) (f := 40) (v := ?_) (d := some 78) rfl (by rfl) (by as_aux_lemma => kernel_rfl) (by as_aux_lemma => kernel_rfl) (by as_aux_lemma => kernel_rfl) hsh (by decide) (by as_aux_lemma => kernel_rfl) (by intro _ _ _ h; exact h) (by assumption) (Or.inl ⟨by rfl, ?hy⟩) ?_; (case hy => (rintro W ⟨b0, b1, b2, b3, b4⟩; go_simp; (try with_reducible rfl))); clear hsh; intro hsh
              refine wpAnyC_take0 (i := 5) (k := 15) (v := ?_) (d := some 79) rfl (by rfl) (by as_aux_lemma => kernel_rfl) (by as_aux_lemma => kernel_rfl) (by as_aux_lemma => kernel_rfl) hsh (by decide) (by intro _ _ _ h; exact h) (by assumption) (Or.inl ⟨by rfl, ?hy⟩) ?_; (case hy => (intro W _; go_simp; (try with_reducible rfl))); clear hsh; intro hsh
              refine wpAnyC_take (i := 6) (k := 15) (f := 40) (v := ?_) (d := some 80) rfl (by rfl) (by as_aux_lemma => kernel_rfl) (by as_aux_lemma => kernel_rfl) (by as_aux_lemma => kernel_rfl) hsh (by decide) (by as_aux_lemma => kernel_rfl) (by intro _ _ _ h; exact h) (by assumption) (Or.inl ⟨by rfl, ?hy⟩) ?_; (case hy => (rintro W ⟨b0, b1, b2, b3, b4⟩; go_simp; (try with_reducible rfl))); clear hsh; intro hsh
              refine wpAnyC_take0 (i := 8) (k := 15) (v := ?_) (d := some 82) rfl (by rfl) (by as_aux_lemma => kernel_rfl) (by as_aux_lemma => kernel_rfl) (by as_aux_lemma => kernel_rfl) hsh (by decide) (by intro _ _ _ h; exact h) (by assumption) (Or.inl ⟨by rfl, ?hy⟩) ?_; (case hy => (intro W _; go_simp; (try with_reducible rfl))); clear hsh; intro hsh
              refine wpAnyC_take0 (i := 9) (k := 15) (v := ?_) (d := some 83) rfl (by rfl) (by as_aux_lemma => kernel_rfl) (by as_aux_lemma => kernel_rfl) (by as_aux_lemma => kernel_rfl) hsh (by decide) (by intro _ _ _ h; exact h) (by assumption) (Or.inl ⟨by rfl, ?hy⟩) ?_; (case hy => (intro W _; go_simp; (try with_reducible rfl))); clear hsh; intro hsh
              refine wpAnyC_take (i := 10) (k := 15) (f := 40) (v := ?_) (d := some 84) rfl (by rfl) (by as_aux_lemma => kernel_rfl) (by as_aux_lemma => kernel_rfl) (by as_aux_lemma => kernel_rfl) hsh (by decide) (by as_aux_lemma => kernel_rfl) (by intro _ _ _ h; exact h) (by assumption) (Or.inl ⟨by rfl, ?hy⟩) ?_; (case hy => (rintro W ⟨b0, b1, b2, b3, b4⟩; go_simp; (try with_reducible rfl))); clear hsh; intro hsh
              refine wpAnyC_take0 (i := 11) (k := 15) (v := ?_) (d := some 85) rfl (by rfl) (by as_aux_lemma => kernel_rfl) (by as_aux_lemma => kernel_rfl) (by as_aux_lemma => kernel_rfl) hsh (by decide) (by intro _ _ _ h; exact h) (by assumption) (Or.inl ⟨by rfl, ?hy⟩) ?_; (case hy => (intro W _; go_simp; (try with_reducible rfl))); clear hsh; intro hsh
              refine wpAnyC_take (i := 12) (k := 15) (f := 40) (v := ?_) (d := some 86) rfl (by rfl) (by as_aux_lemma => kernel_rfl) (by as_aux_lemma => kernel_rfl) (by as_aux_lemma => kernel_rfl) hsh (by decide) (by as_aux_lemma => kernel_rfl) (by intro _ _ _ h; exact h) (by assumption) (Or.inl ⟨by rfl, ?hy⟩) ?_; (case hy => (rintro W ⟨b0, b1, b2, b3, b4⟩; go_simp; (try with_reducible rfl))); clear hsh; intro hsh
              refine wpAnyC_take0 (i := 13) (k := 15) (v := ?_) (d := some 87) rfl (by rfl) (by as_aux_lemma => kernel_rfl) (by as_aux_lemma => kernel_rfl) (by as_aux_lemma => kernel_rfl) hsh (by decide) (by intro _ _ _ h; exact h) (by assumption) (Or.inl ⟨by rfl, ?hy⟩) ?_; (case hy => (intro W _; go_simp; (try with_reducible rfl))); clear hsh; intro hsh
              refine wpAnyC_take (i := 14) (k := 15) (f := 40) (v := ?_) (d := some 88) rfl (by rfl) (by as_aux_lemma => kernel_rfl) (by as_aux_lemma => kernel_rfl) (by as_aux_lemma => kernel_rfl) hsh (by decide) (by as_aux_lemma => kernel_rfl) (by intro _ _ _ h; exact h) (by assumption) (Or.inl ⟨by rfl, ?hy⟩) ?_; (case hy => (rintro W ⟨b0, b1, b2, b3, b4⟩; go_simp; (try with_reducible rfl))); clear hsh; intro hsh
              refine wpAnyC_ready (rs := [7]) (by as_aux_lemma => kernel_rfl) (by simp) ?_; refine AllC.cons (i := 7) rfl (by as_aux_lemma => kernel_rfl) hsh (fun K hK => ?_) AllC.nil
              go_simp
              go_at_call 8
              refine (nCount_ok pw W.heap.size W.heap.size _ _ m _ ky at_ bn wat _ hky hmk HP.out.drew.box rfl rfl HP.out.drew.crow HP.out.hB (Nat.le_refl _) (by simpa using HZB.out) HE.out).mono ?_
              rintro e w2 ⟨v2, rfl, hb2, ho2, hk2⟩
              obtain ⟨a2, mc_2, rfl⟩ := own_sl ho2
              have hkt := KeepT.of_keep (T := TN) hk2 (fun k cs ty fr hh hp => by rcases hp with rfl | hp; (rw [box_type HP.out.drew.box hh]; decide); (rw [own_type HP.out.drew.crow hp hh]; decide))
              have HR2 := hide (HR.out.drew.keep hkt)
              have HX2 := hide (HX.out.drew.keep hkt (by decide))
              have HP2 := hide (PM.count HP.out.drew hk2 hb2 ho2)
              have HBL2 := hide (HBL.out.drew.trans hkt.be)
              have HZB2 := hide (Nat.le_trans (show W.heap.size ≤ w1.drew.heap.size from HZB.out) hkt.be.size)
              clear hkt hk2 hb2 ho2
              try go_simp
              refine hK _ _ (fun _ => HX2.out.x) ?_
              clear hK K hsh
              intro hsh
              refine wpAnyC_ready (rs := [15]) (by as_aux_lemma => kernel_rfl) (by simp) ?_; refine AllC.cons (i := 15) rfl (by as_aux_lemma => kernel_rfl) hsh (fun K hK => ?_) AllC.nil
              go_simp
              go_at_call 9
              refine (rCount_ok rw_ W.heap.size W.heap.size _ A2 KA m2 mc2 kc _ _ ks ky at_ bn wat w2 hky hmk2 HR2.out.box rfl rfl rfl (cb_sl HR2.out.hk HR2.out.krow) HR2.out.crow HR2.out.krow (Nat.le_refl _) HR2.out.hB HZB2.out HE.out).mono ?_
              rintro e w3 ⟨v3, v4, rfl, hb3, ho3, ho4, hk3⟩
              obtain ⟨a3, mc_3, rfl⟩ := own_sl ho3
              obtain ⟨a4, mc_4, rfl⟩ := own_sl ho4
              have hkt := KeepT.of_keep (T := TR) hk3 (fun k cs ty fr hh hp => by rcases hp with rfl | hp | hp; (rw [box_type HR2.out.box hh]; decide); (rw [own_type HR2.out.crow hp hh]; decide); (rw [own_type HR2.out.krow hp hh]; decide))
              have HP3 := hide (HP2.out.keep hkt)
              have HR3 := hide (RM.count HR2.out hk3 hb3 ho3 ho4)
              have HBL3 := hide (HBL2.out.trans hkt.be)
              have HZB3 := hide (Nat.le_trans HZB2.out hkt.be.size)
              clear hkt hk3 hb3 ho3 ho4
              try go_simp
              refine hK _ _ (fun h => absurd (h.symm.trans (by kernel_rfl)) (show ¬ (false = true) by decide)) ?_
              clear hK K hsh
              intro hsh
              refine wpAnyC_take1 (i := 16) (k := 15) (v := ?_) (d := some 90) rfl (by rfl) (by as_aux_lemma => kernel_rfl) (by as_aux_lemma => kernel_rfl) (by as_aux_lemma => kernel_rfl) hsh (by as_aux_lemma => kernel_rfl) (by decide) (by intro _ _ _ h; exact h) (Or.inl ⟨by rfl, ?hy⟩) ?_; (case hy => (intro W _; go_simp; (try with_reducible rfl))); clear hsh; intro hsh
              refine wpAnyC_take1 (i := 17) (k := 15) (v := ?_) (d := some 13) rfl (by rfl) (by as_aux_lemma => kernel_rfl) (by as_aux_lemma => kernel_rfl) (by as_aux_lemma => kernel_rfl) hsh (by as_aux_lemma => kernel_rfl) (by decide) (by intro _ _ _ h; exact h) (Or.inl ⟨by rfl, ?hy⟩) ?_; (case hy => (intro W _; go_simp; (try with_reducible rfl))); clear hsh; intro hsh
              refine wpAnyC_done (by as_aux_lemma => kernel_rfl) ?_; clear hsh
              have HL := hide (HL.out.count hky HE.out)
              clear HP HR HBL HZB HP2 HR2 HBL2 HZB2 HX2 HS HX
              have HP := HP3
              have HR := HR3
              have HBL := HBL3
              have HZB := HZB3
              clear HP3 HR3 HBL3 HZB3
              obtain ⟨cs_, hcs⟩ : ∃ x, cs ++ [(⟨ky, at_, bn⟩ : Ct)] = x := ⟨_, rfl⟩
              obtain ⟨cs2_, hcs2⟩ : ∃ x, cs2 ++ [(⟨ky, at_, bn⟩ : Ct)] = x := ⟨_, rfl⟩
              obtain ⟨ks_, hks⟩ : ∃ x, ks ++ [true] = x := ⟨_, rfl⟩
              rw [hcs] at HP HL
              rw [hcs2] at HR HL
              rw [hks] at HR HL
              clear hcs hcs2 hks
              have hnm : n ≤ maxLen := by unfold maxLen; omega
              have hmq := HL.out.le
              have hmq2 := HL.out.hq
              have hm2 : (m2 + 1) ≤ 100000 := by have := HR.out.hm; omega
              have HKN := hide (show keptN ks_ = m + 1 by rw [← HL.out.len]; exact HP.out.hm)
              go_wp2_with (first
        | (go_at_call 16; refine (Status_any pw n cr R ws _ hn (block_cell HP.out.box 0) (wd_sl HP.out.hn HP.out.rrow)).mono ?_; rintro e wa ⟨va, rfl, hoa, hba⟩; obtain ⟨aa, ca, rfl⟩ := own_sl hoa; have HP1 := hide (HP.out.below HZB.out hba); have HR1 := hide (HR.out.below HZB.out hba); have HZB1 := hide (Nat.le_trans HZB.out hba.size); have HBL1 := hide (HBL.out.trans (hba.mono HZB.out)); have HOA := hide hoa; clear hba hoa)
        | (go_at_call 17; refine (rStatus_any rw_ n tc ST _ (block_cell HR1.out.box 5)).mono ?_; rintro e w' ⟨rfl, rfl⟩)
        | (go_at_call 15; refine (Equal_stts aa n ca ST tc (ws.map Wd.stt) _ hnm (st_sl (by rw [List.length_map]; exact HP.out.hn) HOA.out) (st_sl HR1.out.hn HR1.out.strow)).mono ?_; rintro e wc ⟨rfl, hbc⟩; have HP2 := hide (HP1.out.below HZB1.out hbc); have HR2 := hide (HR1.out.below HZB1.out hbc); have HBL2 := hide (HBL1.out.trans (hbc.mono HZB1.out)); clear hbc)
        | (go_at_call 18; refine (nKept_any pw (m + 1) mc_2 a2 _ (block_cell HP2.out.box 1)).mono ?_; rintro e w' ⟨rfl, rfl⟩)
        | (go_at_call 19; refine (HKN.out ▸ rKept_any rw_ (m2 + 1) mc_4 a4 ks_ _ hm2 (block_cell HR2.out.box 3) (cb_sl HR2.out.hk HR2.out.krow)).mono ?_; rintro e w' ⟨rfl, rfl⟩))
              go_roundw
              case rel => exact ⟨j + 1, by omega, by go_num, ⟨cr, m + 1, mc_2, sn, sc, mc_4, sc2, tc, m2 + 1, mc_3, R, a2, SA, a3, a4, SB, ST, ws, cs_, cs2_, ks_, sl, at_, HP2.out, HR2.out, HL.out, HWR.out, HBL2.out⟩⟩
              case measure => simp [intOf]; omega
            · have hE1 : (E == 0) = false := by simpa using hE0
              clear hEv
              go_wp2_with (fail)
              obtain ⟨w1, hw1⟩ : ∃ w1, wr.alloc (.cells #[.int .i64 0, .int .i64 at_, .int .i64 bn, .string ky, .slice sa sk scap] 34) = w1 := ⟨_, rfl⟩
              rw [hw1] at HP HR HBL HZB HX hxs ⊢
              clear hw1 d0 d1 d2 d3 d4
              refine wp_region_chain (fun W => BtX wr.heap.size 0 at_ bn ky sa sk scap W) 15 (by as_aux_lemma => kernel_rfl) (N := 18) (by as_aux_lemma => kernel_rfl) ?_; intro hsh
              have HS : BtX wr.heap.size 0 at_ bn ky sa sk scap w1.drew := HX.out.drew.x
              refine wpAnyC_take0 (i := 0) (k := 15) (v := ?_) (d := some 74) rfl (by rfl) (by as_aux_lemma => kernel_rfl) (by as_aux_lemma => kernel_rfl) (by as_aux_lemma => kernel_rfl) hsh (by decide) (by intro _ _ _ h; exact h) (by assumption) (Or.inl ⟨by rfl, ?hy⟩) ?_; (case hy => (intro W _; go_simp; (try with_reducible rfl))); clear hsh; intro hsh
              refine wpAnyC_take0 (i := 1) (k := 15) (v := ?_) (d := some 75) rfl (by rfl) (by as_aux_lemma => kernel_rfl) (by as_aux_lemma => kernel_rfl) (by as_aux_lemma => kernel_rfl) hsh (by decide) (by intro _ _ _ h; exact h) (by assumption) (Or.inl ⟨by rfl, ?hy⟩) ?_; (case hy => (intro W _; go_simp; (try with_reducible rfl))); clear hsh; intro hsh
              refine wpAnyC_take (i := 2) (k := 15) (f := 40) (v := ?_) (d := some 76) rfl (by rfl) (by as_aux_lemma => kernel_rfl) (by as_aux_lemma => kernel_rfl) (by as_aux_lemma => kernel_rfl) hsh (by decide) (by as_aux_lemma => kernel_rfl) (by intro _ _ _ h; exact h) (by assumption) (Or.inl ⟨by rfl, ?hy⟩) ?_; (case hy => (rintro W ⟨b0, b1, b2, b3, b4⟩; go_simp; (try with_reducible rfl))); clear hsh; intro hsh
              refine wpAnyC_take0 (i := 3) (k := 15) (v := ?_) (d := some 77) rfl (by rfl) (by as_aux_lemma => kernel_rfl) (by as_aux_lemma => kernel_rfl) (by as_aux_lemma => kernel_rfl) hsh (by decide) (by intro _ _ _ h; exact h) (by assumption) (Or.inl ⟨by rfl, ?hy⟩) ?_; (case hy => (intro W _; go_simp; (try with_reducible rfl))); clear hsh; intro hsh
              refine wpAnyC_take (i := 4) (k := 15) (f := 40) (v := ?_) (d := some 78) rfl (by rfl) (by as_aux_lemma => kernel_rfl) (by as_aux_lemma => kernel_rfl) (by as_aux_lemma => kernel_rfl) hsh (by decide) (by as_aux_lemma => kernel_rfl) (by intro _ _ _ h; exact h) (by assumption) (Or.inl ⟨by rfl, ?hy⟩) ?_; (case hy => (rintro W ⟨b0, b1, b2, b3, b4⟩; go_simp; (try with_reducible rfl))); clear hsh; intro hsh
              refine wpAnyC_take0 (i := 5) (k := 15) (v := ?_) (d := some 79) rfl (by rfl) (by as_aux_lemma => kernel_rfl) (by as_aux_lemma => kernel_rfl) (by as_aux_lemma => kernel_rfl) hsh (by decide) (by intro _ _ _ h; exact h) (by assumption) (Or.inl ⟨by rfl, ?hy⟩) ?_; (case hy => (intro W _; go_simp; (try with_reducible rfl))); clear hsh; intro hsh
              refine wpAnyC_take (i := 6) (k := 15) (f := 40) (v := ?_) (d := some 80) rfl (by rfl) (by as_aux_lemma => kernel_rfl) (by as_aux_lemma => kernel_rfl) (by as_aux_lemma => kernel_rfl) hsh (by decide) (by as_aux_lemma => kernel_rfl) (by intro _ _ _ h; exact h) (by assumption) (Or.inl ⟨by rfl, ?hy⟩) ?_; (case hy => (rintro W ⟨b0, b1, b2, b3, b4⟩; go_simp; (try with_reducible rfl))); clear hsh; intro hsh
              refine wpAnyC_take0 (i := 8) (k := 15) (v := ?_) (d := some 82) rfl (by rfl) (by as_aux_lemma => kernel_rfl) (by as_aux_lemma => kernel_rfl) (by as_aux_lemma => kernel_rfl) hsh (by decide) (by intro _ _ _ h; exact h) (by assumption) (Or.inl ⟨by rfl, ?hy⟩) ?_; (case hy => (intro W _; go_simp; (try with_reducible rfl))); clear hsh; intro hsh
              refine wpAnyC_take0 (i := 9) (k := 15) (v := ?_) (d := some 83) rfl (by rfl) (by as_aux_lemma => kernel_rfl) (by as_aux_lemma => kernel_rfl) (by as_aux_lemma => kernel_rfl) hsh (by decide) (by intro _ _ _ h; exact h) (by assumption) (Or.inl ⟨by rfl, ?hy⟩) ?_; (case hy => (intro W _; go_simp; (try with_reducible rfl))); clear hsh; intro hsh
              refine wpAnyC_take (i := 10) (k := 15) (f := 40) (v := ?_) (d := some 84) rfl (by rfl) (by as_aux_lemma => kernel_rfl) (by as_aux_lemma => kernel_rfl) (by as_aux_lemma => kernel_rfl) hsh (by decide) (by as_aux_lemma => kernel_rfl) (by intro _ _ _ h; exact h) (by assumption) (Or.inl ⟨by rfl, ?hy⟩) ?_; (case hy => (rintro W ⟨b0, b1, b2, b3, b4⟩; go_simp; (try with_reducible rfl))); clear hsh; intro hsh
              refine wpAnyC_take0 (i := 11) (k := 15) (v := ?_) (d := some 85) rfl (by rfl) (by as_aux_lemma => kernel_rfl) (by as_aux_lemma => kernel_rfl) (by as_aux_lemma => kernel_rfl) hsh (by decide) (by intro _ _ _ h; exact h) (by assumption) (Or.inl ⟨by rfl, ?hy⟩) ?_; (case hy => (intro W _; go_simp; (try with_reducible rfl))); clear hsh; intro hsh
              refine wpAnyC_take (i := 12) (k := 15) (f := 40) (v := ?_) (d := some 86) rfl (by rfl) (by as_aux_lemma => kernel_rfl) (by as_aux_lemma => kernel_rfl) (by as_aux_lemma => kernel_rfl) hsh (by decide) (by as_aux_lemma => kernel_rfl) (by intro _ _ _ h; exact h) (by assumption) (Or.inl ⟨by rfl, ?hy⟩) ?_; (case hy => (rintro W ⟨b0, b1, b2, b3, b4⟩; go_simp; (try with_reducible rfl))); clear hsh; intro hsh
              refine wpAnyC_take0 (i := 13) (k := 15) (v := ?_) (d := some 87) rfl (by rfl) (by as_aux_lemma => kernel_rfl) (by as_aux_lemma => kernel_rfl) (by as_aux_lemma => kernel_rfl) hsh (by decide) (by intro _ _ _ h; exact h) (by assumption) (Or.inl ⟨by rfl, ?hy⟩) ?_; (case hy => (intro W _; go_simp; (try with_reducible rfl))); clear hsh; intro hsh
              refine wpAnyC_take (i := 14) (k := 15) (f := 40) (v := ?_) (d := some 88) rfl (by rfl) (by as_aux_lemma => kernel_rfl) (by as_aux_lemma => kernel_rfl) (by as_aux_lemma => kernel_rfl) hsh (by decide) (by as_aux_lemma => kernel_rfl) (by intro _ _ _ h; exact h) (by assumption) (Or.inl ⟨by rfl, ?hy⟩) ?_; (case hy => (rintro W ⟨b0, b1, b2, b3, b4⟩; go_simp; (try with_reducible rfl))); clear hsh; intro hsh
              refine wpAnyC_ready (rs := [7]) (by as_aux_lemma => kernel_rfl) (by simp) ?_; refine AllC.cons (i := 7) rfl (by as_aux_lemma => kernel_rfl) hsh (fun K hK => ?_) AllC.nil
              go_simp
              go_at_call 8
              refine (nCount_bad pw _ A m mc ky at_ bn wat _ hky HP.out.drew.box rfl rfl _ HE.out hE0).mono ?_
              rintro e w' ⟨rfl, rfl⟩
              try go_simp
              refine hK _ _ (fun _ => HS) ?_
              clear hK K hsh
              intro hsh
              refine wpAnyC_ready (rs := [15]) (by as_aux_lemma => kernel_rfl) (by simp) ?_; refine AllC.cons (i := 15) rfl (by as_aux_lemma => kernel_rfl) hsh (fun K hK => ?_) AllC.nil
              go_simp
              go_at_call 9
              refine (rCount_bad rw_ ky at_ bn wat _ hky (block_cell HR.out.drew.box 1) _ HE.out hE0).mono ?_
              rintro e w' ⟨rfl, rfl⟩
              try go_simp
              refine hK _ _ (fun h => absurd (h.symm.trans (by kernel_rfl)) (show ¬ (false = true) by decide)) ?_
              clear hK K hsh
              intro hsh
              refine wpAnyC_take1 (i := 16) (k := 15) (v := ?_) (d := some 90) rfl (by rfl) (by as_aux_lemma => kernel_rfl) (by as_aux_lemma => kernel_rfl) (by as_aux_lemma => kernel_rfl) hsh (by as_aux_lemma => kernel_rfl) (by decide) (by intro _ _ _ h; exact h) (Or.inl ⟨by rfl, ?hy⟩) ?_; (case hy => (intro W _; go_simp; (try with_reducible rfl))); clear hsh; intro hsh
              refine wpAnyC_take1 (i := 17) (k := 15) (v := ?_) (d := some 13) rfl (by rfl) (by as_aux_lemma => kernel_rfl) (by as_aux_lemma => kernel_rfl) (by as_aux_lemma => kernel_rfl) hsh (by as_aux_lemma => kernel_rfl) (by decide) (by intro _ _ _ h; exact h) (Or.inl ⟨by rfl, ?hy⟩) ?_; (case hy => (intro W _; go_simp; (try with_reducible rfl))); clear hsh; intro hsh
              refine wpAnyC_done (by as_aux_lemma => kernel_rfl) ?_; clear hsh
              obtain ⟨w2, hw2⟩ : ∃ w2 : World, w1.drew = w2 := ⟨_, rfl⟩
              have HP := hide HP.out.drew
              have HR := hide HR.out.drew
              have HBL := hide (HBL.out.drew)
              have HZB := hide (show W.heap.size ≤ w1.drew.heap.size from HZB.out)
              have HL := hide HL.out.more
              rw [hw2] at HP HR HBL HZB ⊢
              clear hw2 HX HS
              have hnm : n ≤ maxLen := by unfold maxLen; omega
              have hmq := HL.out.le
              have hmq2 := HL.out.hq
              have hm2 : m2 ≤ 100000 := by have := HR.out.hm; omega
              have HKN := hide (show keptN ks = m by rw [← HL.out.len]; exact HP.out.hm)
              go_wp2_with (first
        | (go_at_call 16; refine (Status_any pw n cr R ws _ hn (block_cell HP.out.box 0) (wd_sl HP.out.hn HP.out.rrow)).mono ?_; rintro e wa ⟨va, rfl, hoa, hba⟩; obtain ⟨aa, ca, rfl⟩ := own_sl hoa; have HP1 := hide (HP.out.below HZB.out hba); have HR1 := hide (HR.out.below HZB.out hba); have HZB1 := hide (Nat.le_trans HZB.out hba.size); have HBL1 := hide (HBL.out.trans (hba.mono HZB.out)); have HOA := hide hoa; clear hba hoa)
        | (go_at_call 17; refine (rStatus_any rw_ n tc ST _ (block_cell HR1.out.box 5)).mono ?_; rintro e w' ⟨rfl, rfl⟩)
        | (go_at_call 15; refine (Equal_stts aa n ca ST tc (ws.map Wd.stt) _ hnm (st_sl (by rw [List.length_map]; exact HP.out.hn) HOA.out) (st_sl HR1.out.hn HR1.out.strow)).mono ?_; rintro e wc ⟨rfl, hbc⟩; have HP2 := hide (HP1.out.below HZB1.out hbc); have HR2 := hide (HR1.out.below HZB1.out hbc); have HBL2 := hide (HBL1.out.trans (hbc.mono HZB1.out)); clear hbc)
        | (go_at_call 18; refine (nKept_any pw m mc A _ (block_cell HP2.out.box 1)).mono ?_; rintro e w' ⟨rfl, rfl⟩)
        | (go_at_call 19; refine (HKN.out ▸ rKept_any rw_ m2 kc KA ks _ hm2 (block_cell HR2.out.box 3) (cb_sl HR2.out.hk HR2.out.krow)).mono ?_; rintro e w' ⟨rfl, rfl⟩))
              go_roundw
              case rel => exact ⟨j + 1, by omega, by go_num, ⟨cr, m, mc, sn, sc, kc, sc2, tc, m2, mc2, R, A, SA, A2, KA, SB, ST, ws, cs, cs2, ks, sl, wat, HP2.out, HR2.out, HL.out, HWR.out, HBL2.out⟩⟩
              case measure => simp [intOf]; omega
          · have hw0' : (wt == 0) = false := by simpa using hw0
            by_cases hw1 : wt = 1
            · subst hw1
              obtain ⟨E, hEv⟩ : ∃ E, tkErr at_ wat = E := ⟨_, rfl⟩
              have HE := hide hEv
              clear hw0'
              by_cases hE0 : E = 0
              · subst hE0
                clear hEv
                obtain ⟨b0, b1, b2, b3, b4⟩ := HX.out.x
                have hnm : n ≤ maxLen := by unfold maxLen; omega
                obtain ⟨g, hg⟩ : ∃ g, lng l = g := ⟨_, rfl⟩
                rw [hg] at HP HL ⊢
                have HGL := hide hg
                obtain ⟨hmo, hge⟩ := tkErr_ok HE.out
                have hle : wat ≤ at_ := by omega
                have hg0 := HL.out.g0.1
                have hg1 := HL.out.g0.2
                obtain ⟨ns, hns⟩ : ∃ ns, ws.flatMap (tkN cs sl at_) = ns := ⟨_, rfl⟩
                have HNS := hide hns
                have hnsl : ns.length ≤ 1000 := by rw [← hns]; exact Nat.le_trans (tkN_len cs sl at_ ws) (by rw [HP.out.hn]; exact hn)
                have HZW := hide (show List.zipWith (rkW cs2 sl at_) l (ws.map Wd.stt) = (ws.map (tkW cs sl at_)).map Wd.stt by rw [← HWR.out.1]; exact HL.out.rkWs hle)
                have HZN := hide (show (List.zipWith (rkN cs2 sl at_) l (ws.map Wd.stt)).flatten = ns by rw [← hns, ← HWR.out.1]; exact HL.out.rkNs hle)
                have HRS := hide (show ∀ (i : Nat) (x : Rl) (s : Stt), l[i]? = some x → (ws.map Wd.stt)[i]? = some s → RsOk wat x s from fun i x s hx hs => by
                  rw [← HWR.out.1] at hx; rw [List.getElem?_map] at hx hs
                  cases hwi : ws[i]? with
                  | none => rw [hwi] at hx; cases hx
                  | some y =>
                    rw [hwi] at hx hs; simp only [Option.map_some, Option.some.injEq] at hx hs; subst hx; subst hs
                    have := HL.out.hok y (List.mem_of_getElem? hwi)
                    exact ⟨this.a0, this.a1, this.w0, this.w1, this.s0, this.s3, this.i0, this.i1⟩)
                clear hg hns
                go_wp2_with (first
        | (go_at_call 10; refine (nTick_ok W.heap.size W.heap.size pw n m sn cr mc sc R A SA ws cs sl at_ wat g _ hmo (by omega) HP.out.hn HP.out.hm HP.out.hs (by omega) hmk hsn HP.out.box HP.out.rrow HP.out.crow HP.out.srow HL.out.hok HL.out.w0 (HL.out.fit (by omega)) hg0 hg1 HP.out.hB (Nat.le_refl _) HZB.out).mono ?_; rintro e w2 ⟨ov, v2, rfl, hb2, hr2, hc2, hs2, hv2, hk2⟩; rw [HNS.out] at hv2; obtain ⟨a2, mc_2, rfl⟩ := own_sl hc2; obtain ⟨oa, oc, rfl⟩ := own_sl hv2; have hkt := KeepT.of_keep (T := TN) hk2 (fun k cs ty fr hh hp => by rcases hp with rfl | hp | hp; (rw [box_type HP.out.box hh]; decide); (rw [own_type HP.out.rrow hp hh]; decide); (rw [own_type HP.out.crow hp hh]; decide)); have HR2 := hide (HR.out.keep hkt); have HX2 := hide (HX.out.keep hkt (by decide)); have HP2 := hide (show PM W.heap.size pw n (cs.filter fun c => !oldB at_ g c).length sn cr mc_2 sc R a2 SA (ws.map (tkW cs sl at_)) (cs.filter fun c => !oldB at_ g c) sl at_ g w2 from ⟨hb2, hr2, hc2, hs2, HP.out.hB, by rw [List.length_map]; exact HP.out.hn, rfl, HP.out.hs⟩); have HV2 := hide hv2; have HBL2 := hide (HBL.out.trans hkt.be); have HZB2 := hide (Nat.le_trans HZB.out hkt.be.size); obtain ⟨b0, b1, b2, b3, b4⟩ := HX2.out.x; clear hkt hk2 hb2 hr2 hc2 hs2 hv2)
        | (go_at_call 11; refine (rRound W.heap.size W.heap.size rw_ n m2 sn c mc2 kc sc2 tc A0 A2 KA SB ST l (ws.map Wd.stt) cs2 ks sl at_ wat _ hmo (by omega) HR2.out.hm HR2.out.hk HR2.out.hs HR2.out.hn (by omega) hmk2 hsn HR2.out.box HR2.out.rules HR2.out.strow HR2.out.crow HR2.out.krow HR2.out.srow HRS.out HL.out.w0 (HL.out.fit2 (by omega)) HR2.out.hB (Nat.le_refl _) HZB2.out).mono ?_; rintro e w3 ⟨ov3, g3, hg3, rfl, hI3, ho3⟩; obtain rfl : g = g3 := HGL.out.symm.trans hg3; rw [HZW.out] at hI3; rw [HZN.out] at ho3; obtain ⟨oa3, oc3, rfl⟩ := own_sl ho3; have hkt := KeepT.of_keep (T := TR) hI3.kp (fun k cs ty fr hh hp => by rcases hp with rfl | hp | hp; (rw [box_type HR2.out.box hh]; decide); (rw [own_type HR2.out.strow hp hh]; decide); (rw [own_type HR2.out.krow hp hh]; decide)); have HP3 := hide (HP2.out.keep hkt); have HV3 := hide (hkt.own HV2.out (by decide)); have HO3 := hide ho3; have HR3 := hide (show RM W.heap.size rw_ n m2 sn c mc2 kc sc2 tc A0 A2 KA SB ST l ((ws.map (tkW cs sl at_)).map Wd.stt) cs2 (List.zipWith (keepB n at_ g) ks cs2) sl at_ w3 from ⟨hI3.box, hI3.rules, hI3.strow, hI3.crow, hI3.krow, hI3.srow, HR2.out.hB, by rw [List.length_map, List.length_map]; exact HP.out.hn, HR2.out.hm, by rw [List.length_zipWith, HR2.out.hm, HR2.out.hk]; omega, HR2.out.hs⟩); have HBL3 := hide (HBL2.out.trans hkt.be); have HZB3 := hide (Nat.le_trans HZB2.out hkt.be.size); clear hkt hI3 ho3 b0 b1 b2 b3 b4)
        | (go_at_call 12; refine (Equal_nts oa ns.length oc oa3 oc3 ns _ (by unfold maxLen; omega) (nt_sl HV3.out) (nt_sl HO3.out)).mono ?_; rintro e w4 ⟨rfl, hb4⟩; have HP4 := HP3.out.below HZB3.out hb4; have HR4 := HR3.out.below HZB3.out hb4; have HBL4 := hide (HBL3.out.trans (hb4.mono HZB3.out)); have HZB4 := hide (Nat.le_trans HZB3.out hb4.size); clear hb4; have HL0 := HL.out.tick (sl := sl) hle; rw [HP.out.hn] at HL0; obtain ⟨ws_, hws⟩ : ∃ x, (ws.map (tkW cs sl at_)) = x := ⟨_, rfl⟩; obtain ⟨cs_, hcs⟩ : ∃ x, (cs.filter fun c => !oldB at_ g c) = x := ⟨_, rfl⟩; obtain ⟨ks_, hks⟩ : ∃ x, List.zipWith (keepB n at_ g) ks cs2 = x := ⟨_, rfl⟩; rw [hws, hcs, hks] at HL0; rw [hws, hcs] at HP4; rw [hws, hks] at HR4; have HWR_ := hide (show ws_.map (·.r) = l ∧ sl.length ≤ 50 from ⟨by rw [← hws, List.map_map]; exact HWR.out.1, HWR.out.2⟩); clear HP HR HBL HZB HL hws hcs hks; have HP := hide HP4; have HR := hide HR4; have HBL := HBL4; have HZB := HZB4; have HL := hide HL0; have hmq := HL.out.le; have hmq2 := HL.out.hq; have hm2 : m2 ≤ 100000 := (by omega); have HKN := hide (show keptN ks_ = cs_.length by rw [← HL.out.len]))
        | (go_at_call 16; refine (Status_any pw n cr R ws_ _ hn (block_cell HP.out.box 0) (wd_sl HP.out.hn HP.out.rrow)).mono ?_; rintro e wa ⟨va, rfl, hoa, hba⟩; obtain ⟨aa, ca, rfl⟩ := own_sl hoa; have HP1 := hide (HP.out.below HZB.out hba); have HR1 := hide (HR.out.below HZB.out hba); have HZB1 := hide (Nat.le_trans HZB.out hba.size); have HBL1 := hide (HBL.out.trans (hba.mono HZB.out)); have HOA := hide hoa; clear hba hoa)
        | (go_at_call 17; refine (rStatus_any rw_ n tc ST _ (block_cell HR1.out.box 5)).mono ?_; rintro e w' ⟨rfl, rfl⟩)
        | (go_at_call 15; refine (Equal_stts aa n ca ST tc (ws_.map Wd.stt) _ hnm (st_sl (by rw [List.length_map]; exact HP.out.hn) HOA.out) (st_sl HR1.out.hn HR1.out.strow)).mono ?_; rintro e wc ⟨rfl, hbc⟩; have HP2 := hide (HP1.out.below HZB1.out hbc); have HR2 := hide (HR1.out.below HZB1.out hbc); have HBL2 := hide (HBL1.out.trans (hbc.mono HZB1.out)); clear hbc)
        | (go_at_call 18; refine (nKept_any pw cs_.length mc_2 a2 _ (block_cell HP2.out.box 1)).mono ?_; rintro e w' ⟨rfl, rfl⟩)
        | (go_at_call 19; refine (HKN.out ▸ rKept_any rw_ m2 kc KA ks_ _ hm2 (block_cell HR2.out.box 3) (cb_sl HR2.out.hk HR2.out.krow)).mono ?_; rintro e w' ⟨rfl, rfl⟩))
                go_roundw
                case rel => exact ⟨j + 1, by omega, by go_num, ⟨cr, cs_.length, mc_2, sn, sc, kc, sc2, tc, m2, mc2, R, a2, SA, A2, KA, SB, ST, ws_, cs_, cs2, ks_, sl, at_, HP2.out, HR2.out, HL.out, HWR_.out, HBL2.out⟩⟩
                case measure => simp [intOf]; omega
              · have hE1 : (E == 0) = false := by simpa using hE0
                clear hEv
                obtain ⟨b0, b1, b2, b3, b4⟩ := HX.out.x
                have hnm : n ≤ maxLen := by unfold maxLen; omega
                go_wp2_with (first
        | (go_at_call 10; refine (nTick_bad pw at_ wat _ (block_cell HP.out.box 3) _ HE.out hE0).mono ?_; rintro e w2 ⟨rfl, hb2⟩; have HP2 := hide (HP.out.below HZB.out hb2); have HR2 := hide (HR.out.below HZB.out hb2); have HX2 := hide (HX.out.below hb2); have HBL2 := hide (HBL.out.trans (hb2.mono HZB.out)); have HZB2 := hide (Nat.le_trans HZB.out hb2.size); obtain ⟨b0, b1, b2, b3, b4⟩ := HX2.out.x; clear hb2)
        | (go_at_call 11; refine (rTick_bad rw_ at_ wat _ (block_cell HR2.out.box 1) _ HE.out hE0).mono ?_; rintro e w3 ⟨rfl, hb3⟩; have HP3 := hide (HP2.out.below HZB2.out hb3); have HR3 := hide (HR2.out.below HZB2.out hb3); have HBL3 := hide (HBL2.out.trans (hb3.mono HZB2.out)); have HZB3 := hide (Nat.le_trans HZB2.out hb3.size); clear hb3 b0 b1 b2 b3 b4)
        | (go_at_call 12; refine (Equal_nts none 0 0 none 0 [] _ (by unfold maxLen; omega) (Sl.nil _ _ _ _ _) (Sl.nil _ _ _ _ _)).mono ?_; rintro e w4 ⟨rfl, hb4⟩; have HP4 := hide (HP3.out.below HZB3.out hb4); have HR4 := hide (HR3.out.below HZB3.out hb4); have HBL4 := hide (HBL3.out.trans (hb4.mono HZB3.out)); have HZB4 := hide (Nat.le_trans HZB3.out hb4.size); have HP := HP4; have HR := HR4; have HBL := HBL4; have HZB := HZB4; have HL := hide HL.out.more; have hmq := HL.out.le; have hmq2 := HL.out.hq; have hm2 : m2 ≤ 100000 := (by have := HR.out.hm; omega); have HKN := hide (show keptN ks = m by rw [← HL.out.len]; exact HP.out.hm); clear hb4)
        | (go_at_call 16; refine (Status_any pw n cr R ws _ hn (block_cell HP.out.box 0) (wd_sl HP.out.hn HP.out.rrow)).mono ?_; rintro e wa ⟨va, rfl, hoa, hba⟩; obtain ⟨aa, ca, rfl⟩ := own_sl hoa; have HP1 := hide (HP.out.below HZB.out hba); have HR1 := hide (HR.out.below HZB.out hba); have HZB1 := hide (Nat.le_trans HZB.out hba.size); have HBL1 := hide (HBL.out.trans (hba.mono HZB.out)); have HOA := hide hoa; clear hba hoa)
        | (go_at_call 17; refine (rStatus_any rw_ n tc ST _ (block_cell HR1.out.box 5)).mono ?_; rintro e w' ⟨rfl, rfl⟩)
        | (go_at_call 15; refine (Equal_stts aa n ca ST tc (ws.map Wd.stt) _ hnm (st_sl (by rw [List.length_map]; exact HP.out.hn) HOA.out) (st_sl HR1.out.hn HR1.out.strow)).mono ?_; rintro e wc ⟨rfl, hbc⟩; have HP2 := hide (HP1.out.below HZB1.out hbc); have HR2 := hide (HR1.out.below HZB1.out hbc); have HBL2 := hide (HBL1.out.trans (hbc.mono HZB1.out)); clear hbc)
        | (go_at_call 18; refine (nKept_any pw m mc A _ (block_cell HP2.out.box 1)).mono ?_; rintro e w' ⟨rfl, rfl⟩)
        | (go_at_call 19; refine (HKN.out ▸ rKept_any rw_ m2 kc KA ks _ hm2 (block_cell HR2.out.box 3) (cb_sl HR2.out.hk HR2.out.krow)).mono ?_; rintro e w' ⟨rfl, rfl⟩))
                go_roundw
                case rel => exact ⟨j + 1, by omega, by go_num, ⟨cr, m, mc, sn, sc, kc, sc2, tc, m2, mc2, R, A, SA, A2, KA, SB, ST, ws, cs, cs2, ks, sl, wat, HP2.out, HR2.out, HL.out, HWR.out, HBL2.out⟩⟩
                case measure => simp [intOf]; omega
            · have hw1' : (wt == 1) = false := by simpa using hw1
              obtain ⟨E, hEv⟩ : ∃ E, silsErr xs = E := ⟨_, rfl⟩
              have HE := hide hEv
              by_cases hE0 : E = 0
              · subst hE0
                have hxs50 := sils_len hEv
                clear hEv
                go_wp2_with (fail)
                obtain ⟨w1, hw1e⟩ : ∃ w1, wr.alloc (.cells #[.int .i64 wt, .int .i64 at_, .int .i64 bn, .string ky, .slice sa sk scap] 34) = w1 := ⟨_, rfl⟩
                rw [hw1e] at HP HR HBL HZB HX hxs ⊢
                clear hw1e d0 d1 d2 d3 d4
                refine wp_region_chain (fun W => BtX wr.heap.size wt at_ bn ky sa sk scap W) 7 (by as_aux_lemma => kernel_rfl) (N := 10) (by as_aux_lemma => kernel_rfl) ?_; intro hsh
                have HS : BtX wr.heap.size wt at_ bn ky sa sk scap w1.drew := HX.out.drew.x
                refine wpAnyC_take0 (i := 0) (k := 7) (v := ?_) (d := some 63) rfl (by rfl) (by as_aux_lemma => kernel_rfl) (by as_aux_lemma => kernel_rfl) (by as_aux_lemma => kernel_rfl) hsh (by decide) (by intro _ _ _ h; exact h) (by assumption) (Or.inl ⟨by rfl, ?hy⟩) ?_; (case hy => (intro W _; go_simp; (try with_reducible rfl))); clear hsh; intro hsh
                refine wpAnyC_take0 (i := 1) (k := 7) (v := ?_) (d := some 64) rfl (by rfl) (by as_aux_lemma => kernel_rfl) (by as_aux_lemma => kernel_rfl) (by as_aux_lemma => kernel_rfl) hsh (by decide) (by intro _ _ _ h; exact h) (by assumption) (Or.inl ⟨by rfl, ?hy⟩) ?_; (case hy => (intro W _; go_simp; (try with_reducible rfl))); clear hsh; intro hsh
                refine wpAnyC_take (i := 2) (k := 7) (f := 40) (v := ?_) (d := some 65) rfl (by rfl) (by as_aux_lemma => kernel_rfl) (by as_aux_lemma => kernel_rfl) (by as_aux_lemma => kernel_rfl) hsh (by decide) (by as_aux_lemma => kernel_rfl) (by intro _ _ _ h; exact h) (by assumption) (Or.inl ⟨by rfl, ?hy⟩) ?_; (case hy => (rintro W ⟨b0, b1, b2, b3, b4⟩; go_simp; (try with_reducible rfl))); clear hsh; intro hsh
                refine wpAnyC_take0 (i := 4) (k := 7) (v := ?_) (d := some 67) rfl (by rfl) (by as_aux_lemma => kernel_rfl) (by as_aux_lemma => kernel_rfl) (by as_aux_lemma => kernel_rfl) hsh (by decide) (by intro _ _ _ h; exact h) (by assumption) (Or.inl ⟨by rfl, ?hy⟩) ?_; (case hy => (intro W _; go_simp; (try with_reducible rfl))); clear hsh; intro hsh
                refine wpAnyC_take0 (i := 5) (k := 7) (v := ?_) (d := some 68) rfl (by rfl) (by as_aux_lemma => kernel_rfl) (by as_aux_lemma => kernel_rfl) (by as_aux_lemma => kernel_rfl) hsh (by decide) (by intro _ _ _ h; exact h) (by assumption) (Or.inl ⟨by rfl, ?hy⟩) ?_; (case hy => (intro W _; go_simp; (try with_reducible rfl))); clear hsh; intro hsh
                refine wpAnyC_take (i := 6) (k := 7) (f := 40) (v := ?_) (d := some 69) rfl (by rfl) (by as_aux_lemma => kernel_rfl) (by as_aux_lemma => kernel_rfl) (by as_aux_lemma => kernel_rfl) hsh (by decide) (by as_aux_lemma => kernel_rfl) (by intro _ _ _ h; exact h) (by assumption) (Or.inl ⟨by rfl, ?hy⟩) ?_; (case hy => (rintro W ⟨b0, b1, b2, b3, b4⟩; go_simp; (try with_reducible rfl))); clear hsh; intro hsh
                refine wpAnyC_ready (rs := [3]) (by as_aux_lemma => kernel_rfl) (by simp) ?_; refine AllC.cons (i := 3) rfl (by as_aux_lemma => kernel_rfl) hsh (fun K hK => ?_) AllC.nil
                go_simp
                go_at_call 13
                refine (nSilences_ok pw _ _ sa sk scap xs _ hxs.drew hfit HE.out HP.out.drew.box rfl).mono ?_
                rintro e w2 ⟨v2, rfl, hb2, ho2, hk2⟩
                obtain ⟨a2, mc_2, rfl⟩ := own_sl ho2
                have hkt := KeepT.of_keep (T := TN) (Keep.of_but (P := fun k => k = pw) hk2 HP.out.hB rfl) (fun k cs ty fr hh hp => by subst hp; rw [box_type HP.out.drew.box hh]; decide)
                have HR2 := hide (HR.out.drew.keep hkt)
                have HX2 := hide (HX.out.drew.keep hkt (by decide))
                have HP2 := hide (PM.sils HP.out.drew hk2 hb2 (World.ownsRow.mono ho2 (by simpa using HZB.out)) hxl)
                have HBL2 := hide (HBL.out.drew.trans hkt.be)
                have HZB2 := hide (Nat.le_trans (show W.heap.size ≤ w1.drew.heap.size from HZB.out) hkt.be.size)
                have HXS2 := hide (sl_args hxs0 HBL2.out)
                clear hkt hk2 hb2 ho2
                try go_simp
                refine hK _ _ (fun _ => HX2.out.x) ?_
                clear hK K hsh
                intro hsh
                refine wpAnyC_ready (rs := [7]) (by as_aux_lemma => kernel_rfl) (by simp) ?_; refine AllC.cons (i := 7) rfl (by as_aux_lemma => kernel_rfl) hsh (fun K hK => ?_) AllC.nil
                go_simp
                go_at_call 14
                refine (rSilences_ok rw_ _ _ sa sk scap xs w2 HXS2.out hfit HE.out HR2.out.box rfl).mono ?_
                rintro e w3 ⟨v3, rfl, hb3, ho3, hk3⟩
                obtain ⟨a3, mc_3, rfl⟩ := own_sl ho3
                have hkt := KeepT.of_keep (T := TR) (Keep.of_but (P := fun k => k = rw_) hk3 HR2.out.hB rfl) (fun k cs ty fr hh hp => by subst hp; rw [box_type HR2.out.box hh]; decide)
                have HP3 := hide (HP2.out.keep hkt)
                have HR3 := hide (RM.sils HR2.out hk3 hb3 (World.ownsRow.mono ho3 HZB2.out) hxl)
                have HBL3 := hide (HBL2.out.trans hkt.be)
                have HZB3 := hide (Nat.le_trans HZB2.out hkt.be.size)
                clear hkt hk3 hb3 ho3
                try go_simp
                refine hK _ _ (fun h => absurd (h.symm.trans (by kernel_rfl)) (show ¬ (false = true) by decide)) ?_
                clear hK K hsh
                intro hsh
                refine wpAnyC_take1 (i := 8) (k := 7) (v := ?_) (d := some 71) rfl (by rfl) (by as_aux_lemma => kernel_rfl) (by as_aux_lemma => kernel_rfl) (by as_aux_lemma => kernel_rfl) hsh (by as_aux_lemma => kernel_rfl) (by decide) (by intro _ _ _ h; exact h) (Or.inl ⟨by rfl, ?hy⟩) ?_; (case hy => (intro W _; go_simp; (try with_reducible rfl))); clear hsh; intro hsh
                refine wpAnyC_take1 (i := 9) (k := 7) (v := ?_) (d := some 13) rfl (by rfl) (by as_aux_lemma => kernel_rfl) (by as_aux_lemma => kernel_rfl) (by as_aux_lemma => kernel_rfl) hsh (by as_aux_lemma => kernel_rfl) (by decide) (by intro _ _ _ h; exact h) (Or.inl ⟨by rfl, ?hy⟩) ?_; (case hy => (intro W _; go_simp; (try with_reducible rfl))); clear hsh; intro hsh
                refine wpAnyC_done (by as_aux_lemma => kernel_rfl) ?_; clear hsh
                have HL := hide HL.out.more
                clear HP HR HBL HZB HP2 HR2 HBL2 HZB2 HX2 HS HX HXS2
                have HP := HP3
                have HR := HR3
                have HBL := HBL3
                have HZB := HZB3
                clear HP3 HR3 HBL3 HZB3
                have hnm : n ≤ maxLen := by unfold maxLen; omega
                have hmq := HL.out.le
                have hmq2 := HL.out.hq
                have hm2 : m2 ≤ 100000 := by have := HR.out.hm; omega
                have HKN := hide (show keptN ks = m by rw [← HL.out.len]; exact HP.out.hm)
                go_wp2_with (first
        | (go_at_call 16; refine (Status_any pw n cr R ws _ hn (block_cell HP.out.box 0) (wd_sl HP.out.hn HP.out.rrow)).mono ?_; rintro e wa ⟨va, rfl, hoa, hba⟩; obtain ⟨aa, ca, rfl⟩ := own_sl hoa; have HP1 := hide (HP.out.below HZB.out hba); have HR1 := hide (HR.out.below HZB.out hba); have HZB1 := hide (Nat.le_trans HZB.out hba.size); have HBL1 := hide (HBL.out.trans (hba.mono HZB.out)); have HOA := hide hoa; clear hba hoa)
        | (go_at_call 17; refine (rStatus_any rw_ n tc ST _ (block_cell HR1.out.box 5)).mono ?_; rintro e w' ⟨rfl, rfl⟩)
        | (go_at_call 15; refine (Equal_stts aa n ca ST tc (ws.map Wd.stt) _ hnm (st_sl (by rw [List.length_map]; exact HP.out.hn) HOA.out) (st_sl HR1.out.hn HR1.out.strow)).mono ?_; rintro e wc ⟨rfl, hbc⟩; have HP2 := hide (HP1.out.below HZB1.out hbc); have HR2 := hide (HR1.out.below HZB1.out hbc); have HBL2 := hide (HBL1.out.trans (hbc.mono HZB1.out)); clear hbc)
        | (go_at_call 18; refine (nKept_any pw m mc A _ (block_cell HP2.out.box 1)).mono ?_; rintro e w' ⟨rfl, rfl⟩)
        | (go_at_call 19; refine (HKN.out ▸ rKept_any rw_ m2 kc KA ks _ hm2 (block_cell HR2.out.box 3) (cb_sl HR2.out.hk HR2.out.krow)).mono ?_; rintro e w' ⟨rfl, rfl⟩))
                go_roundw
                case rel => exact ⟨j + 1, by omega, by go_num, ⟨cr, m, mc, sk, mc_2, kc, mc_3, tc, m2, mc2, R, A, a2, A2, KA, a3, ST, ws, cs, cs2, ks, xs, wat, HP2.out, HR2.out, HL.out, ⟨HWR.out.1, hxs50⟩, HBL2.out⟩⟩
                case measure => simp [intOf]; omega
              · have hE1 : (E == 0) = false := by simpa using hE0
                clear hEv
                go_wp2_with (fail)
                obtain ⟨w1, hw1e⟩ : ∃ w1, wr.alloc (.cells #[.int .i64 wt, .int .i64 at_, .int .i64 bn, .string ky, .slice sa sk scap] 34) = w1 := ⟨_, rfl⟩
                rw [hw1e] at HP HR HBL HZB HX hxs ⊢
                clear hw1e d0 d1 d2 d3 d4
                refine wp_region_chain (fun W => BtX wr.heap.size wt at_ bn ky sa sk scap W) 7 (by as_aux_lemma => kernel_rfl) (N := 10) (by as_aux_lemma => kernel_rfl) ?_; intro hsh
                have HS : BtX wr.heap.size wt at_ bn ky sa sk scap w1.drew := HX.out.drew.x
                refine wpAnyC_take0 (i := 0) (k := 7) (v := ?_) (d := some 63) rfl (by rfl) (by as_aux_lemma => kernel_rfl) (by as_aux_lemma => kernel_rfl) (by as_aux_lemma => kernel_rfl) hsh (by decide) (by intro _ _ _ h; exact h) (by assumption) (Or.inl ⟨by rfl, ?hy⟩) ?_; (case hy => (intro W _; go_simp; (try with_reducible rfl))); clear hsh; intro hsh
                refine wpAnyC_take0 (i := 1) (k := 7) (v := ?_) (d := some 64) rfl (by rfl) (by as_aux_lemma => kernel_rfl) (by as_aux_lemma => kernel_rfl) (by as_aux_lemma => kernel_rfl) hsh (by decide) (by intro _ _ _ h; exact h) (by assumption) (Or.inl ⟨by rfl, ?hy⟩) ?_; (case hy => (intro W _; go_simp; (try with_reducible rfl))); clear hsh; intro hsh
                refine wpAnyC_take (i := 2) (k := 7) (f := 40) (v := ?_) (d := some 65) rfl (by rfl) (by as_aux_lemma => kernel_rfl) (by as_aux_lemma => kernel_rfl) (by as_aux_lemma => kernel_rfl) hsh (by decide) (by as_aux_lemma => kernel_rfl) (by intro _ _ _ h; exact h) (by assumption) (Or.inl ⟨by rfl, ?hy⟩) ?_; (case hy => (rintro W ⟨b0, b1, b2, b3, b4⟩; go_simp; (try with_reducible rfl))); clear hsh; intro hsh
                refine wpAnyC_take0 (i := 4) (k := 7) (v := ?_) (d := some 67) rfl (by rfl) (by as_aux_lemma => kernel_rfl) (by as_aux_lemma => kernel_rfl) (by as_aux_lemma => kernel_rfl) hsh (by decide) (by intro _ _ _ h; exact h) (by assumption) (Or.inl ⟨by rfl, ?hy⟩) ?_; (case hy => (intro W _; go_simp; (try with_reducible rfl))); clear hsh; intro hsh
                refine wpAnyC_take0 (i := 5) (k := 7) (v := ?_) (d := some 68) rfl (by rfl) (by as_aux_lemma => kernel_rfl) (by as_aux_lemma => kernel_rfl) (by as_aux_lemma => kernel_rfl) hsh (by decide) (by intro _ _ _ h; exact h) (by assumption) (Or.inl ⟨by rfl, ?hy⟩) ?_; (case hy => (intro W _; go_simp; (try with_reducible rfl))); clear hsh; intro hsh
                refine wpAnyC_take (i := 6) (k := 7) (f := 40) (v := ?_) (d := some 69) rfl (by rfl) (by as_aux_lemma => kernel_rfl) (by as_aux_lemma => kernel_rfl) (by as_aux_lemma => kernel_rfl) hsh (by decide) (by as_aux_lemma => kernel_rfl) (by intro _ _ _ h; exact h) (by assumption) (Or.inl ⟨by rfl, ?hy⟩) ?_; (case hy => (rintro W ⟨b0, b1, b2, b3, b4⟩; go_simp; (try with_reducible rfl))); clear hsh; intro hsh
                refine wpAnyC_ready (rs := [3]) (by as_aux_lemma => kernel_rfl) (by simp) ?_; refine AllC.cons (i := 3) rfl (by as_aux_lemma => kernel_rfl) hsh (fun K hK => ?_) AllC.nil
                go_simp
                go_at_call 13
                refine (nSilences_bad pw sa sk scap xs _ hskm (hxs.drew) hfit _ HE.out hE0).mono ?_
                rintro e w2 ⟨rfl, hb2⟩
                have HP2 := hide (HP.out.drew.below (by simpa using HZB.out) hb2)
                have HR2 := hide (HR.out.drew.below (by simpa using HZB.out) hb2)
                have HX2 := hide (HX.out.drew.below hb2)
                have HBL2 := hide (HBL.out.drew.trans (hb2.mono (by simpa using HZB.out)))
                have HZB2 := hide (Nat.le_trans (show W.heap.size ≤ w1.drew.heap.size from HZB.out) hb2.size)
                have HXS2 := hide (Sl.up hxs.drew hb2)
                clear hb2
                try go_simp
                refine hK _ _ (fun _ => HX2.out.x) ?_
                clear hK K hsh
                intro hsh
                refine wpAnyC_ready (rs := [7]) (by as_aux_lemma => kernel_rfl) (by simp) ?_; refine AllC.cons (i := 7) rfl (by as_aux_lemma => kernel_rfl) hsh (fun K hK => ?_) AllC.nil
                go_simp
                go_at_call 14
                refine (rSilences_bad rw_ sa sk scap xs _ hskm HXS2.out hfit _ HE.out hE0).mono ?_
                rintro e w3 ⟨rfl, hb3⟩
                have HP3 := hide (HP2.out.below HZB2.out hb3)
                have HR3 := hide (HR2.out.below HZB2.out hb3)
                have HBL3 := hide (HBL2.out.trans (hb3.mono HZB2.out))
                have HZB3 := hide (Nat.le_trans HZB2.out hb3.size)
                clear hb3
                try go_simp
                refine hK _ _ (fun h => absurd (h.symm.trans (by kernel_rfl)) (show ¬ (false = true) by decide)) ?_
                clear hK K hsh
                intro hsh
                refine wpAnyC_take1 (i := 8) (k := 7) (v := ?_) (d := some 71) rfl (by rfl) (by as_aux_lemma => kernel_rfl) (by as_aux_lemma => kernel_rfl) (by as_aux_lemma => kernel_rfl) hsh (by as_aux_lemma => kernel_rfl) (by decide) (by intro _ _ _ h; exact h) (Or.inl ⟨by rfl, ?hy⟩) ?_; (case hy => (intro W _; go_simp; (try with_reducible rfl))); clear hsh; intro hsh
                refine wpAnyC_take1 (i := 9) (k := 7) (v := ?_) (d := some 13) rfl (by rfl) (by as_aux_lemma => kernel_rfl) (by as_aux_lemma => kernel_rfl) (by as_aux_lemma => kernel_rfl) hsh (by as_aux_lemma => kernel_rfl) (by decide) (by intro _ _ _ h; exact h) (Or.inl ⟨by rfl, ?hy⟩) ?_; (case hy => (intro W _; go_simp; (try with_reducible rfl))); clear hsh; intro hsh
                refine wpAnyC_done (by as_aux_lemma => kernel_rfl) ?_; clear hsh
                have HL := hide HL.out.more
                clear HP HR HBL HZB HP2 HR2 HBL2 HZB2 HX2 HS HX HXS2
                have HP := HP3
                have HR := HR3
                have HBL := HBL3
                have HZB := HZB3
                clear HP3 HR3 HBL3 HZB3
                have hnm : n ≤ maxLen := by unfold maxLen; omega
                have hmq := HL.out.le
                have hmq2 := HL.out.hq
                have hm2 : m2 ≤ 100000 := by have := HR.out.hm; omega
                have HKN := hide (show keptN ks = m by rw [← HL.out.len]; exact HP.out.hm)
                go_wp2_with (first
        | (go_at_call 16; refine (Status_any pw n cr R ws _ hn (block_cell HP.out.box 0) (wd_sl HP.out.hn HP.out.rrow)).mono ?_; rintro e wa ⟨va, rfl, hoa, hba⟩; obtain ⟨aa, ca, rfl⟩ := own_sl hoa; have HP1 := hide (HP.out.below HZB.out hba); have HR1 := hide (HR.out.below HZB.out hba); have HZB1 := hide (Nat.le_trans HZB.out hba.size); have HBL1 := hide (HBL.out.trans (hba.mono HZB.out)); have HOA := hide hoa; clear hba hoa)
        | (go_at_call 17; refine (rStatus_any rw_ n tc ST _ (block_cell HR1.out.box 5)).mono ?_; rintro e w' ⟨rfl, rfl⟩)
        | (go_at_call 15; refine (Equal_stts aa n ca ST tc (ws.map Wd.stt) _ hnm (st_sl (by rw [List.length_map]; exact HP.out.hn) HOA.out) (st_sl HR1.out.hn HR1.out.strow)).mono ?_; rintro e wc ⟨rfl, hbc⟩; have HP2 := hide (HP1.out.below HZB1.out hbc); have HR2 := hide (HR1.out.below HZB1.out hbc); have HBL2 := hide (HBL1.out.trans (hbc.mono HZB1.out)); clear hbc)
        | (go_at_call 18; refine (nKept_any pw m mc A _ (block_cell HP2.out.box 1)).mono ?_; rintro e w' ⟨rfl, rfl⟩)
        | (go_at_call 19; refine (HKN.out ▸ rKept_any rw_ m2 kc KA ks _ hm2 (block_cell HR2.out.box 3) (cb_sl HR2.out.hk HR2.out.krow)).mono ?_; rintro e w' ⟨rfl, rfl⟩))
                go_roundw
                case rel => exact ⟨j + 1, by omega, by go_num, ⟨cr, m, mc, sn, sc, kc, sc2, tc, m2, mc2, R, A, SA, A2, KA, SB, ST, ws, cs, cs2, ks, sl, wat, HP2.out, HR2.out, HL.out, HWR.out, HBL2.out⟩⟩
                case measure => simp [intOf]; omega
        · obtain rfl : j = kk := by omega
          obtain ⟨_, _, _, _, _, _, _, _, _, _, _, _, _, _, _, _, _, _, _, _, _, _, _, _, _, _, _, hBW⟩ := hI
          go_wp2_with (fail)
          go_ret
          exact ⟨rfl, hBW⟩
  · have C1 := hide (nNewWatch_rules n c A0 l a1 W hnm hl hf hE)
    obtain ⟨E, hEv⟩ : ∃ E, rlErr l = E := ⟨_, rfl⟩
    have hE' : (E == 0) = false := by rw [← hEv]; simpa using hE
    rw [hEv] at C1
    have HEV := hide hEv
    have HSL := hide hl
    clear hbl hbo hl hE hEv
    go_enter Tryd.func3, Tryd.ntmps3
    go_wp2_with (first | (go_at_call 4; refine C1.out.mono ?_; rintro e w2 ⟨rfl, hw2⟩) | (go_at_call 5; refine (HEV.out ▸ AlertRulesError_any A0 n c l w2 hnm hnc (Sl.up HSL.out hw2) hf).mono ?_; rintro e w3 ⟨rfl, hw3⟩; have hB3 := hw2.trans (hw3.mono hw2.size)))
    go_ret
    exact ⟨rfl, hB3⟩
end alertWatches
end Go.Proofs.YtmakkdadhhpapaaDoor
