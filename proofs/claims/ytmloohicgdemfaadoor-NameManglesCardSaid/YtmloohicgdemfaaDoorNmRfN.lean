/- The reference's mangler: a type that is new (printed by gen_mr_n.py). -/
import Derived.Test.YtmloohicgdemfaaDoorNmRfQ
import Derived.BigRegion
namespace Go.Proofs.YtmloohicgdemfaaDoor
open Go.RowKit
set_option linter.unusedVariables false
set_option linter.unusedSimpArgs false
theorem info_tyR : (Tryd.prog.info? 64).map (fun i => (i.zero, i.size, i.bytes)) = some (some (.agg #[.int .i64 0, .slice none 0 0, .slice none 0 0]), 3, 56) := by kernel_rfl
set_option maxRecDepth 100000 in
set_option maxHeartbeats 8000000 in
theorem rOne_k1 {f : Nat} (HN : rNameOk f) (k : Nat) (t : Ty) (cs : List Value) (B r : Nat) (d : List Ty) (w : World) (hin : TyIn w B k t cs) (hgt : Good (f + 1) t ∧ Txt (f + 1) t) (hf12 : f + 1 ≤ 12) (hd : DOk d) (hdc : d.length + cnt (f + 1) t ≤ 999) (hc5 : cnt (f + 1) t ≤ 500) (hp : plc d t = none) (hst : RgS B r k d w) (hBw : B ≤ w.heap.size) (hK : t.kind = 1) :
    Calls Tryd.prog 24 #[.pointer (some ⟨r, 0, none⟩), .agg cs.toArray] w fun e w' => e = .returned (.string ⟨(mgT (f + 1) t d).1.toArray⟩) ∧ RgR B r k (mgT (f + 1) t d).2 w w' := by
  have hin0 := hin
  obtain ⟨hg, htx⟩ := hgt
  obtain ⟨hnt, hdb, hdlb⟩ := body_new hf12 ⟨hg, htx⟩ hd hp
  have HA := hide ((Below.refl w.heap.size w).alloc (Nat.le_refl _) (.cells cs.toArray 64))
  have HX := hide (heap_alloc_new w (.cells cs.toArray 64))
  have HR0 := hide ((RgR.refl hst).below hBw HA.out)
  have hrl := hst.lt
  obtain ⟨i0, hi0, iz0, iz1, iz2⟩ := info_parts info_tyR
  have HBr := hide hst.hB
  have HNR := hide (show ¬ RowB r (w.alloc (.cells cs.toArray 64)) w.heap.size from fun ⟨v, e1, e2⟩ => by
    rw [HA.out.block r hrl] at e1
    exact absurd (rowB_lt hst ⟨v, e1, e2⟩) (Nat.lt_irrefl _))
  obtain ⟨wa, hwa⟩ : ∃ x, w.alloc (.cells cs.toArray 64) = x := ⟨_, rfl⟩
  have hBa : B ≤ wa.heap.size := by rw [← hwa]; exact Nat.le_trans hBw HA.out.size
  rw [hwa] at HA HX HR0 HNR
  obtain ⟨A, c, hc0, hty⟩ := HR0.out.st.tys hBa
  have hdl := hst.len
  have CI := hide (IdxT_any k t cs w.heap.size A d.length c d wa (by unfold maxLen; omega) hty ((hin.below (HA.out.mono hBw)).more hBa) HX.out)
  rw [show plcI d t = -1 by unfold plcI; rw [hp]] at CI
  rw [cnt_eq] at hdc hc5
  have htbl : w.heap.size < wa.heap.size := lt_of_block HX.out
  have HMG := hide (show (mgT (f + 1) t d).1 = (mgBody (mgT f) t d).1 ∧ (mgT (f + 1) t d).2 = (mgBody (mgT f) t d).2 ++ [t] from ⟨by rw [mgT, hp], by rw [mgT, hp]⟩)
  rw [HMG.out.1, HMG.out.2]
  have HIN := hide hin0
  cases k with
  | zero => exact hin.elim
  | succ k =>
  obtain ⟨A1, n1, c1, A2, n2, c2, rfl, hn, hm, hn2, hm2, hl, hl2⟩ := hin
  obtain ⟨⟨hk1, hk4⟩, h1, h2, h3, h4, h5⟩ := hg
  obtain ⟨t1, t2⟩ := htx
  have HKK := hide hK
  rw [hK] at h1 h2 h3 HX hwa HIN ⊢
  have HRa := hide (RgR.refl HR0.out.st)
  have HD := hide hd
  obtain ⟨ho, hp1, hp2⟩ := h1 rfl
  have hnl := hl.len
  have HL1 := hide hl
  have HPG := hide (fun p (hp : p ∈ t.name) => (⟨(t1 p hp).1, (h4 p hp).1, (h4 p hp).2.1, fun x hx => ⟨(h4 p hp).2.2 x hx, (t1 p hp).2 x hx⟩⟩ : textE p.1 = 0 ∧ p.1.size ≤ 60 ∧ p.2.length ≤ 20 ∧ ∀ x ∈ p.2, Good f x ∧ Txt f x))
  have hmb : mgBody (mgT f) t d = mgName (mgT f) t.name d := by unfold mgBody; rw [if_pos HKK.out]
  have HC := hide (fun w1 (hb : Below B w w1) h => HN (k + 1) A1 n1 c1 t.name B r d w1 hn hm (by omega) (parts_deep (parts_below HL1.out hb) (Nat.le_succ _)) HPG.out (by omega) HD.out (by omega) (by omega) h)
  rw [hmb]
  rw [hmb] at hdlb
  obtain ⟨X, hX⟩ : ∃ X : ByteArray, ⟨(mgName (mgT f) t.name d).1.toArray⟩ = X := ⟨_, rfl⟩
  obtain ⟨D2, hD2⟩ : ∃ x, (mgName (mgT f) t.name d).2 = x := ⟨_, rfl⟩
  rw [hX, hD2] at HC
  rw [hX, hD2]
  rw [hD2] at hdlb
  have hdlb2 : D2.length + 1 ≤ 1000 := by rw [cnt_eq] at hdlb; omega
  clear hl hl2 h1 h2 h3 h4 h5 t1 t2 hty hX hD2 hmb hdb hnt hp hst hd hin0 HMG HL1 HPG hK
  go_enter Tryd.func24, Tryd.ntmps24
  go_wp2_with (first | (go_at_call 32; refine CI.out.mono ?_; rintro e w1 ⟨rfl, hw1⟩; have HR1 := hide (HRa.out.below hBa hw1); have HX1 := hide (block_below HX.out hw1); have x0 : w1.cell? ⟨w.heap.size, 0, none⟩ = some (.int .i64 1) := block_cell HX1.out 0; have x1 : w1.cell? ⟨w.heap.size, 1, none⟩ = some (.slice A1 n1 c1) := block_cell HX1.out 1; have x2 : w1.cell? ⟨w.heap.size, 2, none⟩ = some (.slice A2 n2 c2) := block_cell HX1.out 2; clear hw1) | (go_at_call 15; refine (HC.out w1 (HR0.out.trans HR1.out).be HR1.out.st (Nat.le_trans hBw (HR0.out.trans HR1.out).be.size)).mono ?_; rintro e w2 ⟨rfl, hr2⟩; have HR2 := hide (HR1.out.trans hr2); clear hr2))
  have hz2 := HR2.out.be.size
  have hBw2 := Nat.le_trans hBa hz2
  have HXT := hide (HR2.out.kept _ _ HX.out (fun e => by omega) HNR.out)
  obtain ⟨v, css, g1, g2, g3⟩ := HR2.out.st.st
  obtain ⟨A3, c3, rfl⟩ := own_sl g2
  have HNB := hide (show (Value.slice A3 D2.length c3).ownBlock ≠ some w.heap.size from fun e => by
    rcases HR2.out.row _ ⟨_, g1, e⟩ with h | h
    · exact HNR.out h
    · omega)
  have HG1 := hide g1
  have HG2 := hide g2
  have HG3 := hide g3
  have HTI := hide (HIN.out.below (HR0.out.trans HR2.out).be)
  have HFB : ∀ q, Below w2.heap.size w2 (w2.alloc (.cells #[.bool q] 4)).drew := fun q => ((Below.refl w2.heap.size w2).alloc (Nat.le_refl _) (.cells #[.bool q] 4)).trans (below_drewN (Below.refl w2.heap.size _) 1)
  have HFB1 := hide (HFB false)
  have HFB2 := hide (HFB true)
  have HT1 := hide (block_below HXT.out HFB1.out)
  have HT2 := hide (block_below HXT.out HFB2.out)
  have HM1 := hide (block_below HG1.out HFB1.out)
  have HM2 := hide (block_below HG1.out HFB2.out)
  have HO1 := hide (own_below HG2.out HFB1.out)
  have HO2 := hide (own_below HG2.out HFB2.out)
  have u0 : (w2.alloc (.cells #[.bool false] 4)).drew.cell? ⟨w.heap.size, 0, none⟩ = some (.int .i64 1) := block_cell HT1.out 0
  have u1 : (w2.alloc (.cells #[.bool false] 4)).drew.cell? ⟨w.heap.size, 1, none⟩ = some (.slice A1 n1 c1) := block_cell HT1.out 1
  have u2 : (w2.alloc (.cells #[.bool false] 4)).drew.cell? ⟨w.heap.size, 2, none⟩ = some (.slice A2 n2 c2) := block_cell HT1.out 2
  have u3 : (w2.alloc (.cells #[.bool false] 4)).drew.cell? ⟨r, 0, none⟩ = some (.slice A3 D2.length c3) := block_cell HM1.out 0
  have v0 : (w2.alloc (.cells #[.bool true] 4)).drew.cell? ⟨w.heap.size, 0, none⟩ = some (.int .i64 1) := block_cell HT2.out 0
  have v1 : (w2.alloc (.cells #[.bool true] 4)).drew.cell? ⟨w.heap.size, 1, none⟩ = some (.slice A1 n1 c1) := block_cell HT2.out 1
  have v2 : (w2.alloc (.cells #[.bool true] 4)).drew.cell? ⟨w.heap.size, 2, none⟩ = some (.slice A2 n2 c2) := block_cell HT2.out 2
  have v3 : (w2.alloc (.cells #[.bool true] 4)).drew.cell? ⟨r, 0, none⟩ = some (.slice A3 D2.length c3) := block_cell HM2.out 0
  clear g1 g2 g3 HFB
  go_region
  · obtain ⟨wf, hwf⟩ : ∃ x, (w2.alloc (.cells #[.bool false] 4)).drew = x := ⟨_, rfl⟩
    rw [hwf] at HFB1 HT1 HM1 HO1 u0 u1 u2 u3 ⊢
    clear hwf v0 v1 v2 v3 HT2 HM2 HO2 HFB2 hwa HX CI HC HRa
    go_wp2_with (fail)
    have HS1 : wf.drew.cell? ⟨r, 0, none⟩ = some (.slice A3 D2.length c3) ∧ wf.drew.cell? ⟨w.heap.size, 0, none⟩ = some (.int .i64 1) ∧ wf.drew.cell? ⟨w.heap.size, 1, none⟩ = some (.slice A1 n1 c1) ∧ wf.drew.cell? ⟨w.heap.size, 2, none⟩ = some (.slice A2 n2 c2) := ⟨u3, u0, u1, u2⟩
    refine wp_region_chain (fun W => W.cell? ⟨r, 0, none⟩ = some (.slice A3 D2.length c3) ∧ W.cell? ⟨w.heap.size, 0, none⟩ = some (.int .i64 1) ∧ W.cell? ⟨w.heap.size, 1, none⟩ = some (.slice A1 n1 c1) ∧ W.cell? ⟨w.heap.size, 2, none⟩ = some (.slice A2 n2 c2)) 7 (by as_aux_lemma => kernel_rfl) (N := 11) (by as_aux_lemma => kernel_rfl) ?_; intro hsh
    refine wpAnyC_take0 (i := 0) (k := 7) (v := ?_) (d := some 64) rfl (by rfl) (by as_aux_lemma => kernel_rfl) (by as_aux_lemma => kernel_rfl) (by as_aux_lemma => kernel_rfl) hsh (by decide) (by intro _ _ _ h; exact h) (by assumption) (Or.inl ⟨by rfl, ?hy⟩) ?_; (case hy => (intro W _; go_simp; (try with_reducible rfl))); clear hsh; intro hsh
    refine wpAnyC_take0 (i := 1) (k := 7) (v := ?_) (d := some 65) rfl (by rfl) (by as_aux_lemma => kernel_rfl) (by as_aux_lemma => kernel_rfl) (by as_aux_lemma => kernel_rfl) hsh (by decide) (by intro _ _ _ h; exact h) (by assumption) (Or.inl ⟨by rfl, ?hy⟩) ?_; (case hy => (intro W _; go_simp; (try with_reducible rfl))); clear hsh; intro hsh
    refine wpAnyC_take0 (i := 2) (k := 7) (v := ?_) (d := some 66) rfl (by rfl) (by as_aux_lemma => kernel_rfl) (by as_aux_lemma => kernel_rfl) (by as_aux_lemma => kernel_rfl) hsh (by decide) (by intro _ _ _ h; exact h) (by assumption) (Or.inl ⟨by rfl, ?hy⟩) ?_; (case hy => (intro W _; go_simp; (try with_reducible rfl))); clear hsh; intro hsh
    refine wpAnyC_take0 (i := 3) (k := 7) (v := ?_) (d := some 67) rfl (by rfl) (by as_aux_lemma => kernel_rfl) (by as_aux_lemma => kernel_rfl) (by as_aux_lemma => kernel_rfl) hsh (by decide) (by intro _ _ _ h; exact h) (by assumption) (Or.inl ⟨by rfl, ?hy⟩) ?_; (case hy => (intro W _; go_simp; (try with_reducible rfl))); clear hsh; intro hsh
    refine wpAnyC_take (i := 4) (k := 7) (f := 40) (v := ?_) (d := some 68) rfl (by rfl) (by as_aux_lemma => kernel_rfl) (by as_aux_lemma => kernel_rfl) (by as_aux_lemma => kernel_rfl) hsh (by decide) (by as_aux_lemma => kernel_rfl) (by intro _ _ _ h; exact h) (by assumption) (Or.inl ⟨by rfl, ?hy⟩) ?_; (case hy => (rintro W ⟨y0, y1, y2, y3⟩; go_simp; (try with_reducible rfl))); clear hsh; intro hsh
    refine wpAnyC_take (i := 5) (k := 7) (f := 40) (v := ?_) (d := some 69) rfl (by rfl) (by as_aux_lemma => kernel_rfl) (by as_aux_lemma => kernel_rfl) (by as_aux_lemma => kernel_rfl) hsh (by decide) (by as_aux_lemma => kernel_rfl) (by intro _ _ _ h; exact h) (by assumption) (Or.inl ⟨by rfl, ?hy⟩) ?_; (case hy => (rintro W ⟨y0, y1, y2, y3⟩; go_simp; (try with_reducible rfl))); clear hsh; intro hsh
    refine wpAnyC_ready (rs := [6]) (by as_aux_lemma => kernel_rfl) (by simp) ?_; refine AllC.cons (i := 6) rfl (by as_aux_lemma => kernel_rfl) hsh (fun K hK => ?_) AllC.nil
    go_simp
    have HBx : Hid (Below wf.heap.size wf (wf.drew.alloc (.cells #[.int .i64 1, .slice A1 n1 c1, .slice A2 n2 c2] 64))) := hide ((below_drewN (Below.refl wf.heap.size wf) 1).alloc (Nat.le_refl _) _)
    have HS2 : (wf.drew.alloc (.cells #[.int .i64 1, .slice A1 n1 c1, .slice A2 n2 c2] 64)).cell? ⟨r, 0, none⟩ = some (.slice A3 D2.length c3) ∧ (wf.drew.alloc (.cells #[.int .i64 1, .slice A1 n1 c1, .slice A2 n2 c2] 64)).cell? ⟨w.heap.size, 0, none⟩ = some (.int .i64 1) ∧ (wf.drew.alloc (.cells #[.int .i64 1, .slice A1 n1 c1, .slice A2 n2 c2] 64)).cell? ⟨w.heap.size, 1, none⟩ = some (.slice A1 n1 c1) ∧ (wf.drew.alloc (.cells #[.int .i64 1, .slice A1 n1 c1, .slice A2 n2 c2] 64)).cell? ⟨w.heap.size, 2, none⟩ = some (.slice A2 n2 c2) :=
      ⟨block_cell (block_below HM1.out HBx.out) 0, block_cell (block_below HT1.out HBx.out) 0, block_cell (block_below HT1.out HBx.out) 1, block_cell (block_below HT1.out HBx.out) 2⟩
    refine hK _ _ (fun _ => HS2) ?_
    clear hK K hsh HS1
    intro hsh
    refine wpAnyC_tail (by as_aux_lemma => kernel_rfl) (by simp) (by as_aux_lemma => kernel_rfl) ?_; simp only [List.drop_succ_cons, List.drop_zero]; clear hsh
    clear HS2
    go_simp
    have HOd := hide (own_below HO1.out (below_drewN (Below.refl wf.heap.size wf) 1))
    have HBd := hide (HFB1.out.trans ((below_drewN (Below.refl wf.heap.size wf) 1).mono HFB1.out.size))
    have hzf := HFB1.out.size
    refine wpList_append_own_at _ (by rfl) (.tmp 68) (.tmp 70) 23 (by rfl) B 64 i0 (.agg #[.int .i64 0, .slice none 0 0, .slice none 0 0]) 3 56 Tryd.underlying23 hi0 iz0 iz1 iz2 rfl (by decide) (.slice A3 D2.length c3) D2.length css.flatten (by rfl) (HOd.out.alloc _) ⟨wf.heap.size, 0, none⟩ 1 1 [.int .i64 1, .slice A1 n1 c1, .slice A2 n2 c2] (by rfl) (by rfl) (cells_new wf.drew [.int .i64 1, .slice A1 n1 c1, .slice A2 n2 c2] _) (by intro u hu; simp at hu; rcases hu with rfl | rfl | rfl <;> rfl) (by unfold maxLen; omega) (by omega) (Nat.le_trans hBw2 (HFB1.out.trans (HBx.out.mono hzf)).size) ?_
    intro v' w3 hown hgr _ hat
    have HP := hide (rg_push hBw2 HBr.out hdlb2 HG1.out HG2.out HG3.out HTI.out (HFB1.out.trans (HBx.out.mono hzf)) hown hgr hat)
    obtain ⟨ao, cp, rfl⟩ := own_sl hown
    have h1x := block_below HG1.out (HFB1.out.trans (HBx.out.mono hzf))
    have h13 : w3.heap[r]? = some (.cells #[.slice A3 D2.length c3] 54 (0, 0)) := (hgr.block r (lt_of_block h1x) (fun e => own_other' HG2.out HG1.out (by decide) e.symm)).trans h1x
    have b3 : w3.frozen? ⟨r, 0, none⟩ = false := block_free h13 0
    have b4 : w3.cell? ⟨r, 0, none⟩ = some (.slice A3 D2.length c3) := block_cell h13 0
    clear h1x h13
    clear hown hgr hat
    go_wp2_with (fail)
    go_ret
    exact ⟨rfl, HR0.out.trans (HR2.out.trans HP.out)⟩
  · obtain ⟨wf, hwf⟩ : ∃ x, (w2.alloc (.cells #[.bool true] 4)).drew = x := ⟨_, rfl⟩
    rw [hwf] at HFB2 HT2 HM2 HO2 v0 v1 v2 v3 ⊢
    clear hwf u0 u1 u2 u3 HT1 HM1 HO1 HFB1 hwa HX CI HC HRa
    have hzf := HFB2.out.size
    have HBx : Hid (Below wf.heap.size wf (wf.alloc (.cells #[.int .i64 0, .slice none 0 0, .slice none 0 0] 64))) := hide ((Below.refl wf.heap.size wf).alloc (Nat.le_refl _) _)
    have hrt : w.heap.size ≠ r := by omega
    have hlt : (D2.length : Int) < (D2.length : Int) + 1 := by omega
    have hfl : css.flatten.length = D2.length * 3 := by rw [flat3_len css HG3.out.all3, HG3.out.len]
    have HFL := hide (fun x y z : Value => show (css.flatten ++ [x, y, z])[D2.length * 3]? = some x by rw [List.getElem?_append_right (by omega), hfl]; simp)
    have HFL1 := hide (fun x y z : Value => show (css.flatten ++ [x, y, z])[D2.length * 3 + 1]? = some y by rw [List.getElem?_append_right (by omega), hfl]; simp)
    have HFL2 := hide (fun x y z : Value => show (css.flatten ++ [x, y, z])[D2.length * 3 + 2]? = some z by rw [List.getElem?_append_right (by omega), hfl]; simp)
    clear hfl
    go_wp2_with (at_builtin; refine wpList_append_own_at _ (by rfl) (.tmp 56) (.tmp 58) 23 (by rfl) B 64 i0 (.agg #[.int .i64 0, .slice none 0 0, .slice none 0 0]) 3 56 Tryd.underlying23 hi0 iz0 iz1 iz2 rfl (by decide) (.slice A3 D2.length c3) D2.length css.flatten (by rfl) (HO2.out.alloc _) ⟨wf.heap.size, 0, none⟩ 1 1 [.int .i64 0, .slice none 0 0, .slice none 0 0] (by rfl) (by rfl) (cells_new wf [.int .i64 0, .slice none 0 0, .slice none 0 0] _) (by intro u hu; simp at hu; rcases hu with rfl | rfl | rfl <;> rfl) (by unfold maxLen; omega) (by omega) (Nat.le_trans hBw2 (HFB2.out.trans (HBx.out.mono hzf)).size) ?_; intro v' w3 hown hgr _ hat; obtain ⟨g, cp, cur, rfl, hbg, hgb, hncp, hcpm, _⟩ := own_blk hown (Nat.succ_pos _); have HP := hide (rg_push (t := tyZero) hBw2 HBr.out hdlb2 HG1.out HG2.out HG3.out (tyZero_in w2 B _) (HFB2.out.trans (HBx.out.mono hzf)) hown hgr hat); have h1x := hide (block_below HG1.out (HFB2.out.trans (HBx.out.mono hzf))); have h13 : Hid (w3.heap[r]? = some (.cells #[.slice A3 D2.length c3] 54 (0, 0))) := hide ((hgr.block r (lt_of_block h1x.out) (fun e => own_other' HG2.out HG1.out (by decide) e.symm)).trans h1x.out); have b3 : w3.frozen? ⟨r, 0, none⟩ = false := block_free h13.out 0; have b4 : w3.cell? ⟨r, 0, none⟩ = some (.slice A3 D2.length c3) := block_cell h13.out 0; have HGT := hide ((hgr.block _ (lt_of_block (block_below HT2.out HBx.out)) (fun e => HNB.out e.symm)).trans (block_below HT2.out HBx.out)); have HOW := hide (ownsRow_setCell_other hown (a := ⟨r, 0, none⟩) (own_other' hown h13.out (by decide)) (.slice (some ⟨g, 0, none⟩) (D2.length + 1) cp)); have HB5 := hide (block_set h13.out (i := 0) (.slice (some ⟨g, 0, none⟩) (D2.length + 1) cp)); have HT5 := hide (block_set_other HGT.out ⟨r, 0, none⟩ (.slice (some ⟨g, 0, none⟩) (D2.length + 1) cp) hrt); have v0 : (w3.setCell ⟨r, 0, none⟩ (.slice (some ⟨g, 0, none⟩) (D2.length + 1) cp)).cell? ⟨w.heap.size, 0, none⟩ = some (.int .i64 1) := block_cell HT5.out 0; have v1 : (w3.setCell ⟨r, 0, none⟩ (.slice (some ⟨g, 0, none⟩) (D2.length + 1) cp)).cell? ⟨w.heap.size, 1, none⟩ = some (.slice A1 n1 c1) := block_cell HT5.out 1; have v2 : (w3.setCell ⟨r, 0, none⟩ (.slice (some ⟨g, 0, none⟩) (D2.length + 1) cp)).cell? ⟨w.heap.size, 2, none⟩ = some (.slice A2 n2 c2) := block_cell HT5.out 2; have q0 : (w3.setCell ⟨r, 0, none⟩ (.slice (some ⟨g, 0, none⟩) (D2.length + 1) cp)).cell? ⟨g, D2.length * 3, none⟩ = some (.int .i64 0) := own_cell HOW.out _ _ (HFL.out _ _ _); have q1 : (w3.setCell ⟨r, 0, none⟩ (.slice (some ⟨g, 0, none⟩) (D2.length + 1) cp)).cell? ⟨g, D2.length * 3 + 1, none⟩ = some (.slice none 0 0) := own_cell HOW.out _ _ (HFL1.out _ _ _); have q2 : (w3.setCell ⟨r, 0, none⟩ (.slice (some ⟨g, 0, none⟩) (D2.length + 1) cp)).cell? ⟨g, D2.length * 3 + 2, none⟩ = some (.slice none 0 0) := own_cell HOW.out _ _ (HFL2.out _ _ _); have z0 : (w3.setCell ⟨r, 0, none⟩ (.slice (some ⟨g, 0, none⟩) (D2.length + 1) cp)).frozen? ⟨g, D2.length * 3, none⟩ = false := own_free HOW.out _; have z1 : (w3.setCell ⟨r, 0, none⟩ (.slice (some ⟨g, 0, none⟩) (D2.length + 1) cp)).frozen? ⟨g, D2.length * 3 + 1, none⟩ = false := own_free HOW.out _; have z2 : (w3.setCell ⟨r, 0, none⟩ (.slice (some ⟨g, 0, none⟩) (D2.length + 1) cp)).frozen? ⟨g, D2.length * 3 + 2, none⟩ = false := own_free HOW.out _; have HQ := hide (rg_set (t := t) (Nat.le_trans hBw2 HP.out.be.size) HBr.out rfl hdlb2 HB5.out HOW.out (HG3.out.below HP.out.be) (HTI.out.below HP.out.be)); clear hown hgr hat)
    go_ret
    exact ⟨rfl, HR0.out.trans (HR2.out.trans (HP.out.trans HQ.out))⟩
set_option maxRecDepth 100000 in
set_option maxHeartbeats 8000000 in
theorem rOne_k2 {f : Nat} (HO : rOneOk f) (k : Nat) (t : Ty) (cs : List Value) (B r : Nat) (d : List Ty) (w : World) (hin : TyIn w B k t cs) (hgt : Good (f + 1) t ∧ Txt (f + 1) t) (hf12 : f + 1 ≤ 12) (hd : DOk d) (hdc : d.length + cnt (f + 1) t ≤ 999) (hc5 : cnt (f + 1) t ≤ 500) (hp : plc d t = none) (hst : RgS B r k d w) (hBw : B ≤ w.heap.size) (hK : t.kind = 2) :
    Calls Tryd.prog 24 #[.pointer (some ⟨r, 0, none⟩), .agg cs.toArray] w fun e w' => e = .returned (.string ⟨(mgT (f + 1) t d).1.toArray⟩) ∧ RgR B r k (mgT (f + 1) t d).2 w w' := by
  have hin0 := hin
  obtain ⟨hg, htx⟩ := hgt
  obtain ⟨hnt, hdb, hdlb⟩ := body_new hf12 ⟨hg, htx⟩ hd hp
  have HA := hide ((Below.refl w.heap.size w).alloc (Nat.le_refl _) (.cells cs.toArray 64))
  have HX := hide (heap_alloc_new w (.cells cs.toArray 64))
  have HR0 := hide ((RgR.refl hst).below hBw HA.out)
  have hrl := hst.lt
  obtain ⟨i0, hi0, iz0, iz1, iz2⟩ := info_parts info_tyR
  have HBr := hide hst.hB
  have HNR := hide (show ¬ RowB r (w.alloc (.cells cs.toArray 64)) w.heap.size from fun ⟨v, e1, e2⟩ => by
    rw [HA.out.block r hrl] at e1
    exact absurd (rowB_lt hst ⟨v, e1, e2⟩) (Nat.lt_irrefl _))
  obtain ⟨wa, hwa⟩ : ∃ x, w.alloc (.cells cs.toArray 64) = x := ⟨_, rfl⟩
  have hBa : B ≤ wa.heap.size := by rw [← hwa]; exact Nat.le_trans hBw HA.out.size
  rw [hwa] at HA HX HR0 HNR
  obtain ⟨A, c, hc0, hty⟩ := HR0.out.st.tys hBa
  have hdl := hst.len
  have CI := hide (IdxT_any k t cs w.heap.size A d.length c d wa (by unfold maxLen; omega) hty ((hin.below (HA.out.mono hBw)).more hBa) HX.out)
  rw [show plcI d t = -1 by unfold plcI; rw [hp]] at CI
  rw [cnt_eq] at hdc hc5
  have htbl : w.heap.size < wa.heap.size := lt_of_block HX.out
  have HMG := hide (show (mgT (f + 1) t d).1 = (mgBody (mgT f) t d).1 ∧ (mgT (f + 1) t d).2 = (mgBody (mgT f) t d).2 ++ [t] from ⟨by rw [mgT, hp], by rw [mgT, hp]⟩)
  rw [HMG.out.1, HMG.out.2]
  have HIN := hide hin0
  cases k with
  | zero => exact hin.elim
  | succ k =>
  obtain ⟨A1, n1, c1, A2, n2, c2, rfl, hn, hm, hn2, hm2, hl, hl2⟩ := hin
  obtain ⟨⟨hk1, hk4⟩, h1, h2, h3, h4, h5⟩ := hg
  obtain ⟨t1, t2⟩ := htx
  have HKK := hide hK
  rw [hK] at h1 h2 h3 HX hwa HIN ⊢
  have HRa := hide (RgR.refl HR0.out.st)
  have HD := hide hd
  obtain ⟨hn0, hp1, hp2⟩ := h2 (by decide)
  have hn1 := h3 (by decide)
  have hnl := hl2.len
  obtain ⟨o, q, u, cu, rfl, ho, hu, hinu, hcu⟩ := hl2.at_ (k := 0) (by omega)
  have hof : t.of = [u] := by
    match hL : t.of, hn1 with
    | [y], _ => rw [hL] at hu; simp at hu; rw [hu]
  have hum := List.mem_of_getElem? hu
  have HUG := hide (⟨h5 u hum, t2 u hum⟩ : Good f u ∧ Txt f u)
  have hcn : cntTys f t.of = cnt f u := by rw [hof]; simp [cntTys, sumN]
  have hmb : mgBody (mgT f) t d = (82 :: (mgT f u d).1, (mgT f u d).2) := by unfold mgBody; rw [if_neg (by rw [HKK.out]; decide), if_neg (by rw [HKK.out]; decide), if_pos (by rw [HKK.out]), hof]; simp [mgFold]
  have hlen := mgT_len f u d (by omega) HUG.out HD.out (by omega)
  have HC := hide (fun w1 (hb : Below B w w1) h => HO (k + 1) u cu B r d w1 ((hinu.below hb).deep (Nat.le_succ _)) HUG.out (by omega) HD.out (by omega) (by omega) h)
  rw [hmb]
  rw [hmb] at hdlb
  obtain ⟨X, hX⟩ : ∃ X : ByteArray, ⟨(mgT f u d).1.toArray⟩ = X := ⟨_, rfl⟩
  obtain ⟨D2, hD2⟩ : ∃ x, (mgT f u d).2 = x := ⟨_, rfl⟩
  have HXX := hide (show X.data.toList = (mgT f u d).1 by rw [← hX])
  have hXl : X.size ≤ 710000 := by
    have h1 : X.size = (mgT f u d).1.length := by rw [← hX]; rfl
    omega
  rw [hX, hD2] at HC
  have HE := hide (show (⟨(82 :: (mgT f u d).1).toArray⟩ : ByteArray) = (⟨#[82]⟩ : ByteArray) ++ X from (str_eq (by rw [app_toL, HXX.out]; simp)).symm)
  simp only [] at hdlb ⊢
  rw [HE.out, hD2]
  rw [hD2] at hdlb
  have hdlb2 : D2.length + 1 ≤ 1000 := by rw [cnt_eq] at hdlb; omega
  have s70 : (⟨#[82]⟩ : ByteArray).size = 1 := rfl
  have nb1 : ¬ 9223372036854775807 < 1 + X.size := by omega
  have hn2p : (0 : Int) < (n2 : Int) := by omega
  cases k with
  | zero => exact hinu.elim
  | succ k =>
  obtain ⟨F1, m1, e1, F2, m2, e2, rfl, _⟩ := hinu
  have HCU := hide hcu
  clear hl hcu h1 h2 h3 h4 h5 t1 t2 hty hX hD2 hmb hdb hnt hp hst hd hin0 HMG hK HXX HE hof hum hcn hu HUG
  go_enter Tryd.func24, Tryd.ntmps24
  go_wp2_with (first | (go_at_call 32; refine CI.out.mono ?_; rintro e w1 ⟨rfl, hw1⟩; have HR1 := hide (HRa.out.below hBa hw1); have HX1 := hide (block_below HX.out hw1); have x0 : w1.cell? ⟨w.heap.size, 0, none⟩ = some (.int .i64 2) := block_cell HX1.out 0; have x1 : w1.cell? ⟨w.heap.size, 1, none⟩ = some (.slice A1 n1 c1) := block_cell HX1.out 1; have x2 : w1.cell? ⟨w.heap.size, 2, none⟩ = some (.slice (some ⟨o, q, none⟩) n2 c2) := block_cell HX1.out 2; have HBB := hide (HR0.out.trans HR1.out).be; have cc0 : w1.cell? ⟨o, q, none⟩ = some (.int .i64 u.kind) := (HBB.out.cell (p := ⟨o, q, none⟩) ho).trans (by simpa using HCU.out 0 _ rfl); have cc1 : w1.cell? ⟨o, q + 1, none⟩ = some (.slice F1 m1 e1) := (HBB.out.cell (p := ⟨o, q + 1, none⟩) ho).trans (by simpa using HCU.out 1 _ rfl); have cc2 : w1.cell? ⟨o, q + 2, none⟩ = some (.slice F2 m2 e2) := (HBB.out.cell (p := ⟨o, q + 2, none⟩) ho).trans (by simpa using HCU.out 2 _ rfl); clear hw1) | (go_at_call 24; refine (HC.out w1 (HR0.out.trans HR1.out).be HR1.out.st (Nat.le_trans hBw (HR0.out.trans HR1.out).be.size)).mono ?_; rintro e w2 ⟨rfl, hr2⟩; have HR2 := hide (HR1.out.trans hr2); clear hr2))
  have hz2 := HR2.out.be.size
  have hBw2 := Nat.le_trans hBa hz2
  have HXT := hide (HR2.out.kept _ _ HX.out (fun e => by omega) HNR.out)
  obtain ⟨v, css, g1, g2, g3⟩ := HR2.out.st.st
  obtain ⟨A3, c3, rfl⟩ := own_sl g2
  have HNB := hide (show (Value.slice A3 D2.length c3).ownBlock ≠ some w.heap.size from fun e => by
    rcases HR2.out.row _ ⟨_, g1, e⟩ with h | h
    · exact HNR.out h
    · omega)
  have HG1 := hide g1
  have HG2 := hide g2
  have HG3 := hide g3
  have HTI := hide (HIN.out.below (HR0.out.trans HR2.out).be)
  have HFB : ∀ q, Below w2.heap.size w2 (w2.alloc (.cells #[.bool q] 4)).drew := fun q => ((Below.refl w2.heap.size w2).alloc (Nat.le_refl _) (.cells #[.bool q] 4)).trans (below_drewN (Below.refl w2.heap.size _) 1)
  have HFB1 := hide (HFB false)
  have HFB2 := hide (HFB true)
  have HT1 := hide (block_below HXT.out HFB1.out)
  have HT2 := hide (block_below HXT.out HFB2.out)
  have HM1 := hide (block_below HG1.out HFB1.out)
  have HM2 := hide (block_below HG1.out HFB2.out)
  have HO1 := hide (own_below HG2.out HFB1.out)
  have HO2 := hide (own_below HG2.out HFB2.out)
  have u0 : (w2.alloc (.cells #[.bool false] 4)).drew.cell? ⟨w.heap.size, 0, none⟩ = some (.int .i64 2) := block_cell HT1.out 0
  have u1 : (w2.alloc (.cells #[.bool false] 4)).drew.cell? ⟨w.heap.size, 1, none⟩ = some (.slice A1 n1 c1) := block_cell HT1.out 1
  have u2 : (w2.alloc (.cells #[.bool false] 4)).drew.cell? ⟨w.heap.size, 2, none⟩ = some (.slice (some ⟨o, q, none⟩) n2 c2) := block_cell HT1.out 2
  have u3 : (w2.alloc (.cells #[.bool false] 4)).drew.cell? ⟨r, 0, none⟩ = some (.slice A3 D2.length c3) := block_cell HM1.out 0
  have v0 : (w2.alloc (.cells #[.bool true] 4)).drew.cell? ⟨w.heap.size, 0, none⟩ = some (.int .i64 2) := block_cell HT2.out 0
  have v1 : (w2.alloc (.cells #[.bool true] 4)).drew.cell? ⟨w.heap.size, 1, none⟩ = some (.slice A1 n1 c1) := block_cell HT2.out 1
  have v2 : (w2.alloc (.cells #[.bool true] 4)).drew.cell? ⟨w.heap.size, 2, none⟩ = some (.slice (some ⟨o, q, none⟩) n2 c2) := block_cell HT2.out 2
  have v3 : (w2.alloc (.cells #[.bool true] 4)).drew.cell? ⟨r, 0, none⟩ = some (.slice A3 D2.length c3) := block_cell HM2.out 0
  clear g1 g2 g3 HFB
  go_region
  · obtain ⟨wf, hwf⟩ : ∃ x, (w2.alloc (.cells #[.bool false] 4)).drew = x := ⟨_, rfl⟩
    rw [hwf] at HFB1 HT1 HM1 HO1 u0 u1 u2 u3 ⊢
    clear hwf v0 v1 v2 v3 HT2 HM2 HO2 HFB2 hwa HX CI HC HRa
    go_wp2_with (fail)
    have HS1 : wf.drew.cell? ⟨r, 0, none⟩ = some (.slice A3 D2.length c3) ∧ wf.drew.cell? ⟨w.heap.size, 0, none⟩ = some (.int .i64 2) ∧ wf.drew.cell? ⟨w.heap.size, 1, none⟩ = some (.slice A1 n1 c1) ∧ wf.drew.cell? ⟨w.heap.size, 2, none⟩ = some (.slice (some ⟨o, q, none⟩) n2 c2) := ⟨u3, u0, u1, u2⟩
    refine wp_region_chain (fun W => W.cell? ⟨r, 0, none⟩ = some (.slice A3 D2.length c3) ∧ W.cell? ⟨w.heap.size, 0, none⟩ = some (.int .i64 2) ∧ W.cell? ⟨w.heap.size, 1, none⟩ = some (.slice A1 n1 c1) ∧ W.cell? ⟨w.heap.size, 2, none⟩ = some (.slice (some ⟨o, q, none⟩) n2 c2)) 7 (by as_aux_lemma => kernel_rfl) (N := 11) (by as_aux_lemma => kernel_rfl) ?_; intro hsh
    refine wpAnyC_take0 (i := 0) (k := 7) (v := ?_) (d := some 64) rfl (by rfl) (by as_aux_lemma => kernel_rfl) (by as_aux_lemma => kernel_rfl) (by as_aux_lemma => kernel_rfl) hsh (by decide) (by intro _ _ _ h; exact h) (by assumption) (Or.inl ⟨by rfl, ?hy⟩) ?_; (case hy => (intro W _; go_simp; (try with_reducible rfl))); clear hsh; intro hsh
    refine wpAnyC_take0 (i := 1) (k := 7) (v := ?_) (d := some 65) rfl (by rfl) (by as_aux_lemma => kernel_rfl) (by as_aux_lemma => kernel_rfl) (by as_aux_lemma => kernel_rfl) hsh (by decide) (by intro _ _ _ h; exact h) (by assumption) (Or.inl ⟨by rfl, ?hy⟩) ?_; (case hy => (intro W _; go_simp; (try with_reducible rfl))); clear hsh; intro hsh
    refine wpAnyC_take0 (i := 2) (k := 7) (v := ?_) (d := some 66) rfl (by rfl) (by as_aux_lemma => kernel_rfl) (by as_aux_lemma => kernel_rfl) (by as_aux_lemma => kernel_rfl) hsh (by decide) (by intro _ _ _ h; exact h) (by assumption) (Or.inl ⟨by rfl, ?hy⟩) ?_; (case hy => (intro W _; go_simp; (try with_reducible rfl))); clear hsh; intro hsh
    refine wpAnyC_take0 (i := 3) (k := 7) (v := ?_) (d := some 67) rfl (by rfl) (by as_aux_lemma => kernel_rfl) (by as_aux_lemma => kernel_rfl) (by as_aux_lemma => kernel_rfl) hsh (by decide) (by intro _ _ _ h; exact h) (by assumption) (Or.inl ⟨by rfl, ?hy⟩) ?_; (case hy => (intro W _; go_simp; (try with_reducible rfl))); clear hsh; intro hsh
    refine wpAnyC_take (i := 4) (k := 7) (f := 40) (v := ?_) (d := some 68) rfl (by rfl) (by as_aux_lemma => kernel_rfl) (by as_aux_lemma => kernel_rfl) (by as_aux_lemma => kernel_rfl) hsh (by decide) (by as_aux_lemma => kernel_rfl) (by intro _ _ _ h; exact h) (by assumption) (Or.inl ⟨by rfl, ?hy⟩) ?_; (case hy => (rintro W ⟨y0, y1, y2, y3⟩; go_simp; (try with_reducible rfl))); clear hsh; intro hsh
    refine wpAnyC_take (i := 5) (k := 7) (f := 40) (v := ?_) (d := some 69) rfl (by rfl) (by as_aux_lemma => kernel_rfl) (by as_aux_lemma => kernel_rfl) (by as_aux_lemma => kernel_rfl) hsh (by decide) (by as_aux_lemma => kernel_rfl) (by intro _ _ _ h; exact h) (by assumption) (Or.inl ⟨by rfl, ?hy⟩) ?_; (case hy => (rintro W ⟨y0, y1, y2, y3⟩; go_simp; (try with_reducible rfl))); clear hsh; intro hsh
    refine wpAnyC_ready (rs := [6]) (by as_aux_lemma => kernel_rfl) (by simp) ?_; refine AllC.cons (i := 6) rfl (by as_aux_lemma => kernel_rfl) hsh (fun K hK => ?_) AllC.nil
    go_simp
    have HBx : Hid (Below wf.heap.size wf (wf.drew.alloc (.cells #[.int .i64 2, .slice A1 n1 c1, .slice (some ⟨o, q, none⟩) n2 c2] 64))) := hide ((below_drewN (Below.refl wf.heap.size wf) 1).alloc (Nat.le_refl _) _)
    have HS2 : (wf.drew.alloc (.cells #[.int .i64 2, .slice A1 n1 c1, .slice (some ⟨o, q, none⟩) n2 c2] 64)).cell? ⟨r, 0, none⟩ = some (.slice A3 D2.length c3) ∧ (wf.drew.alloc (.cells #[.int .i64 2, .slice A1 n1 c1, .slice (some ⟨o, q, none⟩) n2 c2] 64)).cell? ⟨w.heap.size, 0, none⟩ = some (.int .i64 2) ∧ (wf.drew.alloc (.cells #[.int .i64 2, .slice A1 n1 c1, .slice (some ⟨o, q, none⟩) n2 c2] 64)).cell? ⟨w.heap.size, 1, none⟩ = some (.slice A1 n1 c1) ∧ (wf.drew.alloc (.cells #[.int .i64 2, .slice A1 n1 c1, .slice (some ⟨o, q, none⟩) n2 c2] 64)).cell? ⟨w.heap.size, 2, none⟩ = some (.slice (some ⟨o, q, none⟩) n2 c2) :=
      ⟨block_cell (block_below HM1.out HBx.out) 0, block_cell (block_below HT1.out HBx.out) 0, block_cell (block_below HT1.out HBx.out) 1, block_cell (block_below HT1.out HBx.out) 2⟩
    refine hK _ _ (fun _ => HS2) ?_
    clear hK K hsh HS1
    intro hsh
    refine wpAnyC_tail (by as_aux_lemma => kernel_rfl) (by simp) (by as_aux_lemma => kernel_rfl) ?_; simp only [List.drop_succ_cons, List.drop_zero]; clear hsh
    clear HS2
    go_simp
    have HOd := hide (own_below HO1.out (below_drewN (Below.refl wf.heap.size wf) 1))
    have HBd := hide (HFB1.out.trans ((below_drewN (Below.refl wf.heap.size wf) 1).mono HFB1.out.size))
    have hzf := HFB1.out.size
    refine wpList_append_own_at _ (by rfl) (.tmp 68) (.tmp 70) 23 (by rfl) B 64 i0 (.agg #[.int .i64 0, .slice none 0 0, .slice none 0 0]) 3 56 Tryd.underlying23 hi0 iz0 iz1 iz2 rfl (by decide) (.slice A3 D2.length c3) D2.length css.flatten (by rfl) (HOd.out.alloc _) ⟨wf.heap.size, 0, none⟩ 1 1 [.int .i64 2, .slice A1 n1 c1, .slice (some ⟨o, q, none⟩) n2 c2] (by rfl) (by rfl) (cells_new wf.drew [.int .i64 2, .slice A1 n1 c1, .slice (some ⟨o, q, none⟩) n2 c2] _) (by intro u hu; simp at hu; rcases hu with rfl | rfl | rfl <;> rfl) (by unfold maxLen; omega) (by omega) (Nat.le_trans hBw2 (HFB1.out.trans (HBx.out.mono hzf)).size) ?_
    intro v' w3 hown hgr _ hat
    have HP := hide (rg_push hBw2 HBr.out hdlb2 HG1.out HG2.out HG3.out HTI.out (HFB1.out.trans (HBx.out.mono hzf)) hown hgr hat)
    obtain ⟨ao, cp, rfl⟩ := own_sl hown
    have h1x := block_below HG1.out (HFB1.out.trans (HBx.out.mono hzf))
    have h13 : w3.heap[r]? = some (.cells #[.slice A3 D2.length c3] 54 (0, 0)) := (hgr.block r (lt_of_block h1x) (fun e => own_other' HG2.out HG1.out (by decide) e.symm)).trans h1x
    have b3 : w3.frozen? ⟨r, 0, none⟩ = false := block_free h13 0
    have b4 : w3.cell? ⟨r, 0, none⟩ = some (.slice A3 D2.length c3) := block_cell h13 0
    clear h1x h13
    clear hown hgr hat
    go_wp2_with (fail)
    go_ret
    exact ⟨rfl, HR0.out.trans (HR2.out.trans HP.out)⟩
  · obtain ⟨wf, hwf⟩ : ∃ x, (w2.alloc (.cells #[.bool true] 4)).drew = x := ⟨_, rfl⟩
    rw [hwf] at HFB2 HT2 HM2 HO2 v0 v1 v2 v3 ⊢
    clear hwf u0 u1 u2 u3 HT1 HM1 HO1 HFB1 hwa HX CI HC HRa
    have hzf := HFB2.out.size
    have HBx : Hid (Below wf.heap.size wf (wf.alloc (.cells #[.int .i64 0, .slice none 0 0, .slice none 0 0] 64))) := hide ((Below.refl wf.heap.size wf).alloc (Nat.le_refl _) _)
    have hrt : w.heap.size ≠ r := by omega
    have hlt : (D2.length : Int) < (D2.length : Int) + 1 := by omega
    have hfl : css.flatten.length = D2.length * 3 := by rw [flat3_len css HG3.out.all3, HG3.out.len]
    have HFL := hide (fun x y z : Value => show (css.flatten ++ [x, y, z])[D2.length * 3]? = some x by rw [List.getElem?_append_right (by omega), hfl]; simp)
    have HFL1 := hide (fun x y z : Value => show (css.flatten ++ [x, y, z])[D2.length * 3 + 1]? = some y by rw [List.getElem?_append_right (by omega), hfl]; simp)
    have HFL2 := hide (fun x y z : Value => show (css.flatten ++ [x, y, z])[D2.length * 3 + 2]? = some z by rw [List.getElem?_append_right (by omega), hfl]; simp)
    clear hfl
    go_wp2_with (at_builtin; refine wpList_append_own_at _ (by rfl) (.tmp 56) (.tmp 58) 23 (by rfl) B 64 i0 (.agg #[.int .i64 0, .slice none 0 0, .slice none 0 0]) 3 56 Tryd.underlying23 hi0 iz0 iz1 iz2 rfl (by decide) (.slice A3 D2.length c3) D2.length css.flatten (by rfl) (HO2.out.alloc _) ⟨wf.heap.size, 0, none⟩ 1 1 [.int .i64 0, .slice none 0 0, .slice none 0 0] (by rfl) (by rfl) (cells_new wf [.int .i64 0, .slice none 0 0, .slice none 0 0] _) (by intro u hu; simp at hu; rcases hu with rfl | rfl | rfl <;> rfl) (by unfold maxLen; omega) (by omega) (Nat.le_trans hBw2 (HFB2.out.trans (HBx.out.mono hzf)).size) ?_; intro v' w3 hown hgr _ hat; obtain ⟨g, cp, cur, rfl, hbg, hgb, hncp, hcpm, _⟩ := own_blk hown (Nat.succ_pos _); have HP := hide (rg_push (t := tyZero) hBw2 HBr.out hdlb2 HG1.out HG2.out HG3.out (tyZero_in w2 B _) (HFB2.out.trans (HBx.out.mono hzf)) hown hgr hat); have h1x := hide (block_below HG1.out (HFB2.out.trans (HBx.out.mono hzf))); have h13 : Hid (w3.heap[r]? = some (.cells #[.slice A3 D2.length c3] 54 (0, 0))) := hide ((hgr.block r (lt_of_block h1x.out) (fun e => own_other' HG2.out HG1.out (by decide) e.symm)).trans h1x.out); have b3 : w3.frozen? ⟨r, 0, none⟩ = false := block_free h13.out 0; have b4 : w3.cell? ⟨r, 0, none⟩ = some (.slice A3 D2.length c3) := block_cell h13.out 0; have HGT := hide ((hgr.block _ (lt_of_block (block_below HT2.out HBx.out)) (fun e => HNB.out e.symm)).trans (block_below HT2.out HBx.out)); have HOW := hide (ownsRow_setCell_other hown (a := ⟨r, 0, none⟩) (own_other' hown h13.out (by decide)) (.slice (some ⟨g, 0, none⟩) (D2.length + 1) cp)); have HB5 := hide (block_set h13.out (i := 0) (.slice (some ⟨g, 0, none⟩) (D2.length + 1) cp)); have HT5 := hide (block_set_other HGT.out ⟨r, 0, none⟩ (.slice (some ⟨g, 0, none⟩) (D2.length + 1) cp) hrt); have v0 : (w3.setCell ⟨r, 0, none⟩ (.slice (some ⟨g, 0, none⟩) (D2.length + 1) cp)).cell? ⟨w.heap.size, 0, none⟩ = some (.int .i64 2) := block_cell HT5.out 0; have v1 : (w3.setCell ⟨r, 0, none⟩ (.slice (some ⟨g, 0, none⟩) (D2.length + 1) cp)).cell? ⟨w.heap.size, 1, none⟩ = some (.slice A1 n1 c1) := block_cell HT5.out 1; have v2 : (w3.setCell ⟨r, 0, none⟩ (.slice (some ⟨g, 0, none⟩) (D2.length + 1) cp)).cell? ⟨w.heap.size, 2, none⟩ = some (.slice (some ⟨o, q, none⟩) n2 c2) := block_cell HT5.out 2; have q0 : (w3.setCell ⟨r, 0, none⟩ (.slice (some ⟨g, 0, none⟩) (D2.length + 1) cp)).cell? ⟨g, D2.length * 3, none⟩ = some (.int .i64 0) := own_cell HOW.out _ _ (HFL.out _ _ _); have q1 : (w3.setCell ⟨r, 0, none⟩ (.slice (some ⟨g, 0, none⟩) (D2.length + 1) cp)).cell? ⟨g, D2.length * 3 + 1, none⟩ = some (.slice none 0 0) := own_cell HOW.out _ _ (HFL1.out _ _ _); have q2 : (w3.setCell ⟨r, 0, none⟩ (.slice (some ⟨g, 0, none⟩) (D2.length + 1) cp)).cell? ⟨g, D2.length * 3 + 2, none⟩ = some (.slice none 0 0) := own_cell HOW.out _ _ (HFL2.out _ _ _); have z0 : (w3.setCell ⟨r, 0, none⟩ (.slice (some ⟨g, 0, none⟩) (D2.length + 1) cp)).frozen? ⟨g, D2.length * 3, none⟩ = false := own_free HOW.out _; have z1 : (w3.setCell ⟨r, 0, none⟩ (.slice (some ⟨g, 0, none⟩) (D2.length + 1) cp)).frozen? ⟨g, D2.length * 3 + 1, none⟩ = false := own_free HOW.out _; have z2 : (w3.setCell ⟨r, 0, none⟩ (.slice (some ⟨g, 0, none⟩) (D2.length + 1) cp)).frozen? ⟨g, D2.length * 3 + 2, none⟩ = false := own_free HOW.out _; have HQ := hide (rg_set (t := t) (Nat.le_trans hBw2 HP.out.be.size) HBr.out rfl hdlb2 HB5.out HOW.out (HG3.out.below HP.out.be) (HTI.out.below HP.out.be)); clear hown hgr hat)
    go_ret
    exact ⟨rfl, HR0.out.trans (HR2.out.trans (HP.out.trans HQ.out))⟩
set_option maxRecDepth 100000 in
set_option maxHeartbeats 8000000 in
theorem rOne_k3 {f : Nat} (HO : rOneOk f) (k : Nat) (t : Ty) (cs : List Value) (B r : Nat) (d : List Ty) (w : World) (hin : TyIn w B k t cs) (hgt : Good (f + 1) t ∧ Txt (f + 1) t) (hf12 : f + 1 ≤ 12) (hd : DOk d) (hdc : d.length + cnt (f + 1) t ≤ 999) (hc5 : cnt (f + 1) t ≤ 500) (hp : plc d t = none) (hst : RgS B r k d w) (hBw : B ≤ w.heap.size) (hK : t.kind = 3) :
    Calls Tryd.prog 24 #[.pointer (some ⟨r, 0, none⟩), .agg cs.toArray] w fun e w' => e = .returned (.string ⟨(mgT (f + 1) t d).1.toArray⟩) ∧ RgR B r k (mgT (f + 1) t d).2 w w' := by
  have hin0 := hin
  obtain ⟨hg, htx⟩ := hgt
  obtain ⟨hnt, hdb, hdlb⟩ := body_new hf12 ⟨hg, htx⟩ hd hp
  have HA := hide ((Below.refl w.heap.size w).alloc (Nat.le_refl _) (.cells cs.toArray 64))
  have HX := hide (heap_alloc_new w (.cells cs.toArray 64))
  have HR0 := hide ((RgR.refl hst).below hBw HA.out)
  have hrl := hst.lt
  obtain ⟨i0, hi0, iz0, iz1, iz2⟩ := info_parts info_tyR
  have HBr := hide hst.hB
  have HNR := hide (show ¬ RowB r (w.alloc (.cells cs.toArray 64)) w.heap.size from fun ⟨v, e1, e2⟩ => by
    rw [HA.out.block r hrl] at e1
    exact absurd (rowB_lt hst ⟨v, e1, e2⟩) (Nat.lt_irrefl _))
  obtain ⟨wa, hwa⟩ : ∃ x, w.alloc (.cells cs.toArray 64) = x := ⟨_, rfl⟩
  have hBa : B ≤ wa.heap.size := by rw [← hwa]; exact Nat.le_trans hBw HA.out.size
  rw [hwa] at HA HX HR0 HNR
  obtain ⟨A, c, hc0, hty⟩ := HR0.out.st.tys hBa
  have hdl := hst.len
  have CI := hide (IdxT_any k t cs w.heap.size A d.length c d wa (by unfold maxLen; omega) hty ((hin.below (HA.out.mono hBw)).more hBa) HX.out)
  rw [show plcI d t = -1 by unfold plcI; rw [hp]] at CI
  rw [cnt_eq] at hdc hc5
  have htbl : w.heap.size < wa.heap.size := lt_of_block HX.out
  have HMG := hide (show (mgT (f + 1) t d).1 = (mgBody (mgT f) t d).1 ∧ (mgT (f + 1) t d).2 = (mgBody (mgT f) t d).2 ++ [t] from ⟨by rw [mgT, hp], by rw [mgT, hp]⟩)
  rw [HMG.out.1, HMG.out.2]
  have HIN := hide hin0
  cases k with
  | zero => exact hin.elim
  | succ k =>
  obtain ⟨A1, n1, c1, A2, n2, c2, rfl, hn, hm, hn2, hm2, hl, hl2⟩ := hin
  obtain ⟨⟨hk1, hk4⟩, h1, h2, h3, h4, h5⟩ := hg
  obtain ⟨t1, t2⟩ := htx
  have HKK := hide hK
  rw [hK] at h1 h2 h3 HX hwa HIN ⊢
  have HRa := hide (RgR.refl HR0.out.st)
  have HD := hide hd
  obtain ⟨hn0, hp1, hp2⟩ := h2 (by decide)
  have hn1 := h3 (by decide)
  have hnl := hl2.len
  obtain ⟨o, q, u, cu, rfl, ho, hu, hinu, hcu⟩ := hl2.at_ (k := 0) (by omega)
  have hof : t.of = [u] := by
    match hL : t.of, hn1 with
    | [y], _ => rw [hL] at hu; simp at hu; rw [hu]
  have hum := List.mem_of_getElem? hu
  have HUG := hide (⟨h5 u hum, t2 u hum⟩ : Good f u ∧ Txt f u)
  have hcn : cntTys f t.of = cnt f u := by rw [hof]; simp [cntTys, sumN]
  have hmb : mgBody (mgT f) t d = (76 :: (mgT f u d).1, (mgT f u d).2) := by unfold mgBody; rw [if_neg (by rw [HKK.out]; decide), if_neg (by rw [HKK.out]; decide), if_neg (by rw [HKK.out]; decide), hof]; simp [mgFold]
  have hlen := mgT_len f u d (by omega) HUG.out HD.out (by omega)
  have HC := hide (fun w1 (hb : Below B w w1) h => HO (k + 1) u cu B r d w1 ((hinu.below hb).deep (Nat.le_succ _)) HUG.out (by omega) HD.out (by omega) (by omega) h)
  rw [hmb]
  rw [hmb] at hdlb
  obtain ⟨X, hX⟩ : ∃ X : ByteArray, ⟨(mgT f u d).1.toArray⟩ = X := ⟨_, rfl⟩
  obtain ⟨D2, hD2⟩ : ∃ x, (mgT f u d).2 = x := ⟨_, rfl⟩
  have HXX := hide (show X.data.toList = (mgT f u d).1 by rw [← hX])
  have hXl : X.size ≤ 710000 := by
    have h1 : X.size = (mgT f u d).1.length := by rw [← hX]; rfl
    omega
  rw [hX, hD2] at HC
  have HE := hide (show (⟨(76 :: (mgT f u d).1).toArray⟩ : ByteArray) = (⟨#[76]⟩ : ByteArray) ++ X from (str_eq (by rw [app_toL, HXX.out]; simp)).symm)
  simp only [] at hdlb ⊢
  rw [HE.out, hD2]
  rw [hD2] at hdlb
  have hdlb2 : D2.length + 1 ≤ 1000 := by rw [cnt_eq] at hdlb; omega
  have s70 : (⟨#[76]⟩ : ByteArray).size = 1 := rfl
  have nb1 : ¬ 9223372036854775807 < 1 + X.size := by omega
  have hn2p : (0 : Int) < (n2 : Int) := by omega
  cases k with
  | zero => exact hinu.elim
  | succ k =>
  obtain ⟨F1, m1, e1, F2, m2, e2, rfl, _⟩ := hinu
  have HCU := hide hcu
  clear hl hcu h1 h2 h3 h4 h5 t1 t2 hty hX hD2 hmb hdb hnt hp hst hd hin0 HMG hK HXX HE hof hum hcn hu HUG
  go_enter Tryd.func24, Tryd.ntmps24
  go_wp2_with (first | (go_at_call 32; refine CI.out.mono ?_; rintro e w1 ⟨rfl, hw1⟩; have HR1 := hide (HRa.out.below hBa hw1); have HX1 := hide (block_below HX.out hw1); have x0 : w1.cell? ⟨w.heap.size, 0, none⟩ = some (.int .i64 3) := block_cell HX1.out 0; have x1 : w1.cell? ⟨w.heap.size, 1, none⟩ = some (.slice A1 n1 c1) := block_cell HX1.out 1; have x2 : w1.cell? ⟨w.heap.size, 2, none⟩ = some (.slice (some ⟨o, q, none⟩) n2 c2) := block_cell HX1.out 2; have HBB := hide (HR0.out.trans HR1.out).be; have cc0 : w1.cell? ⟨o, q, none⟩ = some (.int .i64 u.kind) := (HBB.out.cell (p := ⟨o, q, none⟩) ho).trans (by simpa using HCU.out 0 _ rfl); have cc1 : w1.cell? ⟨o, q + 1, none⟩ = some (.slice F1 m1 e1) := (HBB.out.cell (p := ⟨o, q + 1, none⟩) ho).trans (by simpa using HCU.out 1 _ rfl); have cc2 : w1.cell? ⟨o, q + 2, none⟩ = some (.slice F2 m2 e2) := (HBB.out.cell (p := ⟨o, q + 2, none⟩) ho).trans (by simpa using HCU.out 2 _ rfl); clear hw1) | (go_at_call 24; refine (HC.out w1 (HR0.out.trans HR1.out).be HR1.out.st (Nat.le_trans hBw (HR0.out.trans HR1.out).be.size)).mono ?_; rintro e w2 ⟨rfl, hr2⟩; have HR2 := hide (HR1.out.trans hr2); clear hr2))
  have hz2 := HR2.out.be.size
  have hBw2 := Nat.le_trans hBa hz2
  have HXT := hide (HR2.out.kept _ _ HX.out (fun e => by omega) HNR.out)
  obtain ⟨v, css, g1, g2, g3⟩ := HR2.out.st.st
  obtain ⟨A3, c3, rfl⟩ := own_sl g2
  have HNB := hide (show (Value.slice A3 D2.length c3).ownBlock ≠ some w.heap.size from fun e => by
    rcases HR2.out.row _ ⟨_, g1, e⟩ with h | h
    · exact HNR.out h
    · omega)
  have HG1 := hide g1
  have HG2 := hide g2
  have HG3 := hide g3
  have HTI := hide (HIN.out.below (HR0.out.trans HR2.out).be)
  have HFB : ∀ q, Below w2.heap.size w2 (w2.alloc (.cells #[.bool q] 4)).drew := fun q => ((Below.refl w2.heap.size w2).alloc (Nat.le_refl _) (.cells #[.bool q] 4)).trans (below_drewN (Below.refl w2.heap.size _) 1)
  have HFB1 := hide (HFB false)
  have HFB2 := hide (HFB true)
  have HT1 := hide (block_below HXT.out HFB1.out)
  have HT2 := hide (block_below HXT.out HFB2.out)
  have HM1 := hide (block_below HG1.out HFB1.out)
  have HM2 := hide (block_below HG1.out HFB2.out)
  have HO1 := hide (own_below HG2.out HFB1.out)
  have HO2 := hide (own_below HG2.out HFB2.out)
  have u0 : (w2.alloc (.cells #[.bool false] 4)).drew.cell? ⟨w.heap.size, 0, none⟩ = some (.int .i64 3) := block_cell HT1.out 0
  have u1 : (w2.alloc (.cells #[.bool false] 4)).drew.cell? ⟨w.heap.size, 1, none⟩ = some (.slice A1 n1 c1) := block_cell HT1.out 1
  have u2 : (w2.alloc (.cells #[.bool false] 4)).drew.cell? ⟨w.heap.size, 2, none⟩ = some (.slice (some ⟨o, q, none⟩) n2 c2) := block_cell HT1.out 2
  have u3 : (w2.alloc (.cells #[.bool false] 4)).drew.cell? ⟨r, 0, none⟩ = some (.slice A3 D2.length c3) := block_cell HM1.out 0
  have v0 : (w2.alloc (.cells #[.bool true] 4)).drew.cell? ⟨w.heap.size, 0, none⟩ = some (.int .i64 3) := block_cell HT2.out 0
  have v1 : (w2.alloc (.cells #[.bool true] 4)).drew.cell? ⟨w.heap.size, 1, none⟩ = some (.slice A1 n1 c1) := block_cell HT2.out 1
  have v2 : (w2.alloc (.cells #[.bool true] 4)).drew.cell? ⟨w.heap.size, 2, none⟩ = some (.slice (some ⟨o, q, none⟩) n2 c2) := block_cell HT2.out 2
  have v3 : (w2.alloc (.cells #[.bool true] 4)).drew.cell? ⟨r, 0, none⟩ = some (.slice A3 D2.length c3) := block_cell HM2.out 0
  clear g1 g2 g3 HFB
  go_region
  · obtain ⟨wf, hwf⟩ : ∃ x, (w2.alloc (.cells #[.bool false] 4)).drew = x := ⟨_, rfl⟩
    rw [hwf] at HFB1 HT1 HM1 HO1 u0 u1 u2 u3 ⊢
    clear hwf v0 v1 v2 v3 HT2 HM2 HO2 HFB2 hwa HX CI HC HRa
    go_wp2_with (fail)
    have HS1 : wf.drew.cell? ⟨r, 0, none⟩ = some (.slice A3 D2.length c3) ∧ wf.drew.cell? ⟨w.heap.size, 0, none⟩ = some (.int .i64 3) ∧ wf.drew.cell? ⟨w.heap.size, 1, none⟩ = some (.slice A1 n1 c1) ∧ wf.drew.cell? ⟨w.heap.size, 2, none⟩ = some (.slice (some ⟨o, q, none⟩) n2 c2) := ⟨u3, u0, u1, u2⟩
    refine wp_region_chain (fun W => W.cell? ⟨r, 0, none⟩ = some (.slice A3 D2.length c3) ∧ W.cell? ⟨w.heap.size, 0, none⟩ = some (.int .i64 3) ∧ W.cell? ⟨w.heap.size, 1, none⟩ = some (.slice A1 n1 c1) ∧ W.cell? ⟨w.heap.size, 2, none⟩ = some (.slice (some ⟨o, q, none⟩) n2 c2)) 7 (by as_aux_lemma => kernel_rfl) (N := 11) (by as_aux_lemma => kernel_rfl) ?_; intro hsh
    refine wpAnyC_take0 (i := 0) (k := 7) (v := ?_) (d := some 64) rfl (by rfl) (by as_aux_lemma => kernel_rfl) (by as_aux_lemma => kernel_rfl) (by as_aux_lemma => kernel_rfl) hsh (by decide) (by intro _ _ _ h; exact h) (by assumption) (Or.inl ⟨by rfl, ?hy⟩) ?_; (case hy => (intro W _; go_simp; (try with_reducible rfl))); clear hsh; intro hsh
    refine wpAnyC_take0 (i := 1) (k := 7) (v := ?_) (d := some 65) rfl (by rfl) (by as_aux_lemma => kernel_rfl) (by as_aux_lemma => kernel_rfl) (by as_aux_lemma => kernel_rfl) hsh (by decide) (by intro _ _ _ h; exact h) (by assumption) (Or.inl ⟨by rfl, ?hy⟩) ?_; (case hy => (intro W _; go_simp; (try with_reducible rfl))); clear hsh; intro hsh
    refine wpAnyC_take0 (i := 2) (k := 7) (v := ?_) (d := some 66) rfl (by rfl) (by as_aux_lemma => kernel_rfl) (by as_aux_lemma => kernel_rfl) (by as_aux_lemma => kernel_rfl) hsh (by decide) (by intro _ _ _ h; exact h) (by assumption) (Or.inl ⟨by rfl, ?hy⟩) ?_; (case hy => (intro W _; go_simp; (try with_reducible rfl))); clear hsh; intro hsh
    refine wpAnyC_take0 (i := 3) (k := 7) (v := ?_) (d := some 67) rfl (by rfl) (by as_aux_lemma => kernel_rfl) (by as_aux_lemma => kernel_rfl) (by as_aux_lemma => kernel_rfl) hsh (by decide) (by intro _ _ _ h; exact h) (by assumption) (Or.inl ⟨by rfl, ?hy⟩) ?_; (case hy => (intro W _; go_simp; (try with_reducible rfl))); clear hsh; intro hsh
    refine wpAnyC_take (i := 4) (k := 7) (f := 40) (v := ?_) (d := some 68) rfl (by rfl) (by as_aux_lemma => kernel_rfl) (by as_aux_lemma => kernel_rfl) (by as_aux_lemma => kernel_rfl) hsh (by decide) (by as_aux_lemma => kernel_rfl) (by intro _ _ _ h; exact h) (by assumption) (Or.inl ⟨by rfl, ?hy⟩) ?_; (case hy => (rintro W ⟨y0, y1, y2, y3⟩; go_simp; (try with_reducible rfl))); clear hsh; intro hsh
    refine wpAnyC_take (i := 5) (k := 7) (f := 40) (v := ?_) (d := some 69) rfl (by rfl) (by as_aux_lemma => kernel_rfl) (by as_aux_lemma => kernel_rfl) (by as_aux_lemma => kernel_rfl) hsh (by decide) (by as_aux_lemma => kernel_rfl) (by intro _ _ _ h; exact h) (by assumption) (Or.inl ⟨by rfl, ?hy⟩) ?_; (case hy => (rintro W ⟨y0, y1, y2, y3⟩; go_simp; (try with_reducible rfl))); clear hsh; intro hsh
    refine wpAnyC_ready (rs := [6]) (by as_aux_lemma => kernel_rfl) (by simp) ?_; refine AllC.cons (i := 6) rfl (by as_aux_lemma => kernel_rfl) hsh (fun K hK => ?_) AllC.nil
    go_simp
    have HBx : Hid (Below wf.heap.size wf (wf.drew.alloc (.cells #[.int .i64 3, .slice A1 n1 c1, .slice (some ⟨o, q, none⟩) n2 c2] 64))) := hide ((below_drewN (Below.refl wf.heap.size wf) 1).alloc (Nat.le_refl _) _)
    have HS2 : (wf.drew.alloc (.cells #[.int .i64 3, .slice A1 n1 c1, .slice (some ⟨o, q, none⟩) n2 c2] 64)).cell? ⟨r, 0, none⟩ = some (.slice A3 D2.length c3) ∧ (wf.drew.alloc (.cells #[.int .i64 3, .slice A1 n1 c1, .slice (some ⟨o, q, none⟩) n2 c2] 64)).cell? ⟨w.heap.size, 0, none⟩ = some (.int .i64 3) ∧ (wf.drew.alloc (.cells #[.int .i64 3, .slice A1 n1 c1, .slice (some ⟨o, q, none⟩) n2 c2] 64)).cell? ⟨w.heap.size, 1, none⟩ = some (.slice A1 n1 c1) ∧ (wf.drew.alloc (.cells #[.int .i64 3, .slice A1 n1 c1, .slice (some ⟨o, q, none⟩) n2 c2] 64)).cell? ⟨w.heap.size, 2, none⟩ = some (.slice (some ⟨o, q, none⟩) n2 c2) :=
      ⟨block_cell (block_below HM1.out HBx.out) 0, block_cell (block_below HT1.out HBx.out) 0, block_cell (block_below HT1.out HBx.out) 1, block_cell (block_below HT1.out HBx.out) 2⟩
    refine hK _ _ (fun _ => HS2) ?_
    clear hK K hsh HS1
    intro hsh
    refine wpAnyC_tail (by as_aux_lemma => kernel_rfl) (by simp) (by as_aux_lemma => kernel_rfl) ?_; simp only [List.drop_succ_cons, List.drop_zero]; clear hsh
    clear HS2
    go_simp
    have HOd := hide (own_below HO1.out (below_drewN (Below.refl wf.heap.size wf) 1))
    have HBd := hide (HFB1.out.trans ((below_drewN (Below.refl wf.heap.size wf) 1).mono HFB1.out.size))
    have hzf := HFB1.out.size
    refine wpList_append_own_at _ (by rfl) (.tmp 68) (.tmp 70) 23 (by rfl) B 64 i0 (.agg #[.int .i64 0, .slice none 0 0, .slice none 0 0]) 3 56 Tryd.underlying23 hi0 iz0 iz1 iz2 rfl (by decide) (.slice A3 D2.length c3) D2.length css.flatten (by rfl) (HOd.out.alloc _) ⟨wf.heap.size, 0, none⟩ 1 1 [.int .i64 3, .slice A1 n1 c1, .slice (some ⟨o, q, none⟩) n2 c2] (by rfl) (by rfl) (cells_new wf.drew [.int .i64 3, .slice A1 n1 c1, .slice (some ⟨o, q, none⟩) n2 c2] _) (by intro u hu; simp at hu; rcases hu with rfl | rfl | rfl <;> rfl) (by unfold maxLen; omega) (by omega) (Nat.le_trans hBw2 (HFB1.out.trans (HBx.out.mono hzf)).size) ?_
    intro v' w3 hown hgr _ hat
    have HP := hide (rg_push hBw2 HBr.out hdlb2 HG1.out HG2.out HG3.out HTI.out (HFB1.out.trans (HBx.out.mono hzf)) hown hgr hat)
    obtain ⟨ao, cp, rfl⟩ := own_sl hown
    have h1x := block_below HG1.out (HFB1.out.trans (HBx.out.mono hzf))
    have h13 : w3.heap[r]? = some (.cells #[.slice A3 D2.length c3] 54 (0, 0)) := (hgr.block r (lt_of_block h1x) (fun e => own_other' HG2.out HG1.out (by decide) e.symm)).trans h1x
    have b3 : w3.frozen? ⟨r, 0, none⟩ = false := block_free h13 0
    have b4 : w3.cell? ⟨r, 0, none⟩ = some (.slice A3 D2.length c3) := block_cell h13 0
    clear h1x h13
    clear hown hgr hat
    go_wp2_with (fail)
    go_ret
    exact ⟨rfl, HR0.out.trans (HR2.out.trans HP.out)⟩
  · obtain ⟨wf, hwf⟩ : ∃ x, (w2.alloc (.cells #[.bool true] 4)).drew = x := ⟨_, rfl⟩
    rw [hwf] at HFB2 HT2 HM2 HO2 v0 v1 v2 v3 ⊢
    clear hwf u0 u1 u2 u3 HT1 HM1 HO1 HFB1 hwa HX CI HC HRa
    have hzf := HFB2.out.size
    have HBx : Hid (Below wf.heap.size wf (wf.alloc (.cells #[.int .i64 0, .slice none 0 0, .slice none 0 0] 64))) := hide ((Below.refl wf.heap.size wf).alloc (Nat.le_refl _) _)
    have hrt : w.heap.size ≠ r := by omega
    have hlt : (D2.length : Int) < (D2.length : Int) + 1 := by omega
    have hfl : css.flatten.length = D2.length * 3 := by rw [flat3_len css HG3.out.all3, HG3.out.len]
    have HFL := hide (fun x y z : Value => show (css.flatten ++ [x, y, z])[D2.length * 3]? = some x by rw [List.getElem?_append_right (by omega), hfl]; simp)
    have HFL1 := hide (fun x y z : Value => show (css.flatten ++ [x, y, z])[D2.length * 3 + 1]? = some y by rw [List.getElem?_append_right (by omega), hfl]; simp)
    have HFL2 := hide (fun x y z : Value => show (css.flatten ++ [x, y, z])[D2.length * 3 + 2]? = some z by rw [List.getElem?_append_right (by omega), hfl]; simp)
    clear hfl
    go_wp2_with (at_builtin; refine wpList_append_own_at _ (by rfl) (.tmp 56) (.tmp 58) 23 (by rfl) B 64 i0 (.agg #[.int .i64 0, .slice none 0 0, .slice none 0 0]) 3 56 Tryd.underlying23 hi0 iz0 iz1 iz2 rfl (by decide) (.slice A3 D2.length c3) D2.length css.flatten (by rfl) (HO2.out.alloc _) ⟨wf.heap.size, 0, none⟩ 1 1 [.int .i64 0, .slice none 0 0, .slice none 0 0] (by rfl) (by rfl) (cells_new wf [.int .i64 0, .slice none 0 0, .slice none 0 0] _) (by intro u hu; simp at hu; rcases hu with rfl | rfl | rfl <;> rfl) (by unfold maxLen; omega) (by omega) (Nat.le_trans hBw2 (HFB2.out.trans (HBx.out.mono hzf)).size) ?_; intro v' w3 hown hgr _ hat; obtain ⟨g, cp, cur, rfl, hbg, hgb, hncp, hcpm, _⟩ := own_blk hown (Nat.succ_pos _); have HP := hide (rg_push (t := tyZero) hBw2 HBr.out hdlb2 HG1.out HG2.out HG3.out (tyZero_in w2 B _) (HFB2.out.trans (HBx.out.mono hzf)) hown hgr hat); have h1x := hide (block_below HG1.out (HFB2.out.trans (HBx.out.mono hzf))); have h13 : Hid (w3.heap[r]? = some (.cells #[.slice A3 D2.length c3] 54 (0, 0))) := hide ((hgr.block r (lt_of_block h1x.out) (fun e => own_other' HG2.out HG1.out (by decide) e.symm)).trans h1x.out); have b3 : w3.frozen? ⟨r, 0, none⟩ = false := block_free h13.out 0; have b4 : w3.cell? ⟨r, 0, none⟩ = some (.slice A3 D2.length c3) := block_cell h13.out 0; have HGT := hide ((hgr.block _ (lt_of_block (block_below HT2.out HBx.out)) (fun e => HNB.out e.symm)).trans (block_below HT2.out HBx.out)); have HOW := hide (ownsRow_setCell_other hown (a := ⟨r, 0, none⟩) (own_other' hown h13.out (by decide)) (.slice (some ⟨g, 0, none⟩) (D2.length + 1) cp)); have HB5 := hide (block_set h13.out (i := 0) (.slice (some ⟨g, 0, none⟩) (D2.length + 1) cp)); have HT5 := hide (block_set_other HGT.out ⟨r, 0, none⟩ (.slice (some ⟨g, 0, none⟩) (D2.length + 1) cp) hrt); have v0 : (w3.setCell ⟨r, 0, none⟩ (.slice (some ⟨g, 0, none⟩) (D2.length + 1) cp)).cell? ⟨w.heap.size, 0, none⟩ = some (.int .i64 3) := block_cell HT5.out 0; have v1 : (w3.setCell ⟨r, 0, none⟩ (.slice (some ⟨g, 0, none⟩) (D2.length + 1) cp)).cell? ⟨w.heap.size, 1, none⟩ = some (.slice A1 n1 c1) := block_cell HT5.out 1; have v2 : (w3.setCell ⟨r, 0, none⟩ (.slice (some ⟨g, 0, none⟩) (D2.length + 1) cp)).cell? ⟨w.heap.size, 2, none⟩ = some (.slice (some ⟨o, q, none⟩) n2 c2) := block_cell HT5.out 2; have q0 : (w3.setCell ⟨r, 0, none⟩ (.slice (some ⟨g, 0, none⟩) (D2.length + 1) cp)).cell? ⟨g, D2.length * 3, none⟩ = some (.int .i64 0) := own_cell HOW.out _ _ (HFL.out _ _ _); have q1 : (w3.setCell ⟨r, 0, none⟩ (.slice (some ⟨g, 0, none⟩) (D2.length + 1) cp)).cell? ⟨g, D2.length * 3 + 1, none⟩ = some (.slice none 0 0) := own_cell HOW.out _ _ (HFL1.out _ _ _); have q2 : (w3.setCell ⟨r, 0, none⟩ (.slice (some ⟨g, 0, none⟩) (D2.length + 1) cp)).cell? ⟨g, D2.length * 3 + 2, none⟩ = some (.slice none 0 0) := own_cell HOW.out _ _ (HFL2.out _ _ _); have z0 : (w3.setCell ⟨r, 0, none⟩ (.slice (some ⟨g, 0, none⟩) (D2.length + 1) cp)).frozen? ⟨g, D2.length * 3, none⟩ = false := own_free HOW.out _; have z1 : (w3.setCell ⟨r, 0, none⟩ (.slice (some ⟨g, 0, none⟩) (D2.length + 1) cp)).frozen? ⟨g, D2.length * 3 + 1, none⟩ = false := own_free HOW.out _; have z2 : (w3.setCell ⟨r, 0, none⟩ (.slice (some ⟨g, 0, none⟩) (D2.length + 1) cp)).frozen? ⟨g, D2.length * 3 + 2, none⟩ = false := own_free HOW.out _; have HQ := hide (rg_set (t := t) (Nat.le_trans hBw2 HP.out.be.size) HBr.out rfl hdlb2 HB5.out HOW.out (HG3.out.below HP.out.be) (HTI.out.below HP.out.be)); clear hown hgr hat)
    go_ret
    exact ⟨rfl, HR0.out.trans (HR2.out.trans (HP.out.trans HQ.out))⟩
set_option maxRecDepth 100000 in
set_option maxHeartbeats 8000000 in
theorem rOne_k4 {f : Nat} (HT : rListOk f) (k : Nat) (t : Ty) (cs : List Value) (B r : Nat) (d : List Ty) (w : World) (hin : TyIn w B k t cs) (hgt : Good (f + 1) t ∧ Txt (f + 1) t) (hf12 : f + 1 ≤ 12) (hd : DOk d) (hdc : d.length + cnt (f + 1) t ≤ 999) (hc5 : cnt (f + 1) t ≤ 500) (hp : plc d t = none) (hst : RgS B r k d w) (hBw : B ≤ w.heap.size) (hK : t.kind = 4) :
    Calls Tryd.prog 24 #[.pointer (some ⟨r, 0, none⟩), .agg cs.toArray] w fun e w' => e = .returned (.string ⟨(mgT (f + 1) t d).1.toArray⟩) ∧ RgR B r k (mgT (f + 1) t d).2 w w' := by
  have hin0 := hin
  obtain ⟨hg, htx⟩ := hgt
  obtain ⟨hnt, hdb, hdlb⟩ := body_new hf12 ⟨hg, htx⟩ hd hp
  have HA := hide ((Below.refl w.heap.size w).alloc (Nat.le_refl _) (.cells cs.toArray 64))
  have HX := hide (heap_alloc_new w (.cells cs.toArray 64))
  have HR0 := hide ((RgR.refl hst).below hBw HA.out)
  have hrl := hst.lt
  obtain ⟨i0, hi0, iz0, iz1, iz2⟩ := info_parts info_tyR
  have HBr := hide hst.hB
  have HNR := hide (show ¬ RowB r (w.alloc (.cells cs.toArray 64)) w.heap.size from fun ⟨v, e1, e2⟩ => by
    rw [HA.out.block r hrl] at e1
    exact absurd (rowB_lt hst ⟨v, e1, e2⟩) (Nat.lt_irrefl _))
  obtain ⟨wa, hwa⟩ : ∃ x, w.alloc (.cells cs.toArray 64) = x := ⟨_, rfl⟩
  have hBa : B ≤ wa.heap.size := by rw [← hwa]; exact Nat.le_trans hBw HA.out.size
  rw [hwa] at HA HX HR0 HNR
  obtain ⟨A, c, hc0, hty⟩ := HR0.out.st.tys hBa
  have hdl := hst.len
  have CI := hide (IdxT_any k t cs w.heap.size A d.length c d wa (by unfold maxLen; omega) hty ((hin.below (HA.out.mono hBw)).more hBa) HX.out)
  rw [show plcI d t = -1 by unfold plcI; rw [hp]] at CI
  rw [cnt_eq] at hdc hc5
  have htbl : w.heap.size < wa.heap.size := lt_of_block HX.out
  have HMG := hide (show (mgT (f + 1) t d).1 = (mgBody (mgT f) t d).1 ∧ (mgT (f + 1) t d).2 = (mgBody (mgT f) t d).2 ++ [t] from ⟨by rw [mgT, hp], by rw [mgT, hp]⟩)
  rw [HMG.out.1, HMG.out.2]
  have HIN := hide hin0
  cases k with
  | zero => exact hin.elim
  | succ k =>
  obtain ⟨A1, n1, c1, A2, n2, c2, rfl, hn, hm, hn2, hm2, hl, hl2⟩ := hin
  obtain ⟨⟨hk1, hk4⟩, h1, h2, h3, h4, h5⟩ := hg
  obtain ⟨t1, t2⟩ := htx
  have HKK := hide hK
  rw [hK] at h1 h2 h3 HX hwa HIN ⊢
  have HRa := hide (RgR.refl HR0.out.st)
  have HD := hide hd
  obtain ⟨hn0, hp1, hp2⟩ := h2 (by decide)
  have hnl := hl2.len
  have HL2 := hide hl2
  have HTG := hide (fun x (hx : x ∈ t.of) => (⟨h5 x hx, t2 x hx⟩ : Good f x ∧ Txt f x))
  have hmb : mgBody (mgT f) t d = (70 :: ((mgFold (mgT f) t.of d).1 ++ [69]), (mgFold (mgT f) t.of d).2) := by unfold mgBody; rw [if_neg (by rw [HKK.out]; decide), if_pos HKK.out]
  have hlen := mgTys_len (f := f) (by omega) (fun t d ht hd hn => mgT_len f t d (by omega) ht hd hn) (l := t.of) (d := d) HTG.out HD.out (by omega)
  have HC := hide (fun w1 (hb : Below B w w1) h => HT (k + 1) A2 n2 c2 t.of B r d w1 hn2 hm2 (by omega) (tys_deep (tys_below HL2.out hb) (Nat.le_succ _)) HTG.out (by omega) HD.out (by omega) (by omega) h)
  rw [hmb]
  rw [hmb] at hdlb
  obtain ⟨X, hX⟩ : ∃ X : ByteArray, ⟨(mgFold (mgT f) t.of d).1.toArray⟩ = X := ⟨_, rfl⟩
  obtain ⟨D2, hD2⟩ : ∃ x, (mgFold (mgT f) t.of d).2 = x := ⟨_, rfl⟩
  have HXX := hide (show X.data.toList = (mgFold (mgT f) t.of d).1 by rw [← hX])
  have hXl : X.size ≤ 710000 := by
    have h1 : X.size = (mgFold (mgT f) t.of d).1.length := by rw [← hX]; rfl
    omega
  rw [hX, hD2] at HC
  have HE := hide (show (⟨(70 :: ((mgFold (mgT f) t.of d).1 ++ [69])).toArray⟩ : ByteArray) = (⟨#[70]⟩ : ByteArray) ++ X ++ (⟨#[69]⟩ : ByteArray) from (str_eq (by rw [app_toL, app_toL, HXX.out]; simp)).symm)
  simp only [] at hdlb ⊢
  rw [HE.out, hD2]
  rw [hD2] at hdlb
  have hdlb2 : D2.length + 1 ≤ 1000 := by rw [cnt_eq] at hdlb; omega
  have s70 : (⟨#[70]⟩ : ByteArray).size = 1 := rfl
  have s69 : (⟨#[69]⟩ : ByteArray).size = 1 := rfl
  have nb1 : ¬ 9223372036854775807 < 1 + X.size := by omega
  have hq1 : ((⟨#[70]⟩ : ByteArray) ++ X).size = 1 + X.size := by rw [ByteArray.size_append, s70]
  have nb2 : ¬ 9223372036854775807 < 1 + X.size + 1 := by omega
  clear hl hl2 h1 h2 h3 h4 h5 t1 t2 hty hX hD2 hmb hdb hnt hp hst hd hin0 HMG HL2 hK HXX HE
  go_enter Tryd.func24, Tryd.ntmps24
  go_wp2_with (first | (go_at_call 32; refine CI.out.mono ?_; rintro e w1 ⟨rfl, hw1⟩; have HR1 := hide (HRa.out.below hBa hw1); have HX1 := hide (block_below HX.out hw1); have x0 : w1.cell? ⟨w.heap.size, 0, none⟩ = some (.int .i64 4) := block_cell HX1.out 0; have x1 : w1.cell? ⟨w.heap.size, 1, none⟩ = some (.slice A1 n1 c1) := block_cell HX1.out 1; have x2 : w1.cell? ⟨w.heap.size, 2, none⟩ = some (.slice A2 n2 c2) := block_cell HX1.out 2; clear hw1) | (go_at_call 16; refine (HC.out w1 (HR0.out.trans HR1.out).be HR1.out.st (Nat.le_trans hBw (HR0.out.trans HR1.out).be.size)).mono ?_; rintro e w2 ⟨rfl, hr2⟩; have HR2 := hide (HR1.out.trans hr2); clear hr2))
  have hz2 := HR2.out.be.size
  have hBw2 := Nat.le_trans hBa hz2
  have HXT := hide (HR2.out.kept _ _ HX.out (fun e => by omega) HNR.out)
  obtain ⟨v, css, g1, g2, g3⟩ := HR2.out.st.st
  obtain ⟨A3, c3, rfl⟩ := own_sl g2
  have HNB := hide (show (Value.slice A3 D2.length c3).ownBlock ≠ some w.heap.size from fun e => by
    rcases HR2.out.row _ ⟨_, g1, e⟩ with h | h
    · exact HNR.out h
    · omega)
  have HG1 := hide g1
  have HG2 := hide g2
  have HG3 := hide g3
  have HTI := hide (HIN.out.below (HR0.out.trans HR2.out).be)
  have HFB : ∀ q, Below w2.heap.size w2 (w2.alloc (.cells #[.bool q] 4)).drew := fun q => ((Below.refl w2.heap.size w2).alloc (Nat.le_refl _) (.cells #[.bool q] 4)).trans (below_drewN (Below.refl w2.heap.size _) 1)
  have HFB1 := hide (HFB false)
  have HFB2 := hide (HFB true)
  have HT1 := hide (block_below HXT.out HFB1.out)
  have HT2 := hide (block_below HXT.out HFB2.out)
  have HM1 := hide (block_below HG1.out HFB1.out)
  have HM2 := hide (block_below HG1.out HFB2.out)
  have HO1 := hide (own_below HG2.out HFB1.out)
  have HO2 := hide (own_below HG2.out HFB2.out)
  have u0 : (w2.alloc (.cells #[.bool false] 4)).drew.cell? ⟨w.heap.size, 0, none⟩ = some (.int .i64 4) := block_cell HT1.out 0
  have u1 : (w2.alloc (.cells #[.bool false] 4)).drew.cell? ⟨w.heap.size, 1, none⟩ = some (.slice A1 n1 c1) := block_cell HT1.out 1
  have u2 : (w2.alloc (.cells #[.bool false] 4)).drew.cell? ⟨w.heap.size, 2, none⟩ = some (.slice A2 n2 c2) := block_cell HT1.out 2
  have u3 : (w2.alloc (.cells #[.bool false] 4)).drew.cell? ⟨r, 0, none⟩ = some (.slice A3 D2.length c3) := block_cell HM1.out 0
  have v0 : (w2.alloc (.cells #[.bool true] 4)).drew.cell? ⟨w.heap.size, 0, none⟩ = some (.int .i64 4) := block_cell HT2.out 0
  have v1 : (w2.alloc (.cells #[.bool true] 4)).drew.cell? ⟨w.heap.size, 1, none⟩ = some (.slice A1 n1 c1) := block_cell HT2.out 1
  have v2 : (w2.alloc (.cells #[.bool true] 4)).drew.cell? ⟨w.heap.size, 2, none⟩ = some (.slice A2 n2 c2) := block_cell HT2.out 2
  have v3 : (w2.alloc (.cells #[.bool true] 4)).drew.cell? ⟨r, 0, none⟩ = some (.slice A3 D2.length c3) := block_cell HM2.out 0
  clear g1 g2 g3 HFB
  go_region
  · obtain ⟨wf, hwf⟩ : ∃ x, (w2.alloc (.cells #[.bool false] 4)).drew = x := ⟨_, rfl⟩
    rw [hwf] at HFB1 HT1 HM1 HO1 u0 u1 u2 u3 ⊢
    clear hwf v0 v1 v2 v3 HT2 HM2 HO2 HFB2 hwa HX CI HC HRa
    go_wp2_with (fail)
    have HS1 : wf.drew.cell? ⟨r, 0, none⟩ = some (.slice A3 D2.length c3) ∧ wf.drew.cell? ⟨w.heap.size, 0, none⟩ = some (.int .i64 4) ∧ wf.drew.cell? ⟨w.heap.size, 1, none⟩ = some (.slice A1 n1 c1) ∧ wf.drew.cell? ⟨w.heap.size, 2, none⟩ = some (.slice A2 n2 c2) := ⟨u3, u0, u1, u2⟩
    refine wp_region_chain (fun W => W.cell? ⟨r, 0, none⟩ = some (.slice A3 D2.length c3) ∧ W.cell? ⟨w.heap.size, 0, none⟩ = some (.int .i64 4) ∧ W.cell? ⟨w.heap.size, 1, none⟩ = some (.slice A1 n1 c1) ∧ W.cell? ⟨w.heap.size, 2, none⟩ = some (.slice A2 n2 c2)) 7 (by as_aux_lemma => kernel_rfl) (N := 11) (by as_aux_lemma => kernel_rfl) ?_; intro hsh
    refine wpAnyC_take0 (i := 0) (k := 7) (v := ?_) (d := some 64) rfl (by rfl) (by as_aux_lemma => kernel_rfl) (by as_aux_lemma => kernel_rfl) (by as_aux_lemma => kernel_rfl) hsh (by decide) (by intro _ _ _ h; exact h) (by assumption) (Or.inl ⟨by rfl, ?hy⟩) ?_; (case hy => (intro W _; go_simp; (try with_reducible rfl))); clear hsh; intro hsh
    refine wpAnyC_take0 (i := 1) (k := 7) (v := ?_) (d := some 65) rfl (by rfl) (by as_aux_lemma => kernel_rfl) (by as_aux_lemma => kernel_rfl) (by as_aux_lemma => kernel_rfl) hsh (by decide) (by intro _ _ _ h; exact h) (by assumption) (Or.inl ⟨by rfl, ?hy⟩) ?_; (case hy => (intro W _; go_simp; (try with_reducible rfl))); clear hsh; intro hsh
    refine wpAnyC_take0 (i := 2) (k := 7) (v := ?_) (d := some 66) rfl (by rfl) (by as_aux_lemma => kernel_rfl) (by as_aux_lemma => kernel_rfl) (by as_aux_lemma => kernel_rfl) hsh (by decide) (by intro _ _ _ h; exact h) (by assumption) (Or.inl ⟨by rfl, ?hy⟩) ?_; (case hy => (intro W _; go_simp; (try with_reducible rfl))); clear hsh; intro hsh
    refine wpAnyC_take0 (i := 3) (k := 7) (v := ?_) (d := some 67) rfl (by rfl) (by as_aux_lemma => kernel_rfl) (by as_aux_lemma => kernel_rfl) (by as_aux_lemma => kernel_rfl) hsh (by decide) (by intro _ _ _ h; exact h) (by assumption) (Or.inl ⟨by rfl, ?hy⟩) ?_; (case hy => (intro W _; go_simp; (try with_reducible rfl))); clear hsh; intro hsh
    refine wpAnyC_take (i := 4) (k := 7) (f := 40) (v := ?_) (d := some 68) rfl (by rfl) (by as_aux_lemma => kernel_rfl) (by as_aux_lemma => kernel_rfl) (by as_aux_lemma => kernel_rfl) hsh (by decide) (by as_aux_lemma => kernel_rfl) (by intro _ _ _ h; exact h) (by assumption) (Or.inl ⟨by rfl, ?hy⟩) ?_; (case hy => (rintro W ⟨y0, y1, y2, y3⟩; go_simp; (try with_reducible rfl))); clear hsh; intro hsh
    refine wpAnyC_take (i := 5) (k := 7) (f := 40) (v := ?_) (d := some 69) rfl (by rfl) (by as_aux_lemma => kernel_rfl) (by as_aux_lemma => kernel_rfl) (by as_aux_lemma => kernel_rfl) hsh (by decide) (by as_aux_lemma => kernel_rfl) (by intro _ _ _ h; exact h) (by assumption) (Or.inl ⟨by rfl, ?hy⟩) ?_; (case hy => (rintro W ⟨y0, y1, y2, y3⟩; go_simp; (try with_reducible rfl))); clear hsh; intro hsh
    refine wpAnyC_ready (rs := [6]) (by as_aux_lemma => kernel_rfl) (by simp) ?_; refine AllC.cons (i := 6) rfl (by as_aux_lemma => kernel_rfl) hsh (fun K hK => ?_) AllC.nil
    go_simp
    have HBx : Hid (Below wf.heap.size wf (wf.drew.alloc (.cells #[.int .i64 4, .slice A1 n1 c1, .slice A2 n2 c2] 64))) := hide ((below_drewN (Below.refl wf.heap.size wf) 1).alloc (Nat.le_refl _) _)
    have HS2 : (wf.drew.alloc (.cells #[.int .i64 4, .slice A1 n1 c1, .slice A2 n2 c2] 64)).cell? ⟨r, 0, none⟩ = some (.slice A3 D2.length c3) ∧ (wf.drew.alloc (.cells #[.int .i64 4, .slice A1 n1 c1, .slice A2 n2 c2] 64)).cell? ⟨w.heap.size, 0, none⟩ = some (.int .i64 4) ∧ (wf.drew.alloc (.cells #[.int .i64 4, .slice A1 n1 c1, .slice A2 n2 c2] 64)).cell? ⟨w.heap.size, 1, none⟩ = some (.slice A1 n1 c1) ∧ (wf.drew.alloc (.cells #[.int .i64 4, .slice A1 n1 c1, .slice A2 n2 c2] 64)).cell? ⟨w.heap.size, 2, none⟩ = some (.slice A2 n2 c2) :=
      ⟨block_cell (block_below HM1.out HBx.out) 0, block_cell (block_below HT1.out HBx.out) 0, block_cell (block_below HT1.out HBx.out) 1, block_cell (block_below HT1.out HBx.out) 2⟩
    refine hK _ _ (fun _ => HS2) ?_
    clear hK K hsh HS1
    intro hsh
    refine wpAnyC_tail (by as_aux_lemma => kernel_rfl) (by simp) (by as_aux_lemma => kernel_rfl) ?_; simp only [List.drop_succ_cons, List.drop_zero]; clear hsh
    clear HS2
    go_simp
    have HOd := hide (own_below HO1.out (below_drewN (Below.refl wf.heap.size wf) 1))
    have HBd := hide (HFB1.out.trans ((below_drewN (Below.refl wf.heap.size wf) 1).mono HFB1.out.size))
    have hzf := HFB1.out.size
    refine wpList_append_own_at _ (by rfl) (.tmp 68) (.tmp 70) 23 (by rfl) B 64 i0 (.agg #[.int .i64 0, .slice none 0 0, .slice none 0 0]) 3 56 Tryd.underlying23 hi0 iz0 iz1 iz2 rfl (by decide) (.slice A3 D2.length c3) D2.length css.flatten (by rfl) (HOd.out.alloc _) ⟨wf.heap.size, 0, none⟩ 1 1 [.int .i64 4, .slice A1 n1 c1, .slice A2 n2 c2] (by rfl) (by rfl) (cells_new wf.drew [.int .i64 4, .slice A1 n1 c1, .slice A2 n2 c2] _) (by intro u hu; simp at hu; rcases hu with rfl | rfl | rfl <;> rfl) (by unfold maxLen; omega) (by omega) (Nat.le_trans hBw2 (HFB1.out.trans (HBx.out.mono hzf)).size) ?_
    intro v' w3 hown hgr _ hat
    have HP := hide (rg_push hBw2 HBr.out hdlb2 HG1.out HG2.out HG3.out HTI.out (HFB1.out.trans (HBx.out.mono hzf)) hown hgr hat)
    obtain ⟨ao, cp, rfl⟩ := own_sl hown
    have h1x := block_below HG1.out (HFB1.out.trans (HBx.out.mono hzf))
    have h13 : w3.heap[r]? = some (.cells #[.slice A3 D2.length c3] 54 (0, 0)) := (hgr.block r (lt_of_block h1x) (fun e => own_other' HG2.out HG1.out (by decide) e.symm)).trans h1x
    have b3 : w3.frozen? ⟨r, 0, none⟩ = false := block_free h13 0
    have b4 : w3.cell? ⟨r, 0, none⟩ = some (.slice A3 D2.length c3) := block_cell h13 0
    clear h1x h13
    clear hown hgr hat
    go_wp2_with (fail)
    go_ret
    exact ⟨rfl, HR0.out.trans (HR2.out.trans HP.out)⟩
  · obtain ⟨wf, hwf⟩ : ∃ x, (w2.alloc (.cells #[.bool true] 4)).drew = x := ⟨_, rfl⟩
    rw [hwf] at HFB2 HT2 HM2 HO2 v0 v1 v2 v3 ⊢
    clear hwf u0 u1 u2 u3 HT1 HM1 HO1 HFB1 hwa HX CI HC HRa
    have hzf := HFB2.out.size
    have HBx : Hid (Below wf.heap.size wf (wf.alloc (.cells #[.int .i64 0, .slice none 0 0, .slice none 0 0] 64))) := hide ((Below.refl wf.heap.size wf).alloc (Nat.le_refl _) _)
    have hrt : w.heap.size ≠ r := by omega
    have hlt : (D2.length : Int) < (D2.length : Int) + 1 := by omega
    have hfl : css.flatten.length = D2.length * 3 := by rw [flat3_len css HG3.out.all3, HG3.out.len]
    have HFL := hide (fun x y z : Value => show (css.flatten ++ [x, y, z])[D2.length * 3]? = some x by rw [List.getElem?_append_right (by omega), hfl]; simp)
    have HFL1 := hide (fun x y z : Value => show (css.flatten ++ [x, y, z])[D2.length * 3 + 1]? = some y by rw [List.getElem?_append_right (by omega), hfl]; simp)
    have HFL2 := hide (fun x y z : Value => show (css.flatten ++ [x, y, z])[D2.length * 3 + 2]? = some z by rw [List.getElem?_append_right (by omega), hfl]; simp)
    clear hfl
    go_wp2_with (at_builtin; refine wpList_append_own_at _ (by rfl) (.tmp 56) (.tmp 58) 23 (by rfl) B 64 i0 (.agg #[.int .i64 0, .slice none 0 0, .slice none 0 0]) 3 56 Tryd.underlying23 hi0 iz0 iz1 iz2 rfl (by decide) (.slice A3 D2.length c3) D2.length css.flatten (by rfl) (HO2.out.alloc _) ⟨wf.heap.size, 0, none⟩ 1 1 [.int .i64 0, .slice none 0 0, .slice none 0 0] (by rfl) (by rfl) (cells_new wf [.int .i64 0, .slice none 0 0, .slice none 0 0] _) (by intro u hu; simp at hu; rcases hu with rfl | rfl | rfl <;> rfl) (by unfold maxLen; omega) (by omega) (Nat.le_trans hBw2 (HFB2.out.trans (HBx.out.mono hzf)).size) ?_; intro v' w3 hown hgr _ hat; obtain ⟨g, cp, cur, rfl, hbg, hgb, hncp, hcpm, _⟩ := own_blk hown (Nat.succ_pos _); have HP := hide (rg_push (t := tyZero) hBw2 HBr.out hdlb2 HG1.out HG2.out HG3.out (tyZero_in w2 B _) (HFB2.out.trans (HBx.out.mono hzf)) hown hgr hat); have h1x := hide (block_below HG1.out (HFB2.out.trans (HBx.out.mono hzf))); have h13 : Hid (w3.heap[r]? = some (.cells #[.slice A3 D2.length c3] 54 (0, 0))) := hide ((hgr.block r (lt_of_block h1x.out) (fun e => own_other' HG2.out HG1.out (by decide) e.symm)).trans h1x.out); have b3 : w3.frozen? ⟨r, 0, none⟩ = false := block_free h13.out 0; have b4 : w3.cell? ⟨r, 0, none⟩ = some (.slice A3 D2.length c3) := block_cell h13.out 0; have HGT := hide ((hgr.block _ (lt_of_block (block_below HT2.out HBx.out)) (fun e => HNB.out e.symm)).trans (block_below HT2.out HBx.out)); have HOW := hide (ownsRow_setCell_other hown (a := ⟨r, 0, none⟩) (own_other' hown h13.out (by decide)) (.slice (some ⟨g, 0, none⟩) (D2.length + 1) cp)); have HB5 := hide (block_set h13.out (i := 0) (.slice (some ⟨g, 0, none⟩) (D2.length + 1) cp)); have HT5 := hide (block_set_other HGT.out ⟨r, 0, none⟩ (.slice (some ⟨g, 0, none⟩) (D2.length + 1) cp) hrt); have v0 : (w3.setCell ⟨r, 0, none⟩ (.slice (some ⟨g, 0, none⟩) (D2.length + 1) cp)).cell? ⟨w.heap.size, 0, none⟩ = some (.int .i64 4) := block_cell HT5.out 0; have v1 : (w3.setCell ⟨r, 0, none⟩ (.slice (some ⟨g, 0, none⟩) (D2.length + 1) cp)).cell? ⟨w.heap.size, 1, none⟩ = some (.slice A1 n1 c1) := block_cell HT5.out 1; have v2 : (w3.setCell ⟨r, 0, none⟩ (.slice (some ⟨g, 0, none⟩) (D2.length + 1) cp)).cell? ⟨w.heap.size, 2, none⟩ = some (.slice A2 n2 c2) := block_cell HT5.out 2; have q0 : (w3.setCell ⟨r, 0, none⟩ (.slice (some ⟨g, 0, none⟩) (D2.length + 1) cp)).cell? ⟨g, D2.length * 3, none⟩ = some (.int .i64 0) := own_cell HOW.out _ _ (HFL.out _ _ _); have q1 : (w3.setCell ⟨r, 0, none⟩ (.slice (some ⟨g, 0, none⟩) (D2.length + 1) cp)).cell? ⟨g, D2.length * 3 + 1, none⟩ = some (.slice none 0 0) := own_cell HOW.out _ _ (HFL1.out _ _ _); have q2 : (w3.setCell ⟨r, 0, none⟩ (.slice (some ⟨g, 0, none⟩) (D2.length + 1) cp)).cell? ⟨g, D2.length * 3 + 2, none⟩ = some (.slice none 0 0) := own_cell HOW.out _ _ (HFL2.out _ _ _); have z0 : (w3.setCell ⟨r, 0, none⟩ (.slice (some ⟨g, 0, none⟩) (D2.length + 1) cp)).frozen? ⟨g, D2.length * 3, none⟩ = false := own_free HOW.out _; have z1 : (w3.setCell ⟨r, 0, none⟩ (.slice (some ⟨g, 0, none⟩) (D2.length + 1) cp)).frozen? ⟨g, D2.length * 3 + 1, none⟩ = false := own_free HOW.out _; have z2 : (w3.setCell ⟨r, 0, none⟩ (.slice (some ⟨g, 0, none⟩) (D2.length + 1) cp)).frozen? ⟨g, D2.length * 3 + 2, none⟩ = false := own_free HOW.out _; have HQ := hide (rg_set (t := t) (Nat.le_trans hBw2 HP.out.be.size) HBr.out rfl hdlb2 HB5.out HOW.out (HG3.out.below HP.out.be) (HTI.out.below HP.out.be)); clear hown hgr hat)
    go_ret
    exact ⟨rfl, HR0.out.trans (HR2.out.trans (HP.out.trans HQ.out))⟩
theorem rOne_succ {f : Nat} (HO : rOneOk f) (HN : rNameOk f) (HT : rListOk f) : rOneOk (f + 1) := by
  intro k t cs B r d w hin hg hf12 hd hdc hc5 hst hBw
  cases hp : plc d t with
  | some kx => exact rOne_found k t cs B r d w kx hin hp hst hBw
  | none =>
    have h := hg.1.1
    by_cases h1 : t.kind = 1
    · exact rOne_k1 HN k t cs B r d w hin hg hf12 hd hdc hc5 hp hst hBw h1
    · by_cases h2 : t.kind = 2
      · exact rOne_k2 HO k t cs B r d w hin hg hf12 hd hdc hc5 hp hst hBw h2
      · by_cases h3 : t.kind = 3
        · exact rOne_k3 HO k t cs B r d w hin hg hf12 hd hdc hc5 hp hst hBw h3
        · exact rOne_k4 HT k t cs B r d w hin hg hf12 hd hdc hc5 hp hst hBw (by have := h.1; have := h.2; omega)
theorem rOneAll : ∀ f, rOneOk f
  | 0 => rOne_zero
  | f + 1 => rOne_succ (rOneAll f) (rName_of (rList_of (rOneAll f))) (rList_of (rOneAll f))
end Go.Proofs.YtmloohicgdemfaaDoor
