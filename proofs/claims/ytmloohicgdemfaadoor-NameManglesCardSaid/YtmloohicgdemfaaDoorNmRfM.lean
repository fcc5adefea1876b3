/- Walk of the reference's Mangled. -/
import Derived.Test.YtmloohicgdemfaaDoorNmRfN
import Derived.Test.YtmloohicgdemfaaDoorNmSymE
import Derived.Test.YtmloohicgdemfaaDoorRegChain
namespace Go.Proofs.YtmloohicgdemfaaDoor
open Go.RowKit
set_option linter.unusedVariables false
set_option linter.unusedSimpArgs false
set_option maxRecDepth 100000 in
set_option maxHeartbeats 8000000 in
theorem Mangled_any (k : Nat) (s : Sym) (cs : List Value) (w : World) (hin : SymIn w k s cs) (h0 : (symE s).1 = 0) (h5 : (symE s).2 ≤ 500) :
    Calls Tryd.prog 6 #[.agg cs.toArray] w fun e w' => e = .returned (.string ⟨(mgSym s).toArray⟩) ∧ Below w.heap.size w w' := by
  obtain ⟨A, n, c, A2, n2, c2, rfl, hn, hm, hn2, hm2, hl, hl2⟩ := hin
  obtain ⟨g1, g2, g3, g4, g5, g6⟩ := sym_good h0
  obtain ⟨t1, t2⟩ := sym_txt h0
  have HA := hide ((Below.refl w.heap.size w).alloc (Nat.le_refl _) (.cells #[.slice A n c, .slice A2 n2 c2] 25))
  have HX := hide (heap_alloc_new w (.cells #[.slice A n c, .slice A2 n2 c2] 25))
  have hnl := hl.len
  have hnl2 := hl2.len
  have hPG : ∀ p ∈ s.name, textE p.1 = 0 ∧ p.1.size ≤ 60 ∧ p.2.length ≤ 20 ∧ ∀ x ∈ p.2, Good 12 x ∧ Txt 12 x := fun p hp => ⟨(t1 p hp).1, (g1 p hp).1, (g1 p hp).2.1, fun x hx => ⟨(g1 p hp).2.2 x hx, (t1 p hp).2 x hx⟩⟩
  have hTG : ∀ x ∈ s.takes, Good 12 x ∧ Txt 12 x := fun x hx => ⟨g4 x hx, t2 x hx⟩
  have d0 : DOk [] := ⟨List.nodup_nil, by simp⟩
  have hgr := fold_grew (c := fun p : Part => cntTys 12 p.2) (S := fun p x => ∃ y ∈ p.2, Sub y x) (G := fun p => textE p.1 = 0 ∧ p.1.size ≤ 60 ∧ ∀ x ∈ p.2, Good 12 x ∧ Txt 12 x) (fun p d hp hd => mgParts_grew (Nat.le_refl _) p d hp hd) s.name [] (fun p hp => ⟨(hPG p hp).1, (hPG p hp).2.1, (hPG p hp).2.2.2⟩) d0
  have hnlen := mgParts_len (Nat.le_refl 12) (fun t d ht hd hn => mgT_len 12 t d (Nat.le_refl _) ht hd hn) (l := s.name) (d := []) (fun p hp => ⟨(hPG p hp).1, (hPG p hp).2.1, (hPG p hp).2.2.2⟩) d0 (by simp; omega)
  have hdl : (mgFold (mgPart (mgT 12)) s.name []).2.length ≤ cntParts 12 s.name := by have := hgr.len; simp only [List.length_nil, Nat.zero_add] at this; exact this
  have HDO := hide hgr.ok
  have HPG := hide hPG
  have HTG := hide hTG
  have HD0 := hide d0
  obtain ⟨D1, hD1⟩ : ∃ x, (mgFold (mgPart (mgT 12)) s.name []).2 = x := ⟨_, rfl⟩
  have hN2 : (mgName (mgT 12) s.name []).2 = D1 := hD1
  have hN1 : (mgName (mgT 12) s.name []).1.length ≤ 800000 := by
    unfold mgName
    simp only [List.length_cons, List.length_append, List.length_nil]
    omega
  have htlen := mgTys_len (Nat.le_refl 12) (fun t d ht hd hn => mgT_len 12 t d (Nat.le_refl _) ht hd hn) (l := s.takes) (d := D1) hTG (hD1 ▸ hgr.ok) (by rw [hD1] at hdl; omega)
  rw [hD1] at hdl HDO
  obtain ⟨wa, hwa⟩ : ∃ x, w.alloc (.cells #[.slice A n c, .slice A2 n2 c2] 25) = x := ⟨_, rfl⟩
  rw [hwa] at HA HX
  obtain ⟨wb, hwb⟩ : ∃ x, wa.alloc (.cells #[.slice none 0 0] 54) = x := ⟨_, rfl⟩
  have HB := hide (show Below wa.heap.size wa wb by rw [← hwb]; exact (Below.refl _ _).alloc (Nat.le_refl _) _)
  have HY := hide (show wb.heap[wa.heap.size]? = some (.cells #[.slice none 0 0] 54 (0, 0)) by rw [← hwb]; exact heap_alloc_new wa _)
  have hza := HA.out.size
  have hzb := HB.out.size
  have hlta := lt_of_block HX.out
  have HAB := hide (HA.out.trans (HB.out.mono hza))
  have HS0 : Hid (RgS wa.heap.size wa.heap.size k [] wb) := hide ⟨⟨_, [], HY.out, World.ownsRow_nil _ _ _ _, Rows3.nil _ _ _⟩, Nat.le_refl _, by simp⟩
  have HL1 := hide (parts_more (parts_below hl HAB.out) hza)
  have HL2 := hide (tys_more (tys_below hl2 HAB.out) hza)
  have HXb := hide (block_below HX.out HB.out)
  obtain ⟨X, hX⟩ : ∃ X : ByteArray, ⟨(mgName (mgT 12) s.name []).1.toArray⟩ = X := ⟨_, rfl⟩
  have HXX := hide (show X.data.toList = (mgName (mgT 12) s.name []).1 by rw [← hX])
  have hXl : X.size ≤ 800000 := by
    have h1 : X.size = (mgName (mgT 12) s.name []).1.length := by rw [← hX]; rfl
    omega
  obtain ⟨Y, hY⟩ : ∃ Y : ByteArray, ⟨(mgFold (mgT 12) s.takes D1).1.toArray⟩ = Y := ⟨_, rfl⟩
  have HYY := hide (show Y.data.toList = (mgFold (mgT 12) s.takes D1).1 by rw [← hY])
  have hYl : Y.size ≤ 800000 := by
    have h1 : Y.size = (mgFold (mgT 12) s.takes D1).1.length := by rw [← hY]; rfl
    omega
  have HC1 := hide (fun W (hb : Below wa.heap.size wb W) (hs : RgS wa.heap.size wa.heap.size k [] W) => rName_of (rList_of (rOneAll 12)) k A n c s.name wa.heap.size wa.heap.size [] W hn hm (by omega) (parts_below HL1.out hb) HPG.out (Nat.le_refl _) HD0.out (by simp; omega) (by omega) hs (Nat.le_trans hzb hb.size))
  rw [hX, hN2] at HC1
  have HC2 := hide (fun W (hb : Below wa.heap.size wb W) (hs : RgS wa.heap.size wa.heap.size k D1 W) => rList_of (rOneAll 12) k A2 n2 c2 s.takes wa.heap.size wa.heap.size D1 W hn2 hm2 (by omega) (tys_below HL2.out hb) HTG.out (Nat.le_refl _) HDO.out (by omega) (by omega) hs (Nat.le_trans hzb hb.size))
  rw [hY] at HC2
  have HE := hide (show (⟨(mgSym s).toArray⟩ : ByteArray) = (⟨#[81]⟩ : ByteArray) ++ X ++ Y ++ (⟨#[90]⟩ : ByteArray) from (str_eq (by rw [app_toL, app_toL, app_toL, HXX.out, HYY.out]; unfold mgSym; rw [hN2]; simp)).symm)
  rw [HE.out]
  have s81 : (⟨#[81]⟩ : ByteArray).size = 1 := rfl
  have s90 : (⟨#[90]⟩ : ByteArray).size = 1 := rfl
  have nb1 : ¬ 9223372036854775807 < 1 + X.size := by omega
  have hq1 : ((⟨#[81]⟩ : ByteArray) ++ X).size = 1 + X.size := by rw [ByteArray.size_append, s81]
  have nb2 : ¬ 9223372036854775807 < 1 + X.size + Y.size := by omega
  have hq2 : ((⟨#[81]⟩ : ByteArray) ++ X ++ Y).size = 1 + X.size + Y.size := by rw [ByteArray.size_append, hq1]
  have nb3 : ¬ 9223372036854775807 < 1 + X.size + Y.size + 1 := by omega
  clear hl hl2 g1 g4 t1 t2 hPG hTG d0 hgr hD1 hN2 hX hY HE HXX HYY HD0 HDO HPG HTG hnlen htlen hN1 hdl HL1 HL2
  go_enter Tryd.func6, Tryd.ntmps6
  go_wp2_with (fail)
  have hS0 : wb.drew.cell? ⟨w.heap.size, 0, none⟩ = some (.slice A n c) ∧ wb.drew.cell? ⟨w.heap.size, 1, none⟩ = some (.slice A2 n2 c2) := ⟨block_cell HXb.out 0, block_cell HXb.out 1⟩
  refine wp_region_chain (fun W => W.cell? ⟨w.heap.size, 0, none⟩ = some (.slice A n c) ∧ W.cell? ⟨w.heap.size, 1, none⟩ = some (.slice A2 n2 c2)) 8 (by as_aux_lemma => kernel_rfl) (N := 12) (by as_aux_lemma => kernel_rfl) ?_; intro hsh
  refine wpAnyC_take0 (i := 0) (k := 8) (v := ?_) (d := some 6) rfl (by rfl) (by as_aux_lemma => kernel_rfl) (by as_aux_lemma => kernel_rfl) (by as_aux_lemma => kernel_rfl) hsh (by decide) (by intro _ _ _ h; exact h) (by assumption) (Or.inl ⟨by rfl, ?hy⟩) ?_; (case hy => (intro W _; go_simp; (try with_reducible rfl))); clear hsh; intro hsh
  refine wpAnyC_take0 (i := 1) (k := 8) (v := ?_) (d := some 7) rfl (by rfl) (by as_aux_lemma => kernel_rfl) (by as_aux_lemma => kernel_rfl) (by as_aux_lemma => kernel_rfl) hsh (by decide) (by intro _ _ _ h; exact h) (by assumption) (Or.inl ⟨by rfl, ?hy⟩) ?_; (case hy => (intro W _; go_simp; (try with_reducible rfl))); clear hsh; intro hsh
  refine wpAnyC_take (i := 2) (k := 8) (f := 40) (v := ?_) (d := some 8) rfl (by rfl) (by as_aux_lemma => kernel_rfl) (by as_aux_lemma => kernel_rfl) (by as_aux_lemma => kernel_rfl) hsh (by decide) (by as_aux_lemma => kernel_rfl) (by intro _ _ _ h; exact h) (by assumption) (Or.inl ⟨by rfl, ?hy⟩) ?_; (case hy => (rintro W ⟨y0, y1⟩; go_simp; (try with_reducible rfl))); clear hsh; intro hsh
  refine wpAnyC_take0 (i := 5) (k := 8) (v := ?_) (d := some 11) rfl (by rfl) (by as_aux_lemma => kernel_rfl) (by as_aux_lemma => kernel_rfl) (by as_aux_lemma => kernel_rfl) hsh (by decide) (by intro _ _ _ h; exact h) (by assumption) (Or.inl ⟨by rfl, ?hy⟩) ?_; (case hy => (intro W _; go_simp; (try with_reducible rfl))); clear hsh; intro hsh
  refine wpAnyC_take0 (i := 6) (k := 8) (v := ?_) (d := some 12) rfl (by rfl) (by as_aux_lemma => kernel_rfl) (by as_aux_lemma => kernel_rfl) (by as_aux_lemma => kernel_rfl) hsh (by decide) (by intro _ _ _ h; exact h) (by assumption) (Or.inl ⟨by rfl, ?hy⟩) ?_; (case hy => (intro W _; go_simp; (try with_reducible rfl))); clear hsh; intro hsh
  refine wpAnyC_take (i := 7) (k := 8) (f := 40) (v := ?_) (d := some 13) rfl (by rfl) (by as_aux_lemma => kernel_rfl) (by as_aux_lemma => kernel_rfl) (by as_aux_lemma => kernel_rfl) hsh (by decide) (by as_aux_lemma => kernel_rfl) (by intro _ _ _ h; exact h) (by assumption) (Or.inl ⟨by rfl, ?hy⟩) ?_; (case hy => (rintro W ⟨y0, y1⟩; go_simp; (try with_reducible rfl))); clear hsh; intro hsh
  refine wpAnyC_ready (rs := [3]) (by as_aux_lemma => kernel_rfl) (by simp) ?_; refine AllC.cons (i := 3) rfl (by as_aux_lemma => kernel_rfl) hsh (fun K hK => ?_) AllC.nil
  go_simp
  go_at_call 15
  refine (HC1.out wb.drew (below_drewN (Below.refl _ _) 1) (HS0.out.below hzb (below_drewN (Below.refl _ _) 1))).mono ?_
  rintro e w3 ⟨rfl, hr3⟩
  have HR3 := hide hr3
  have HXc := hide ((hr3.be.block w.heap.size hlta).trans HXb.out)
  clear hr3
  try go_simp
  refine hK _ _ (fun _ => ⟨block_cell HXc.out 0, block_cell HXc.out 1⟩) ?_
  clear hK K hsh hS0
  intro hsh
  have hS1 : w3.cell? ⟨w.heap.size, 0, none⟩ = some (.slice A n c) ∧ w3.cell? ⟨w.heap.size, 1, none⟩ = some (.slice A2 n2 c2) := ⟨block_cell HXc.out 0, block_cell HXc.out 1⟩
  refine wpAnyC_take0 (i := 4) (k := 8) (v := ?_) (d := some 10) rfl (by rfl) (by as_aux_lemma => kernel_rfl) (by as_aux_lemma => kernel_rfl) (by as_aux_lemma => kernel_rfl) hsh (by decide) (by intro _ _ _ h; exact h) (by assumption) (Or.inl ⟨by rfl, ?hy⟩) ?_; (case hy => (intro W _; go_simp; (try with_reducible rfl))); clear hsh; intro hsh
  refine wpAnyC_tail (by as_aux_lemma => kernel_rfl) (by simp) (by as_aux_lemma => kernel_rfl) ?_; simp only [List.drop_succ_cons, List.drop_zero]; clear hsh
  go_simp
  have HB3 : Hid (Below wa.heap.size wb w3) := hide ((show Below wa.heap.size wb wb.drew from below_drewN (Below.refl _ _) 1).trans HR3.out.be)
  have HC3 := hide (HC2.out w3 HB3.out HR3.out.st)
  go_wp2_with (go_at_call 16; refine HC3.out.mono ?_; rintro e w4 ⟨rfl, hr4⟩; have HB4 := hide (HAB.out.trans ((HB3.out.trans hr4.be).mono hza)); clear hr4)
  go_ret
  exact ⟨rfl, HB4.out⟩
end Go.Proofs.YtmloohicgdemfaaDoor
