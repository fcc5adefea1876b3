/- Walks of the reference's mangler: list, name, one (printed by gen_mr.py). -/
import Derived.Test.YtmloohicgdemfaaDoorNmRfH
namespace Go.Proofs.YtmloohicgdemfaaDoor
open Go.RowKit
set_option linter.unusedVariables false
set_option linter.unusedSimpArgs false
theorem fold_take {α : Type} {g : α → List Ty → List UInt8 × List Ty} {l : List α} {j : Nat} {a : α} (h : l[j]? = some a) (d : List Ty) : mgFold g (l.take (j + 1)) d = ((mgFold g (l.take j) d).1 ++ (g a (mgFold g (l.take j) d).2).1, (g a (mgFold g (l.take j) d).2).2) := by
  rw [take_succ_get h, mgFold_snoc]
theorem sumN_take {α : Type} (c : α → Nat) (l : List α) (j : Nat) : sumN c (l.take j) ≤ sumN c l := by
  have h : ∀ a b : List α, sumN c (a ++ b) = sumN c a + sumN c b := fun a b => by simp [sumN]
  have h2 := h (l.take j) (l.drop j)
  rw [List.take_append_drop] at h2
  omega
theorem sumN_split {α : Type} (c : α → Nat) {l : List α} {j : Nat} {a : α} (h : l[j]? = some a) : sumN c (l.take j) + c a ≤ sumN c l := by
  have := sumN_take c l (j + 1)
  rw [take_succ_get h] at this
  simpa [sumN] using this
theorem str_eq {a : ByteArray} {l : List UInt8} (h : a.data.toList = l) : a = ⟨l.toArray⟩ := by rw [← h]
def rOneOk (f : Nat) : Prop := ∀ (k : Nat) (t : Ty) (cs : List Value) (B r : Nat) (d : List Ty) (w : World), TyIn w B k t cs → Good f t ∧ Txt f t → f ≤ 12 → DOk d → d.length + cnt f t ≤ 999 → cnt f t ≤ 500 → RgS B r k d w → B ≤ w.heap.size →
  Calls Tryd.prog 24 #[.pointer (some ⟨r, 0, none⟩), .agg cs.toArray] w fun e w' => e = .returned (.string ⟨(mgT f t d).1.toArray⟩) ∧ RgR B r k (mgT f t d).2 w w'
def rListOk (f : Nat) : Prop := ∀ (k : Nat) (A : Option Addr) (n cap : Nat) (l : List Ty) (B r : Nat) (d : List Ty) (w : World), n ≤ cap → cap ≤ maxLen → n ≤ 21 → Tys w B k A n l → (∀ t ∈ l, Good f t ∧ Txt f t) → f ≤ 12 → DOk d → d.length + cntTys f l ≤ 999 → cntTys f l ≤ 500 → RgS B r k d w → B ≤ w.heap.size →
  Calls Tryd.prog 16 #[.pointer (some ⟨r, 0, none⟩), .slice A n cap] w fun e w' => e = .returned (.string ⟨(mgFold (mgT f) l d).1.toArray⟩) ∧ RgR B r k (mgFold (mgT f) l d).2 w w'
def rNameOk (f : Nat) : Prop := ∀ (k : Nat) (A : Option Addr) (n cap : Nat) (l : List Part) (B r : Nat) (d : List Ty) (w : World), n ≤ cap → cap ≤ maxLen → n ≤ 20 → Parts w B k A n l → (∀ p ∈ l, textE p.1 = 0 ∧ p.1.size ≤ 60 ∧ p.2.length ≤ 20 ∧ ∀ x ∈ p.2, Good f x ∧ Txt f x) → f ≤ 12 → DOk d → d.length + cntParts f l ≤ 999 → cntParts f l ≤ 500 → RgS B r k d w → B ≤ w.heap.size →
  Calls Tryd.prog 15 #[.pointer (some ⟨r, 0, none⟩), .slice A n cap] w fun e w' => e = .returned (.string ⟨(mgName (mgT f) l d).1.toArray⟩) ∧ RgR B r k (mgName (mgT f) l d).2 w w'
theorem rOne_zero : rOneOk 0 := fun _ _ _ _ _ _ _ _ h => h.1.elim
set_option maxRecDepth 100000 in
set_option maxHeartbeats 8000000 in
theorem rList_of {f : Nat} (H : rOneOk f) : rListOk f := by
  intro k A n cap l B r d w hnc hcm hn hl hg hf12 hd hdc hc5 hst hBw
  unfold maxLen at hcm
  have HL := hide hl.len
  have HSL := hide hl
  have HG := hide hg
  have HH := hide H
  have HGR := hide (fun j => fold_grew (c := cnt f) (S := fun y x => Sub y x) (fun t d ht hd => mgT_grew f t d hf12 ht hd) (l.take j) d (fun t ht => hg t (List.mem_of_mem_take ht)) hd)
  have HLN := hide (fun j => mgTys_len hf12 (fun t d ht hd hn => mgT_len f t d hf12 ht hd hn) (l := l.take j) (d := d) (fun t ht => hg t (List.mem_of_mem_take ht)) hd (by have := cntTys_take f l j; omega))
  have HSP := hide (fun (j : Nat) (a : Ty) (h : l[j]? = some a) => sumN_split (cnt f) h)
  have HC5 := hide (show sumN (cnt f) l ≤ 500 from hc5)
  have HDC := hide (show d.length + sumN (cnt f) l ≤ 999 from hdc)
  have HST := hide hst
  clear hl hg H hd hst
  go_enter Tryd.func16, Tryd.ntmps16
  go_wp2_with (fail)
  go_loopw [5, 10] (fun sv i wr => ∃ (j : Nat) (S : ByteArray), j ≤ n ∧ i = .int .i64 j ∧ sv = .string S ∧ S.data.toList = (mgFold (mgT f) (l.take j) d).1 ∧ RgR B r k (mgFold (mgT f) (l.take j) d).2 w wr) (fun _ i _ => n - (intOf i).toNat)
  case atStart => exact ⟨0, ⟨#[]⟩, Nat.zero_le _, rfl, rfl, rfl, RgR.refl HST.out⟩
  case round =>
    obtain ⟨j, S, hj, rfl, rfl, hS, hR⟩ := hrel
    have hz := Nat.le_trans hBw hR.be.size
    have HR := hide hR
    have hlj := HLN.out j
    have hcj := cntTys_take f l j
    have hSl : S.size ≤ 700000 := by
      have : S.size = (mgFold (mgT f) (l.take j) d).1.length := by rw [← hS, Array.length_toList]; rfl
      omega
    have HS := hide hS
    clear hS
    by_cases hlt : j < n
    · obtain ⟨o, q, t, cs, rfl, hq, ht, hin, hcs⟩ := (tys_below HSL.out hR.be).at_ hlt
      have hm := List.mem_of_getElem? ht
      have hgr := HGR.out j
      have hsp := HSP.out j t ht
      have HFT := hide (fold_take (g := mgT f) ht d)
      obtain ⟨d1, hd1⟩ : ∃ x, (mgFold (mgT f) (l.take j) d).2 = x := ⟨_, rfl⟩
      rw [hd1] at HR hgr
      have hdl := hgr.len
      have hb1 : d1.length + cnt f t ≤ 999 := by have := HDC.out; omega
      have hml := mgT_len f t d1 hf12 (HG.out t hm) hgr.ok hb1
      have hct : cnt f t ≤ 500 := by have := HC5.out; omega
      have HO := hide (fun (W : World) (h : Below B wr W) h5 h6 => HH.out k t cs B r d1 W (hin.below h) (HG.out t hm) hf12 hgr.ok hb1 hct h5 h6)
      obtain ⟨X, hX⟩ : ∃ X : ByteArray, ⟨(mgT f t d1).1.toArray⟩ = X := ⟨_, rfl⟩
      have HX := hide (show X.data.toList = (mgT f t d1).1 by rw [← hX])
      have hXl : X.size ≤ 700000 := by
        have : X.size = (mgT f t d1).1.length := by rw [← hX]; rfl
        omega
      rw [hX] at HO
      have nb1 : ¬ 9223372036854775807 < S.size + X.size := by omega
      cases k with
      | zero => exact hin.elim
      | succ k =>
      obtain ⟨A1, n1, cap1, A2, n2, cap2, rfl, _⟩ := hin
      have c0 : wr.cell? ⟨o, q + j * 3, none⟩ = some (.int .i64 t.kind) := by simpa using hcs 0 _ rfl
      have c1 : wr.cell? ⟨o, q + j * 3 + 1, none⟩ = some (.slice A1 n1 cap1) := hcs 1 _ rfl
      have c2 : wr.cell? ⟨o, q + j * 3 + 2, none⟩ = some (.slice A2 n2 cap2) := hcs 2 _ rfl
      have HA := hide ((Below.refl wr.heap.size wr).alloc (Nat.le_refl _) (.cells #[.int .i64 t.kind, .slice A1 n1 cap1, .slice A2 n2 cap2] 64))
      have HR2 := hide (HR.out.below hBw HA.out)
      have HC := hide (HO.out _ (HA.out.mono hz) HR2.out.st (Nat.le_trans hz HA.out.size))
      have HD1 := hide hd1
      clear hcs ht hm hR HO hd1 hgr hsp hX
      go_wp2_with (go_at_call 24; refine HC.out.mono ?_; rintro e w2 ⟨rfl, hr2⟩; have HR3 := hide (HR2.out.trans hr2); clear hr2)
      go_roundw
      case rel => exact ⟨j + 1, S ++ X, by omega, by go_num, rfl, by rw [app_toL, HS.out, HX.out, HFT.out, HD1.out], by rw [HFT.out, HD1.out]; exact HR3.out⟩
      case measure => simp [intOf]; omega
    · obtain rfl : j = n := by omega
      have htk : l.take j = l := take_len l (by rw [HL.out]; exact Nat.le_refl _)
      rw [htk] at HR HS
      clear htk hR
      go_wp2_with (fail)
      go_ret
      exact ⟨by rw [str_eq HS.out]; rfl, HR.out⟩
set_option maxRecDepth 100000 in
set_option maxHeartbeats 8000000 in
theorem rName_of {f : Nat} (HT : rListOk f) : rNameOk f := by
  intro k A n cap l B r d w hnc hcm hn hl hg hf12 hd hdc hc5 hst hBw
  unfold maxLen at hcm
  have HLN := hide hl.len
  have HSL := hide hl
  have HG := hide hg
  have hnn := hl.len
  have HGR := hide (fun j => fold_grew (c := fun p => cntTys f p.2) (S := fun p x => ∃ y ∈ p.2, Sub y x) (G := fun p => textE p.1 = 0 ∧ p.1.size ≤ 60 ∧ ∀ x ∈ p.2, Good f x ∧ Txt f x) (fun p d hp hd => mgParts_grew hf12 p d hp hd) (l.take j) d (fun p hp => ⟨(hg p (List.mem_of_mem_take hp)).1, (hg p (List.mem_of_mem_take hp)).2.1, (hg p (List.mem_of_mem_take hp)).2.2.2⟩) hd)
  have HNL := hide (fun j => Nat.le_trans (mgParts_len hf12 (fun t d ht hd hn => mgT_len f t d hf12 ht hd hn) (l := l.take j) (d := d) (fun p hp => ⟨(hg p (List.mem_of_mem_take hp)).1, (hg p (List.mem_of_mem_take hp)).2.1, (hg p (List.mem_of_mem_take hp)).2.2.2⟩) hd (by have := cntParts_take f l j; omega)) (Nat.add_le_add (Nat.mul_le_mul_left 64 (show (l.take j).length ≤ 20 by rw [List.length_take]; omega)) (Nat.mul_le_mul_left 1400 (Nat.le_trans (cntParts_take f l j) hc5))))
  have HSP := hide (fun (j : Nat) (p : Part) (h : l[j]? = some p) => sumN_split (fun p : Part => cntTys f p.2) h)
  have HC5 := hide (show sumN (fun p : Part => cntTys f p.2) l ≤ 500 from hc5)
  have HDC := hide (show d.length + sumN (fun p : Part => cntTys f p.2) l ≤ 999 from hdc)
  have HST := hide hst
  have s69 : (⟨#[69]⟩ : ByteArray).size = 1 := rfl
  have s73 : (⟨#[73]⟩ : ByteArray).size = 1 := rfl
  clear hl hg hd hst
  go_enter Tryd.func15, Tryd.ntmps15
  go_wp2_with (fail)
  go_loopw [5, 10] (fun sv i wr => ∃ (j : Nat) (S : ByteArray), j ≤ n ∧ i = .int .i64 j ∧ sv = .string S ∧ S.data.toList = 78 :: (mgFold (mgPart (mgT f)) (l.take j) d).1 ∧ RgR B r k (mgFold (mgPart (mgT f)) (l.take j) d).2 w wr) (fun _ i _ => n - (intOf i).toNat)
  case atStart => exact ⟨0, ⟨#[78]⟩, Nat.zero_le _, rfl, rfl, rfl, RgR.refl HST.out⟩
  case round =>
    obtain ⟨j, S, hj, rfl, rfl, hS, hR⟩ := hrel
    have hz := Nat.le_trans hBw hR.be.size
    have hlj := HNL.out j
    have hSl : S.size ≤ 710000 := by
      have h1 : S.size = (78 :: (mgFold (mgPart (mgT f)) (l.take j) d).1).length := by rw [← hS, Array.length_toList]; rfl
      rw [List.length_cons] at h1
      omega
    have HS := hide hS
    clear hS
    by_cases hlt : j < n
    · obtain ⟨o, q, p, cs, rfl, hq, hp, hin, hcs⟩ := (parts_below HSL.out hR.be).at_ hlt
      obtain ⟨PA, pn, pc, rfl, hps, hpnc, hpcm, hpl⟩ := hin
      have hm := List.mem_of_getElem? hp
      obtain ⟨hpt, hp60, hp20, hpg⟩ := HG.out p hm
      have hsp := HSP.out j p hp
      have hgr := HGR.out j
      have hpln := hpl.len
      have HFT := hide (fold_take (g := mgPart (mgT f)) hp d)
      obtain ⟨d1, hd1⟩ : ∃ x, (mgFold (mgPart (mgT f)) (l.take j) d).2 = x := ⟨_, rfl⟩
      rw [hd1] at hR hgr
      have hdl := hgr.len
      have HDO := hide hgr.ok
      have hb1 : d1.length + cntTys f p.2 ≤ 999 := by have := HDC.out; omega
      have hct : cntTys f p.2 ≤ 500 := by have := HC5.out; omega
      have hml := mgTys_len hf12 (fun t d ht hd hn => mgT_len f t d hf12 ht hd hn) hpg hgr.ok hb1
      have c0 : wr.cell? ⟨o, q + j * 2, none⟩ = some (.string p.1) := by simpa using hcs 0 _ rfl
      have c1 : wr.cell? ⟨o, q + j * 2 + 1, none⟩ = some (.slice PA pn pc) := hcs 1 _ rfl
      have HPA := hide ((Below.refl wr.heap.size wr).alloc (Nat.le_refl _) (.cells #[.string p.1, .slice PA pn pc] 61))
      have HPX := hide (heap_alloc_new wr (.cells #[.string p.1, .slice PA pn pc] 61))
      have HR2 := hide (hR.below hBw (HPA.out.trans (below_drewN (Below.refl _ _) 1)))
      have HBA := hide ((HPA.out.mono hz).trans (below_drewN (Below.refl B _) 1))
      have HPL := hide hpl
      have e0 : (wr.alloc (.cells #[.string p.1, .slice PA pn pc] 61)).cell? ⟨wr.heap.size, 0, none⟩ = some (.string p.1) := block_cell HPX.out 0
      have HPG := hide hpg
      have HD1 := hide hd1
      clear hcs hm hR hp hpl hpg hgr hd1
      go_wp2_with (fail)
      obtain ⟨wa, hwa⟩ : ∃ x, wr.alloc (.cells #[.string p.1, .slice PA pn pc] 61) = x := ⟨_, rfl⟩
      rw [hwa] at HPX HPA e0 HR2 HBA ⊢
      clear hwa
      have HI := hide (Told_any (p.1.size : Int) wa.drew (by omega) (by omega))
      obtain ⟨lz, hlz⟩ : ∃ x : ByteArray, ⟨(toldL (p.1.size : Int)).toArray⟩ = x := ⟨_, rfl⟩
      have HLZ := hide (show lz.data.toList = lenL p.1 by rw [← hlz]; rfl)
      have hlz2 : lz.size ≤ 2 := by
        have h1 : lz.size = (lenL p.1).length := by rw [← HLZ.out, Array.length_toList]; rfl
        have := lenL_len hp60
        omega
      rw [hlz] at HI
      have hq1 : (lz ++ p.1).size = lz.size + p.1.size := ByteArray.size_append
      have nb1 : ¬ 9223372036854775807 < lz.size + p.1.size := by omega
      have nb2 : ¬ 9223372036854775807 < S.size + (lz.size + p.1.size) := by omega
      clear hlz
      refine wp_region_chain (fun W => W.cell? ⟨wr.heap.size, 0, none⟩ = some (.string p.1)) 9 (by as_aux_lemma => kernel_rfl) (N := 10) (by as_aux_lemma => kernel_rfl) ?_; intro hsh
      have HS1 : wa.drew.cell? ⟨wr.heap.size, 0, none⟩ = some (.string p.1) := e0
      refine wpAnyC_take0 (i := 0) (k := 9) (v := ?_) (d := some 14) rfl (by rfl) (by as_aux_lemma => kernel_rfl) (by as_aux_lemma => kernel_rfl) (by as_aux_lemma => kernel_rfl) hsh (by decide) (by intro _ _ _ h; exact h) (by assumption) (Or.inl ⟨by rfl, ?hy⟩) ?_; (case hy => (intro W _; go_simp; (try with_reducible rfl))); clear hsh; intro hsh
      refine wpAnyC_take0 (i := 1) (k := 9) (v := ?_) (d := some 15) rfl (by rfl) (by as_aux_lemma => kernel_rfl) (by as_aux_lemma => kernel_rfl) (by as_aux_lemma => kernel_rfl) hsh (by decide) (by intro _ _ _ h; exact h) (by assumption) (Or.inl ⟨by rfl, ?hy⟩) ?_; (case hy => (intro W _; go_simp; (try with_reducible rfl))); clear hsh; intro hsh
      refine wpAnyC_take (i := 2) (k := 9) (f := 40) (v := ?_) (d := some 16) rfl (by rfl) (by as_aux_lemma => kernel_rfl) (by as_aux_lemma => kernel_rfl) (by as_aux_lemma => kernel_rfl) hsh (by decide) (by as_aux_lemma => kernel_rfl) (by intro _ _ _ h; exact h) (by assumption) (Or.inl ⟨by rfl, ?hy⟩) ?_; (case hy => (rintro W y0; go_simp; (try with_reducible rfl))); clear hsh; intro hsh
      refine wpAnyC_take0 (i := 3) (k := 9) (v := ?_) (d := some 17) rfl (by rfl) (by as_aux_lemma => kernel_rfl) (by as_aux_lemma => kernel_rfl) (by as_aux_lemma => kernel_rfl) hsh (by decide) (by intro _ _ _ h; exact h) (by assumption) (Or.inl ⟨by rfl, ?hy⟩) ?_; (case hy => (intro W _; go_simp; (try with_reducible rfl))); clear hsh; intro hsh
      refine wpAnyC_take0 (i := 5) (k := 9) (v := ?_) (d := some 19) rfl (by rfl) (by as_aux_lemma => kernel_rfl) (by as_aux_lemma => kernel_rfl) (by as_aux_lemma => kernel_rfl) hsh (by decide) (by intro _ _ _ h; exact h) (by assumption) (Or.inl ⟨by rfl, ?hy⟩) ?_; (case hy => (intro W _; go_simp; (try with_reducible rfl))); clear hsh; intro hsh
      refine wpAnyC_take (i := 6) (k := 9) (f := 40) (v := ?_) (d := some 20) rfl (by rfl) (by as_aux_lemma => kernel_rfl) (by as_aux_lemma => kernel_rfl) (by as_aux_lemma => kernel_rfl) hsh (by decide) (by as_aux_lemma => kernel_rfl) (by intro _ _ _ h; exact h) (by assumption) (Or.inl ⟨by rfl, ?hy⟩) ?_; (case hy => (rintro W y0; go_simp; (try with_reducible rfl))); clear hsh; intro hsh
      refine wpAnyC_ready (rs := [4]) (by as_aux_lemma => kernel_rfl) (by simp) ?_; refine AllC.cons (i := 4) rfl (by as_aux_lemma => kernel_rfl) hsh (fun K hK => ?_) AllC.nil
      go_simp
      go_at_call 23
      refine HI.out.mono ?_
      rintro e w2 ⟨rfl, hw2⟩
      have HPX2 := hide (block_below (show wa.drew.heap[wr.heap.size]? = _ from HPX.out) hw2)
      have HR3 := hide (HR2.out.below hBw hw2)
      have HBB := hide (HBA.out.trans (hw2.mono (Nat.le_trans hBw HR2.out.be.size)))
      try go_simp
      refine hK _ _ (fun _ => block_cell HPX2.out 0) ?_
      clear hK K hsh HS1 hw2 HI
      intro hsh
      have HS1 : w2.cell? ⟨wr.heap.size, 0, none⟩ = some (.string p.1) := block_cell HPX2.out 0
      refine wpAnyC_take0 (i := 7) (k := 9) (v := ?_) (d := some 21) rfl (by rfl) (by as_aux_lemma => kernel_rfl) (by as_aux_lemma => kernel_rfl) (by as_aux_lemma => kernel_rfl) hsh (by decide) (by intro _ _ _ h; exact h) (by assumption) (Or.inl ⟨by rfl, ?hy⟩) ?_; (case hy => (intro W _; go_simp; (try with_reducible rfl))); clear hsh; intro hsh
      refine wpAnyC_take0 (i := 8) (k := 9) (v := ?_) (d := some 22) rfl (by rfl) (by as_aux_lemma => kernel_rfl) (by as_aux_lemma => kernel_rfl) (by as_aux_lemma => kernel_rfl) hsh (by decide) (by intro _ _ _ h; exact h) (by assumption) (Or.inl ⟨by rfl, ?hy⟩) ?_; (case hy => (intro W _; go_simp; (try with_reducible rfl))); clear hsh; intro hsh
      refine wpAnyC_tail (by as_aux_lemma => kernel_rfl) (by simp) (by as_aux_lemma => kernel_rfl) ?_; simp only [List.drop_succ_cons, List.drop_zero]; clear hsh
      have y1 : w2.cell? ⟨wr.heap.size, 1, none⟩ = some (.slice PA pn pc) := block_cell HPX2.out 1
      by_cases hp0 : pn = 0
      · subst hp0
        have hpe : p.2 = [] := List.length_eq_zero_iff.1 hpln
        have HKP := hide (show (mgPart (mgT f) p d1).1 = lenL p.1 ++ p.1.data.toList ∧ (mgPart (mgT f) p d1).2 = d1 from ⟨by unfold mgPart; rw [if_pos hpln]; simp, by unfold mgPart; rw [hpe]; rfl⟩)
        go_wp2_with (fail)
        go_roundw
        case rel => exact ⟨j + 1, S ++ (lz ++ p.1), by omega, by go_num, rfl, by rw [app_toL, app_toL, HS.out, HLZ.out, HFT.out, HD1.out, HKP.out.1]; simp, by rw [HFT.out, HD1.out, HKP.out.2]; exact HR3.out⟩
        case measure => simp [intOf]; omega
      · have hpp : 0 < pn := by omega
        have hpp2 : (0 : Int) < (pn : Int) := by omega
        obtain ⟨X, hX⟩ : ∃ X : ByteArray, ⟨(mgFold (mgT f) p.2 d1).1.toArray⟩ = X := ⟨_, rfl⟩
        have HX := hide (show X.data.toList = (mgFold (mgT f) p.2 d1).1 by rw [← hX])
        have hXl : X.size ≤ 700000 := by
          have h1 : X.size = (mgFold (mgT f) p.2 d1).1.length := by rw [← hX]; rfl
          omega
        have HKP := hide (show (mgPart (mgT f) p d1).1 = lenL p.1 ++ p.1.data.toList ++ (73 :: ((mgFold (mgT f) p.2 d1).1 ++ [69])) by unfold mgPart; rw [if_neg (by omega)])
        have HC := hide (HT k PA pn pc p.2 B r d1 w2 hpnc hpcm (by omega) (tys_below HPL.out HBB.out) HPG.out hf12 HDO.out hb1 hct HR3.out.st (Nat.le_trans hBw HR3.out.be.size))
        rw [hX] at HC
        have hq2 : (S ++ (lz ++ p.1)).size = S.size + (lz.size + p.1.size) := by rw [ByteArray.size_append, hq1]
        have hq3 : ((⟨#[73]⟩ : ByteArray) ++ X).size = 1 + X.size := by rw [ByteArray.size_append, s73]
        have hq4 : ((⟨#[73]⟩ : ByteArray) ++ X ++ (⟨#[69]⟩ : ByteArray)).size = 1 + X.size + 1 := by rw [ByteArray.size_append, hq3, s69]
        have nb3 : ¬ 9223372036854775807 < 1 + X.size := by omega
        have nb4 : ¬ 9223372036854775807 < 1 + X.size + 1 := by omega
        have nb5 : ¬ 9223372036854775807 < S.size + (lz.size + p.1.size) + (1 + X.size + 1) := by omega
        clear hX
        go_wp2_with (go_at_call 16; refine HC.out.mono ?_; rintro e w4 ⟨rfl, hr4⟩; have HR5 := hide (HR3.out.trans hr4); clear hr4)
        go_roundw
        case rel => exact ⟨j + 1, S ++ (lz ++ p.1) ++ ((⟨#[73]⟩ : ByteArray) ++ X ++ (⟨#[69]⟩ : ByteArray)), by omega, by go_num, rfl, by rw [app_toL, app_toL, app_toL, app_toL, app_toL, HS.out, HLZ.out, HX.out, HFT.out, HD1.out, HKP.out]; simp, by rw [HFT.out, HD1.out]; exact HR5.out⟩
        case measure => simp [intOf]; omega
    · obtain rfl : j = n := by omega
      have htk : l.take j = l := take_len _ (by rw [HLN.out]; exact Nat.le_refl _)
      rw [htk] at hR HS
      have HR := hide hR
      have nb1 : ¬ 9223372036854775807 < S.size + 1 := by omega
      clear hR htk
      go_wp2_with (fail)
      go_ret
      have HE := str_eq (show (S ++ (⟨#[69]⟩ : ByteArray)).data.toList = (mgName (mgT f) l d).1 by rw [app_toL, HS.out]; unfold mgName; simp)
      exact ⟨by rw [← HE]; rfl, HR.out⟩
set_option maxRecDepth 100000 in
set_option maxHeartbeats 8000000 in
/-- A type that was written out. -/
theorem rOne_found {f : Nat} (k : Nat) (t : Ty) (cs : List Value) (B r : Nat) (d : List Ty) (w : World) (kx : Nat) (hin : TyIn w B k t cs) (hp : plc d t = some kx) (hst : RgS B r k d w) (hBw : B ≤ w.heap.size) :
    Calls Tryd.prog 24 #[.pointer (some ⟨r, 0, none⟩), .agg cs.toArray] w fun e w' => e = .returned (.string ⟨(mgT (f + 1) t d).1.toArray⟩) ∧ RgR B r k (mgT (f + 1) t d).2 w w' := by
  have HA := hide ((Below.refl w.heap.size w).alloc (Nat.le_refl _) (.cells cs.toArray 64))
  have HX := hide (heap_alloc_new w (.cells cs.toArray 64))
  have HR0 := hide ((RgR.refl hst).below hBw HA.out)
  obtain ⟨A, c, hc0, hty⟩ := HR0.out.st.tys (Nat.le_trans hBw HA.out.size)
  have hdl := hst.len
  have CI := hide (IdxT_any k t cs w.heap.size A d.length c d (w.alloc (.cells cs.toArray 64)) (by unfold maxLen; omega) hty ((hin.below (HA.out.mono hBw)).more (Nat.le_trans hBw HA.out.size)) HX.out)
  have hkl := (List.getElem?_eq_some_iff.1 (plc_some hp).1).1
  rw [show plcI d t = (kx : Int) by unfold plcI; rw [hp]] at CI
  have HMG := hide (show (mgT (f + 1) t d).1 = (⟨#[83]⟩ : ByteArray).data.toList ++ toldL (kx : Int) ++ (⟨#[95]⟩ : ByteArray).data.toList ∧ (mgT (f + 1) t d).2 = d from ⟨by rw [mgT, hp]; simp, by rw [mgT, hp]⟩)
  have HT := hide (fun W => Told_any (kx : Int) W (by omega) (by omega))
  obtain ⟨lz, hlz⟩ : ∃ x : ByteArray, ⟨(toldL (kx : Int)).toArray⟩ = x := ⟨_, rfl⟩
  have HLZ := hide (show lz.data.toList = toldL (kx : Int) by rw [← hlz])
  have hlz3 : lz.size ≤ 4 := by
    have h1 : (toldL (kx : Int)).length ≤ 4 := digs_len 10 (by decide) 4 _ (by omega) (by decide)
    have h2 : lz.size = (toldL (kx : Int)).length := by rw [← HLZ.out, Array.length_toList]; rfl
    omega
  rw [hlz] at HT
  have s83 : (⟨#[83]⟩ : ByteArray).size = 1 := rfl
  have s95 : (⟨#[95]⟩ : ByteArray).size = 1 := rfl
  have nb1 : ¬ 9223372036854775807 < 1 + lz.size := by omega
  have hq1 : ((⟨#[83]⟩ : ByteArray) ++ lz).size = 1 + lz.size := by rw [ByteArray.size_append, s83]
  have nb2 : ¬ 9223372036854775807 < 1 + lz.size + 1 := by omega
  have hk0 : (0 : Int) ≤ (kx : Int) := by omega
  rw [HMG.out.1, HMG.out.2]
  clear hlz hp hty hst HMG
  cases k with
  | zero => exact hin.elim
  | succ k =>
  obtain ⟨A1, n1, c1, A2, n2, c2, rfl, _⟩ := hin
  go_enter Tryd.func24, Tryd.ntmps24
  go_wp2_with (first | (go_at_call 32; refine CI.out.mono ?_; rintro e w1 ⟨rfl, hw1⟩; have HR1 := hide (HR0.out.below hBw hw1); clear hw1) | (go_at_call 23; refine (HT.out _).mono ?_; rintro e w2 ⟨rfl, hw2⟩; have HR2 := hide (HR1.out.below hBw hw2); clear hw2))
  go_ret
  have HE := str_eq (show ((⟨#[83]⟩ : ByteArray) ++ lz ++ (⟨#[95]⟩ : ByteArray)).data.toList = 83 :: (toldL (kx : Int) ++ [95]) by rw [app_toL, app_toL, HLZ.out]; simp)
  exact ⟨congrArg (fun x => Ending.returned (Value.string x)) HE, HR2.out⟩
end Go.Proofs.YtmloohicgdemfaaDoor
