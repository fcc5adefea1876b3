/- A box of posts: Failed. -/
import Derived.Test.YtnkccilgbhogbaaDoorBxG
namespace Go.Proofs.YtnkccilgbhogbaaDoor
open Go.RowKit Go.Maps
open Bk (ptE ptV MapK Got ptE_mk wpList_lookup_some wpList_lookup_none)
set_option linter.unusedVariables false
set_option linter.unusedSimpArgs false
theorem wait_bd {ag tr : Int} (h1 : 1 ≤ ag) (h2 : ag ≤ 604800) (h3 : 0 ≤ tr) (h4 : tr ≤ 20) : 0 ≤ waitN ag tr ∧ waitN ag tr ≤ 700000000000 := by
  refine ⟨waitN_pos h1, ?_⟩
  unfold waitN
  have hn : tr.toNat ≤ 20 := by omega
  have hp : (2 : Nat) ^ tr.toNat ≤ 2 ^ 20 := Nat.pow_le_pow_right (by decide) hn
  have hp2 : ((2 : Int) ^ tr.toNat) ≤ 1048576 := by
    have : (((2 : Nat) ^ tr.toNat : Nat) : Int) ≤ ((2 ^ 20 : Nat) : Int) := Int.ofNat_le.2 hp
    simpa using this
  have hp3 : 0 ≤ ((2 : Int) ^ tr.toNat) := Int.pow_nonneg (by decide)
  calc ag * 2 ^ tr.toNat ≤ 604800 * 2 ^ tr.toNat := Int.mul_le_mul_of_nonneg_right h2 hp3
    _ ≤ 604800 * 1048576 := Int.mul_le_mul_of_nonneg_left hp2 (by decide)
    _ ≤ 700000000000 := by decide
section
variable {B p N : Nat} {P : Pln} {s : Bx} {F : Nat → Prop} {w : World}
set_option maxRecDepth 100000 in
set_option maxHeartbeats 16000000 in
theorem Failed_any (hP : P.ok) (h : BX B P p s N F w) (no t : Int) (hwn : (Lit.int .i64 no).wf = true) (hll : s.lo.length ≤ 1000000) :
    Calls Tryd.prog 16 #[.pointer (some ⟨p, 0, none⟩), .int .i64 no, .int .i64 t] w fun e w' => e = .returned (.tuple #[.bool (faiB P s no t), .int .i64 (faiE s no t)]) ∧ TX B P p (faiS P s no t) N F w w' := by
  have HX0 := hide h
  obtain ⟨hok, mb, mn, D, is, gk, gv, lv, hbp, hmn, hF, hFl⟩ := h
  have hpl := lt_of_block hbp.box
  have HBW : B ≤ w.heap.size := by have := hbp.lp; omega
  have CC := hide (closed_any hok hbp hwn)
  have CM := hide (checkMoment_any hbp t)
  have HS0 : Hid (faiE s no t ≠ 0 → faiS P s no t = s ∧ faiB P s no t = false) := hide fun hh => by
    unfold faiS faiB
    cases atNo s.ps no with
    | none => exact ⟨rfl, rfl⟩
    | some q => simp [hh]
  by_cases hf : finE s.ps no = 0
  · rw [hf] at CC
    by_cases ht : timE s.due t = 0
    · rw [ht] at CM
      obtain ⟨q, hq, ho, hc⟩ := finE_zero hf
      have hin : no ∈ is := (hbp.mem no).2 ⟨q, hq, ho⟩
      obtain ⟨x0, x1, x2, x3, x4, x5, x6, x7, x8, x9⟩ := hbp.cells
      have hqm := List.mem_of_getElem? (atNo_some hq).2.1
      have htr := hok.ps.tr q hqm
      have hPt := hP.t2
      have hPa := hP.a1
      have hPa2 := hP.a2
      have htm := (timE_zero ht).1
      have hcl := hbp.cell no q hin hq
      have hMP := hbp.mp.in_ no hin
      obtain ⟨k, hk⟩ : ∃ k, gk no = k := ⟨_, rfl⟩
      have hpk : p ≠ k := hk ▸ hbp.pne.2.1 no hin
      have hmk : mb ≠ k := hk ▸ hbp.mne.1 no hin
      have hmp : p ≠ mb := hbp.pne.1
      have hlk : lv.ownBlock ≠ some k := hk ▸ hbp.lap no hin
      have hlp : lv.ownBlock ≠ some p := hbp.pne.2.2.2
      have hbk : B ≤ k := hk ▸ hbp.lk no hin
      rw [hk] at hcl hMP
      obtain ⟨tr, htr0⟩ : ∃ tr, q.tr = tr := ⟨_, rfl⟩
      obtain ⟨nx, hnx0⟩ : ∃ nx, q.nx = nx := ⟨_, rfl⟩
      obtain ⟨A, cc, hv⟩ := own_sl (hbp.row no q hq (op_not ho).1)
      obtain ⟨nn, hnn⟩ : ∃ nn, q.nts.length = nn := ⟨_, rfl⟩
      rw [hnn] at hv
      have hfe := fai_ok hq hf ht
      have HFE := hide hfe
      -- the worlds on the way
      have hb1 : (w.setCell ⟨p, 9, none⟩ (.int .i64 t)).heap[p]? = some (.cells (boxA P { s with due := t } mb lv) 57 (0, 0)) := block_set hbp.box (i := 9) (.int .i64 t)
      have hc1 : (w.setCell ⟨p, 9, none⟩ (.int .i64 t)).heap[k]? = some (.cells #[.int .i64 no, .slice A nn cc, .int .i64 tr, .int .i64 nx] 41 (0, 0)) := by
        have := block_set_other hcl ⟨p, 9, none⟩ (.int .i64 t) (show k ≠ p from hpk.symm)
        rw [this]
        unfold pstA
        rw [hv, htr0, hnx0]
      have hb2 : ((w.setCell ⟨p, 9, none⟩ (.int .i64 t)).setCell ⟨k, 2, none⟩ (.int .i64 (tr + 1))).heap[p]? = some (.cells (boxA P { s with due := t } mb lv) 57 (0, 0)) := block_set_other hb1 ⟨k, 2, none⟩ _ (show p ≠ k from hpk)
      have hc2 : ((w.setCell ⟨p, 9, none⟩ (.int .i64 t)).setCell ⟨k, 2, none⟩ (.int .i64 (tr + 1))).heap[k]? = some (.cells #[.int .i64 no, .slice A nn cc, .int .i64 (tr + 1), .int .i64 nx] 41 (0, 0)) := block_set hc1 (i := 2) (.int .i64 (tr + 1))
      have hst2 : ∀ j o, w.heap[j]? = some o → j ≠ p → j ≠ k → ((w.setCell ⟨p, 9, none⟩ (.int .i64 t)).setCell ⟨k, 2, none⟩ (.int .i64 (tr + 1))).heap[j]? = some o := fun j o e h1 h2 => block_set_other (block_set_other e ⟨p, 9, none⟩ _ (show j ≠ p from h1)) ⟨k, 2, none⟩ _ (show j ≠ k from h2)
      have HOW1 := hide (show (w.setCell ⟨p, 9, none⟩ (.int .i64 t)).ownsMap Tryd.prog 3 ptE mb mn D from map_stayC hbp.map fun o eo => block_set_other eo ⟨p, 9, none⟩ _ (show mb ≠ p from hmp.symm))
      have hB2 : Below B w ((w.setCell ⟨p, 9, none⟩ (.int .i64 t)).setCell ⟨k, 2, none⟩ (.int .i64 (tr + 1))) := below_set (below_set (Below.refl _ _) hbp.lp _) hbk _
      have f9 : w.frozen? ⟨p, 9, none⟩ = false := block_free hbp.box 9
      have v4 : (w.setCell ⟨p, 9, none⟩ (.int .i64 t)).cell? ⟨p, 4, none⟩ = some (.map (some mb)) := (block_cell hb1 4).trans rfl
      have u2 : (w.setCell ⟨p, 9, none⟩ (.int .i64 t)).cell? ⟨k, 2, none⟩ = some (.int .i64 tr) := (block_cell hc1 2).trans rfl
      have g2 : (w.setCell ⟨p, 9, none⟩ (.int .i64 t)).frozen? ⟨k, 2, none⟩ = false := block_free hc1 2
      have r2 : ((w.setCell ⟨p, 9, none⟩ (.int .i64 t)).setCell ⟨k, 2, none⟩ (.int .i64 (tr + 1))).cell? ⟨k, 2, none⟩ = some (.int .i64 (tr + 1)) := (block_cell hc2 2).trans rfl
      have r3 : ((w.setCell ⟨p, 9, none⟩ (.int .i64 t)).setCell ⟨k, 2, none⟩ (.int .i64 (tr + 1))).cell? ⟨p, 3, none⟩ = some (.int .i64 P.tr) := (block_cell hb2 3).trans rfl
      have HMP := hide hMP
      obtain ⟨wz, hwz⟩ : ∃ wz, ((w.setCell ⟨p, 9, none⟩ (.int .i64 t)).setCell ⟨k, 2, none⟩ (.int .i64 (tr + 1))) = wz := ⟨_, rfl⟩
      have HWZ := hide hwz
      have HB2 := hide (hwz ▸ hb2)
      have HC2 := hide (hwz ▸ hc2)
      have HST2 := hide (hwz ▸ hst2)
      have HBE2 := hide (hwz ▸ hB2)
      have HLR := hide (show wz.ownsRow B 41 4 lv s.lo.length (s.lo.flatMap (lostC s.ps gv)) from own_stayC hbp.lrow fun j o e eo => HST2.out j o eo (fun e2 => hlp (by rw [e, e2])) (fun e2 => hlk (by rw [e, e2])))
      have HMW := hide (show wz.ownsMap Tryd.prog 3 ptE mb mn D from map_stayC hbp.map fun o eo => HST2.out mb o eo hmp.symm hmk)
      have hzz : wz.heap.size = w.heap.size := by rw [← hwz, World.size_setCell, World.size_setCell]
      rw [htr0] at htr
      have hlm := hbp.lm
      have hlpp := hbp.lp
      have hwt : IntKind.i64.wrap tr = tr := IntWalk.i64_in _ (by omega)
      have h64 : tr ≤ 64 := by omega
      have htr0' : 0 ≤ tr := htr.1
      have hwnb := wait_bd hPa hPa2 htr.1 (show tr ≤ 20 by omega)
      obtain ⟨wn, hwn⟩ : ∃ wn, waitN P.ag tr = wn := ⟨_, rfl⟩
      rw [hwn] at hwnb
      have hws : IntKind.i64.wrap (P.ag * 2 ^ tr.toNat) = wn := by
        have : P.ag * 2 ^ tr.toNat = wn := hwn
        rw [this]
        exact IntWalk.i64_in _ (by omega)
      by_cases hlt : tr + 1 < P.tr
      · have HFB := hide (show faiB P s no t = true by unfold faiB; rw [hq]; simp [hfe, htr0, hlt])
        have HEND := hide (fun w' a b c d => end_retry (w' := w') hok hP hbp hmn hF hFl hq ho hc hf ht (by rw [htr0]; exact hlt) a b c d)
        rw [hk, hv, htr0, hwn] at HEND
        clear hbp hok hF hFl hq ho hc hin hqm hcl hMP hk htr0 hnx0 hwn hv hnn hfe hb1 hc1 hb2 hc2 hst2 hB2 hwz hf ht HX0 x0 x1 x2 x3 x5 x6 x7 x8 HLR HMW
        go_enter Tryd.func16, Tryd.ntmps16
        go_wp2_with (first | (go_at_call 37; refine CC.out.mono ?_; rintro e w1 ⟨rfl, hh⟩; obtain rfl := hh) | (go_at_call 32; refine CM.out.mono ?_; rintro e w1 ⟨rfl, hh⟩; obtain rfl := hh) | (at_lookup; refine wpList_lookup_some _ rfl _ _ 55 rfl 3 63 law_i Tryd.underlying55 (zero_p _) mb mn D rfl HOW1.out (.int .i64 no) _ rfl (key_w hwn) k HMP.out ?_))
        go_quiet (fail)
        rw [HWZ.out]
        have hb3 : Below wz.heap.size wz (wz.drewN nq) := below_drewN (Below.refl _ _) nq
        obtain ⟨w3, hw3⟩ : ∃ w3, wz.drewN nq = w3 := ⟨_, rfl⟩
        rw [hw3] at hb3 ⊢
        have HB3 := hide (block_below HB2.out hb3)
        have HC3 := hide (block_below HC2.out hb3)
        have HST3 := hide (show ∀ j o, w.heap[j]? = some o → j ≠ p → j ≠ k → w3.heap[j]? = some o from fun j o e h1 h2 => block_below (HST2.out j o e h1 h2) hb3)
        have HBE3 := hide (show Below B w w3 from HBE2.out.trans (hb3.mono (by omega)))
        have hz3 := hb3.size
        clear hb3 hw3 f9 v4 u2 g2 r2 r3
        go_wp2_with (fail)
        have HS0 := hide (show ∀ U, Below w3.heap.size w3 U → (fun U => U.cell? ⟨p, 2, none⟩ = some (.int .i64 P.ag) ∧ U.cell? ⟨k, 2, none⟩ = some (.int .i64 (tr + 1))) U from fun U hb => ⟨(block_cell (block_below HB3.out hb) 2).trans rfl, (block_cell (block_below HC3.out hb) 2).trans rfl⟩)
        refine wp_region_chain (fun U => U.cell? ⟨p, 2, none⟩ = some (.int .i64 P.ag) ∧ U.cell? ⟨k, 2, none⟩ = some (.int .i64 (tr + 1))) 17 (by as_aux_lemma => kernel_rfl) (N := 18) (by as_aux_lemma => kernel_rfl) ?_; intro hsh
        have HS := HS0.out w3.drew (below_drewN (Below.refl _ _) 1)
        refine wpAnyC_take0 (i := 0) (k := 17) (v := ?_) (d := some 50) rfl (by rfl) (by as_aux_lemma => kernel_rfl) (by as_aux_lemma => kernel_rfl) (by as_aux_lemma => kernel_rfl) hsh (by decide) (by intro _ _ _ h; exact h) (by assumption) (Or.inl ⟨by rfl, ?hy⟩) ?_; (case hy => (intro W _; go_simp; (try with_reducible rfl))); clear hsh; intro hsh
        refine wpAnyC_take0 (i := 1) (k := 17) (v := ?_) (d := some 51) rfl (by rfl) (by as_aux_lemma => kernel_rfl) (by as_aux_lemma => kernel_rfl) (by as_aux_lemma => kernel_rfl) hsh (by decide) (by intro _ _ _ h; exact h) (by assumption) (Or.inl ⟨by rfl, ?hy⟩) ?_; (case hy => (intro W _; go_simp; (try with_reducible rfl))); clear hsh; intro hsh
        refine wpAnyC_take0 (i := 2) (k := 17) (v := ?_) (d := some 52) rfl (by rfl) (by as_aux_lemma => kernel_rfl) (by as_aux_lemma => kernel_rfl) (by as_aux_lemma => kernel_rfl) hsh (by decide) (by intro _ _ _ h; exact h) (by assumption) (Or.inl ⟨by rfl, ?hy⟩) ?_; (case hy => (intro W _; go_simp; (try with_reducible rfl))); clear hsh; intro hsh
        refine wpAnyC_take0 (i := 3) (k := 17) (v := ?_) (d := some 53) rfl (by rfl) (by as_aux_lemma => kernel_rfl) (by as_aux_lemma => kernel_rfl) (by as_aux_lemma => kernel_rfl) hsh (by decide) (by intro _ _ _ h; exact h) (by assumption) (Or.inl ⟨by rfl, ?hy⟩) ?_; (case hy => (intro W _; go_simp; (try with_reducible rfl))); clear hsh; intro hsh
        refine wpAnyC_take0 (i := 4) (k := 17) (v := ?_) (d := some 54) rfl (by rfl) (by as_aux_lemma => kernel_rfl) (by as_aux_lemma => kernel_rfl) (by as_aux_lemma => kernel_rfl) hsh (by decide) (by intro _ _ _ h; exact h) (by assumption) (Or.inl ⟨by rfl, ?hy⟩) ?_; (case hy => (intro W _; go_simp; (try with_reducible rfl))); clear hsh; intro hsh
        refine wpAnyC_take0 (i := 5) (k := 17) (v := ?_) (d := some 55) rfl (by rfl) (by as_aux_lemma => kernel_rfl) (by as_aux_lemma => kernel_rfl) (by as_aux_lemma => kernel_rfl) hsh (by decide) (by intro _ _ _ h; exact h) (by assumption) (Or.inl ⟨by rfl, ?hy⟩) ?_; (case hy => (intro W _; go_simp; (try with_reducible rfl))); clear hsh; intro hsh
        refine wpAnyC_take (i := 6) (k := 17) (f := 40) (v := ?_) (d := some 56) rfl (by rfl) (by as_aux_lemma => kernel_rfl) (by as_aux_lemma => kernel_rfl) (by as_aux_lemma => kernel_rfl) hsh (by decide) (by as_aux_lemma => kernel_rfl) (by intro _ _ _ h; exact h) (by assumption) (Or.inl ⟨by rfl, ?hy⟩) ?_; (case hy => (rintro W ⟨a1, a2⟩; go_simp; (try with_reducible rfl))); clear hsh; intro hsh
        refine wpAnyC_take0 (i := 7) (k := 17) (v := ?_) (d := some 57) rfl (by rfl) (by as_aux_lemma => kernel_rfl) (by as_aux_lemma => kernel_rfl) (by as_aux_lemma => kernel_rfl) hsh (by decide) (by intro _ _ _ h; exact h) (by assumption) (Or.inl ⟨by rfl, ?hy⟩) ?_; (case hy => (intro W _; go_simp; (try with_reducible rfl))); clear hsh; intro hsh
        refine wpAnyC_take0 (i := 8) (k := 17) (v := ?_) (d := some 58) rfl (by rfl) (by as_aux_lemma => kernel_rfl) (by as_aux_lemma => kernel_rfl) (by as_aux_lemma => kernel_rfl) hsh (by decide) (by intro _ _ _ h; exact h) (by assumption) (Or.inl ⟨by rfl, ?hy⟩) ?_; (case hy => (intro W _; go_simp; (try with_reducible rfl))); clear hsh; intro hsh
        refine wpAnyC_take0 (i := 9) (k := 17) (v := ?_) (d := some 59) rfl (by rfl) (by as_aux_lemma => kernel_rfl) (by as_aux_lemma => kernel_rfl) (by as_aux_lemma => kernel_rfl) hsh (by decide) (by intro _ _ _ h; exact h) (by assumption) (Or.inl ⟨by rfl, ?hy⟩) ?_; (case hy => (intro W _; go_simp; (try with_reducible rfl))); clear hsh; intro hsh
        refine wpAnyC_take (i := 10) (k := 17) (f := 40) (v := ?_) (d := some 60) rfl (by rfl) (by as_aux_lemma => kernel_rfl) (by as_aux_lemma => kernel_rfl) (by as_aux_lemma => kernel_rfl) hsh (by decide) (by as_aux_lemma => kernel_rfl) (by intro _ _ _ h; exact h) (by assumption) (Or.inl ⟨by rfl, ?hy⟩) ?_; (case hy => (rintro W ⟨a1, a2⟩; go_simp; (try with_reducible rfl))); clear hsh; intro hsh
        refine wpAnyC_take0 (i := 11) (k := 17) (v := ?_) (d := some 61) rfl (by rfl) (by as_aux_lemma => kernel_rfl) (by as_aux_lemma => kernel_rfl) (by as_aux_lemma => kernel_rfl) hsh (by decide) (by intro _ _ _ h; exact h) (by assumption) (Or.inl ⟨by rfl, ?hy⟩) ?_; (case hy => (intro W _; go_simp; (try with_reducible rfl))); clear hsh; intro hsh
        refine wpAnyC_take0 (i := 12) (k := 17) (v := ?_) (d := some 62) rfl (by rfl) (by as_aux_lemma => kernel_rfl) (by as_aux_lemma => kernel_rfl) (by as_aux_lemma => kernel_rfl) hsh (by decide) (by intro _ _ _ h; exact h) (by assumption) (Or.inl ⟨by rfl, ?hy⟩) ?_; (case hy => (intro W _; go_simp; (try with_reducible rfl))); clear hsh; intro hsh
        refine wpAnyC_take0 (i := 13) (k := 17) (v := ?_) (d := some 63) rfl (by rfl) (by as_aux_lemma => kernel_rfl) (by as_aux_lemma => kernel_rfl) (by as_aux_lemma => kernel_rfl) hsh (by decide) (by intro _ _ _ h; exact h) (by assumption) (Or.inl ⟨by rfl, ?hy⟩) ?_; (case hy => (intro W _; go_simp; (try with_reducible rfl))); clear hsh; intro hsh
        refine wpAnyC_take0 (i := 14) (k := 17) (v := ?_) (d := some 64) rfl (by rfl) (by as_aux_lemma => kernel_rfl) (by as_aux_lemma => kernel_rfl) (by as_aux_lemma => kernel_rfl) hsh (by decide) (by intro _ _ _ h; exact h) (by assumption) (Or.inl ⟨by rfl, ?hy⟩) ?_; (case hy => (intro W _; go_simp; (try with_reducible rfl))); clear hsh; intro hsh
        refine wpAnyC_take0 (i := 15) (k := 17) (v := ?_) (d := some 65) rfl (by rfl) (by as_aux_lemma => kernel_rfl) (by as_aux_lemma => kernel_rfl) (by as_aux_lemma => kernel_rfl) hsh (by decide) (by intro _ _ _ h; exact h) (by assumption) (Or.inl ⟨by rfl, ?hy⟩) ?_; (case hy => (intro W _; go_simp; (try with_reducible rfl))); clear hsh; intro hsh
        refine wpAnyC_take0 (i := 16) (k := 17) (v := ?_) (d := some 66) rfl (by rfl) (by as_aux_lemma => kernel_rfl) (by as_aux_lemma => kernel_rfl) (by as_aux_lemma => kernel_rfl) hsh (by decide) (by intro _ _ _ h; exact h) (by assumption) (Or.inl ⟨by rfl, ?hy⟩) ?_; (case hy => (intro W _; go_simp; (try with_reducible rfl))); clear hsh; intro hsh
        refine wpAnyC_tail (by as_aux_lemma => kernel_rfl) (by simp) (by as_aux_lemma => kernel_rfl) ?_; simp only [List.drop_succ_cons, List.drop_zero]; clear hsh
        clear HS HS0
        go_simp
        have q3 : w3.drew.cell? ⟨k, 3, none⟩ = some (.int .i64 nx) := (block_cell (show w3.drew.heap[k]? = _ from HC3.out) 3).trans rfl
        have q4 : w3.drew.frozen? ⟨k, 3, none⟩ = false := block_free (show w3.drew.heap[k]? = _ from HC3.out) 3
        go_wp2_with (fail)
        go_ret2
        refine ⟨by rw [HFB.out, HFE.out]; rfl, HEND.out (w3.drew.setCell ⟨k, 3, none⟩ (.int .i64 (min (t + wn) 3155759999))) (block_set_other HB3.out ⟨k, 3, none⟩ _ (show p ≠ k from hpk)) (block_set HC3.out (i := 3) _) (fun j o e h1 h2 => block_set_other (show w3.drew.heap[j]? = _ from HST3.out j o e h1 h2) ⟨k, 3, none⟩ _ (show j ≠ k from h2)) (below_set HBE3.out.drew hbk _)⟩
      · have hlmb := hbp.mne.2.2
        obtain ⟨LA, LC, rfl⟩ := own_sl hbp.lrow
        have HFB := hide (show faiB P s no t = false by unfold faiB; rw [hq]; simp [hfe, htr0, hlt])
        have HEND := hide (fun w' lv' a b c d e f => end_lose (w' := w') (lv' := lv') hok hP hbp hmn hF hFl hq ho hc hf ht (by rw [htr0]; exact hlt) a b c d e f)
        rw [hk, hv, htr0, hnx0] at HEND
        obtain ⟨i0, hi0, iz0, iz1, iz2⟩ := info_parts9 info_pst
        have hlt' : decide (tr + 1 < P.tr) = false := by simpa using hlt
        obtain ⟨M, hM⟩ : ∃ M, s.lo.length = M := ⟨_, rfl⟩
        obtain ⟨xs, hxs⟩ : ∃ xs, s.lo.flatMap (lostC s.ps gv) = xs := ⟨_, rfl⟩
        rw [hM] at HEND HLR hll HB2 hlk hlp hlmb
        rw [hxs] at HEND HLR
        have hx6 := x6
        rw [hM] at hx6
        clear hbp hok hF hFl hq ho hc hin hqm hcl hMP hk htr0 hnx0 hwn hv hnn hfe hb1 hc1 hb2 hc2 hst2 hB2 hwz hf ht HX0 x0 x1 x2 x3 x5 x6 x7 x8 hM hxs
        go_enter Tryd.func16, Tryd.ntmps16
        go_wp2_with (first | (go_at_call 37; refine CC.out.mono ?_; rintro e w1 ⟨rfl, hh⟩; obtain rfl := hh) | (go_at_call 32; refine CM.out.mono ?_; rintro e w1 ⟨rfl, hh⟩; obtain rfl := hh) | (at_lookup; refine wpList_lookup_some _ rfl _ _ 55 rfl 3 63 law_i Tryd.underlying55 (zero_p _) mb mn D rfl HOW1.out (.int .i64 no) _ rfl (key_w hwn) k HMP.out ?_))
        go_quiet (fail)
        rw [HWZ.out]
        have hb3 : Below wz.heap.size wz (wz.drewN nq) := below_drewN (Below.refl _ _) nq
        obtain ⟨w3, hw3⟩ : ∃ w3, wz.drewN nq = w3 := ⟨_, rfl⟩
        rw [hw3] at hb3 ⊢
        have HB3 := hide (block_below HB2.out hb3)
        have HC3 := hide (block_below HC2.out hb3)
        have HST3 := hide (show ∀ j o, w.heap[j]? = some o → j ≠ p → j ≠ k → w3.heap[j]? = some o from fun j o e h1 h2 => block_below (HST2.out j o e h1 h2) hb3)
        have HBE3 := hide (show Below B w w3 from HBE2.out.trans (hb3.mono (by omega)))
        have hz3 := hb3.size
        have HLR3 := hide (own_below HLR.out hb3)
        have HMW3 := hide (map_stayC HMW.out fun o eo => block_below eo hb3)
        clear hb3 hw3 f9 v4 u2 g2 r2 r3
        go_wp2_with (fail)
        have HS0 := hide (show ∀ U, Below w3.heap.size w3 U → (fun U => U.cell? ⟨p, 6, none⟩ = some (.slice LA M LC) ∧ U.cell? ⟨k, 0, none⟩ = some (.int .i64 no) ∧ U.cell? ⟨k, 1, none⟩ = some (.slice A nn cc) ∧ U.cell? ⟨k, 2, none⟩ = some (.int .i64 (tr + 1)) ∧ U.cell? ⟨k, 3, none⟩ = some (.int .i64 nx)) U from fun U hb => ⟨(block_cell (block_below HB3.out hb) 6).trans rfl, (block_cell (block_below HC3.out hb) 0).trans rfl, (block_cell (block_below HC3.out hb) 1).trans rfl, (block_cell (block_below HC3.out hb) 2).trans rfl, (block_cell (block_below HC3.out hb) 3).trans rfl⟩)
        refine wp_region_chain (fun U => U.cell? ⟨p, 6, none⟩ = some (.slice LA M LC) ∧ U.cell? ⟨k, 0, none⟩ = some (.int .i64 no) ∧ U.cell? ⟨k, 1, none⟩ = some (.slice A nn cc) ∧ U.cell? ⟨k, 2, none⟩ = some (.int .i64 (tr + 1)) ∧ U.cell? ⟨k, 3, none⟩ = some (.int .i64 nx)) 9 (by as_aux_lemma => kernel_rfl) (N := 13) (by as_aux_lemma => kernel_rfl) ?_; intro hsh
        have HS := HS0.out w3.drew (below_drewN (Below.refl _ _) 1)
        have HSA := HS0.out (w3.drew.alloc (.cells #[.int .i64 no, .slice A nn cc, .int .i64 (tr + 1), .int .i64 nx] 41)) ((below_drewN (Below.refl _ _) 1).alloc (Nat.le_refl _) _)
        refine wpAnyC_take0 (i := 0) (k := 9) (v := ?_) (d := some 67) rfl (by rfl) (by as_aux_lemma => kernel_rfl) (by as_aux_lemma => kernel_rfl) (by as_aux_lemma => kernel_rfl) hsh (by decide) (by intro _ _ _ h; exact h) (by assumption) (Or.inl ⟨by rfl, ?hy⟩) ?_; (case hy => (intro W _; go_simp; (try with_reducible rfl))); clear hsh; intro hsh
        refine wpAnyC_take0 (i := 1) (k := 9) (v := ?_) (d := some 68) rfl (by rfl) (by as_aux_lemma => kernel_rfl) (by as_aux_lemma => kernel_rfl) (by as_aux_lemma => kernel_rfl) hsh (by decide) (by intro _ _ _ h; exact h) (by assumption) (Or.inl ⟨by rfl, ?hy⟩) ?_; (case hy => (intro W _; go_simp; (try with_reducible rfl))); clear hsh; intro hsh
        refine wpAnyC_take0 (i := 2) (k := 9) (v := ?_) (d := some 69) rfl (by rfl) (by as_aux_lemma => kernel_rfl) (by as_aux_lemma => kernel_rfl) (by as_aux_lemma => kernel_rfl) hsh (by decide) (by intro _ _ _ h; exact h) (by assumption) (Or.inl ⟨by rfl, ?hy⟩) ?_; (case hy => (intro W _; go_simp; (try with_reducible rfl))); clear hsh; intro hsh
        refine wpAnyC_take0 (i := 3) (k := 9) (v := ?_) (d := some 70) rfl (by rfl) (by as_aux_lemma => kernel_rfl) (by as_aux_lemma => kernel_rfl) (by as_aux_lemma => kernel_rfl) hsh (by decide) (by intro _ _ _ h; exact h) (by assumption) (Or.inl ⟨by rfl, ?hy⟩) ?_; (case hy => (intro W _; go_simp; (try with_reducible rfl))); clear hsh; intro hsh
        refine wpAnyC_take (i := 4) (k := 9) (f := 40) (v := ?_) (d := some 71) rfl (by rfl) (by as_aux_lemma => kernel_rfl) (by as_aux_lemma => kernel_rfl) (by as_aux_lemma => kernel_rfl) hsh (by decide) (by as_aux_lemma => kernel_rfl) (by intro _ _ _ h; exact h) (by assumption) (Or.inl ⟨by rfl, ?hy⟩) ?_; (case hy => (rintro W ⟨a1, a2, a3, a4, a5⟩; go_simp; (try with_reducible rfl))); clear hsh; intro hsh
        refine wpAnyC_take0 (i := 5) (k := 9) (v := ?_) (d := some 72) rfl (by rfl) (by as_aux_lemma => kernel_rfl) (by as_aux_lemma => kernel_rfl) (by as_aux_lemma => kernel_rfl) hsh (by decide) (by intro _ _ _ h; exact h) (by assumption) (Or.inl ⟨by rfl, ?hy⟩) ?_; (case hy => (intro W _; go_simp; (try with_reducible rfl))); clear hsh; intro hsh
        refine wpAnyC_take0 (i := 6) (k := 9) (v := ?_) (d := some 73) rfl (by rfl) (by as_aux_lemma => kernel_rfl) (by as_aux_lemma => kernel_rfl) (by as_aux_lemma => kernel_rfl) hsh (by decide) (by intro _ _ _ h; exact h) (by assumption) (Or.inl ⟨by rfl, ?hy⟩) ?_; (case hy => (intro W _; go_simp; (try with_reducible rfl))); clear hsh; intro hsh
        refine wpAnyC_take (i := 7) (k := 9) (f := 40) (v := ?_) (d := some 74) rfl (by rfl) (by as_aux_lemma => kernel_rfl) (by as_aux_lemma => kernel_rfl) (by as_aux_lemma => kernel_rfl) hsh (by decide) (by as_aux_lemma => kernel_rfl) (by intro _ _ _ h; exact h) (by assumption) (Or.inl ⟨by rfl, ?hy⟩) ?_; (case hy => (rintro W ⟨a1, a2, a3, a4, a5⟩; go_simp; (try with_reducible rfl))); clear hsh; intro hsh
        refine wpAnyC_ready (rs := [8]) (by as_aux_lemma => kernel_rfl) (by simp) ?_; refine AllC.cons (i := 8) rfl (by as_aux_lemma => kernel_rfl) hsh (fun K hK => ?_) AllC.nil
        go_simp
        refine hK _ _ (fun _ => HSA) ?_
        clear hK K hsh
        intro hsh
        refine wpAnyC_tail (by as_aux_lemma => kernel_rfl) (by simp) (by as_aux_lemma => kernel_rfl) ?_; simp only [List.drop_succ_cons, List.drop_zero]; clear hsh
        clear HS HS0 HSA
        go_simp
        have HOWA := hide (show (w3.drew.alloc (.cells #[.int .i64 no, .slice A nn cc, .int .i64 (tr + 1), .int .i64 nx] 41)).ownsRow _ _ _ _ _ _ from (own_below HLR3.out (below_drewN (Below.refl _ _) 1)).alloc _)
        have hz3d : w3.drew.heap.size = w3.heap.size := rfl
        go_wp2_with (first | (at_builtin; refine wpList_append_own_at _ rfl (.tmp 71) (.tmp 75) 36 rfl B 41 i0 (.agg #[.int .i64 0, .slice none 0 0, .int .i64 0, .int .i64 0]) 4 48 Tryd.underlying36 hi0 iz0 iz1 iz2 rfl (by decide) (.slice LA M LC) M xs (by first | rfl | go_simp) HOWA.out ⟨w3.heap.size, 0, none⟩ 1 1 [.int .i64 no, .slice A nn cc, .int .i64 (tr + 1), .int .i64 nx] (by first | rfl | go_simp) rfl (cells_at w3.drew [.int .i64 no, .slice A nn cc, .int .i64 (tr + 1), .int .i64 nx] _ _ rfl) (by intro u hu; simp at hu; rcases hu with rfl | rfl | rfl | rfl <;> rfl) (by unfold maxLen; omega) (by omega) (by simp; omega) ?_; intro v8 w8 hown8 hg8 _ hat8; obtain ⟨A8, c8, rfl⟩ := own_sl hown8; have HAL := hide (show ∀ j o, w3.heap[j]? = some o → (Value.slice LA M LC).ownBlock ≠ some j → w8.heap[j]? = some o from fun j o e ne => (hg8.block j (by have := lt_of_block e; simp; omega) (fun e2 => ne e2.symm)).trans (block_below e ((below_drewN (Below.refl _ _) 1).alloc (Nat.le_refl _) _))); have HOWN8 := hide hown8; have HAT8 := hide hat8; have HB8 := hide (show Below B w w8 from (HBE3.out.drew.alloc (by omega) _).grown hg8 (by simp; omega) (fun j hj => (HOWA.out.lt j hj).1)); have hb8 := HAL.out p _ HB3.out hlp; have HBX8 := hide hb8; have z6 : w8.cell? ⟨p, 6, none⟩ = some (.slice LA M LC) := (block_cell hb8 6).trans rfl; have z7 : w8.frozen? ⟨p, 6, none⟩ = false := block_free hb8 6; have hb9 : (w8.setCell ⟨p, 6, none⟩ (.slice A8 (M + 1) c8)).heap[p]? = some (.cells (boxA P { s with due := t } mb (.slice A8 (M + 1) c8)) 57 (0, 0)) := block_set hb8 (i := 6) (.slice A8 (M + 1) c8); have HB9 := hide hb9; have z8 : (w8.setCell ⟨p, 6, none⟩ (.slice A8 (M + 1) c8)).cell? ⟨p, 4, none⟩ = some (.map (some mb)) := (block_cell hb9 4).trans rfl; have HMQ := hide (show (w8.setCell ⟨p, 6, none⟩ (.slice A8 (M + 1) c8)).ownsMap Tryd.prog 3 ptE mb mn D from map_stayC HMW3.out fun o eo => block_set_other (HAL.out mb o eo hlmb) ⟨p, 6, none⟩ _ (show mb ≠ p from hmp.symm)); clear hown8 hg8 hat8 hb8 hb9) | (at_delete; refine wpList_delete_own _ rfl _ _ 55 3 rfl 63 law_i Tryd.underlying55 _ mb mn D rfl HMQ.out (.int .i64 no) _ rfl (key_w hwn) ?_; intro w10 hown10 hturn10))
        go_ret2
        have hg := hturn10.grown
        have hk10 : ∀ j o, (w8.setCell ⟨p, 6, none⟩ (.slice A8 (M + 1) c8)).heap[j]? = some o → j ≠ mb → w10.heap[j]? = some o := fun j o e ne => (hg.block j (lt_of_block e) (fun e2 => ne (by cases e2; rfl))).trans e
        have hk9 : ∀ j o, w3.heap[j]? = some o → j ≠ p → (Value.slice LA M LC).ownBlock ≠ some j → (w8.setCell ⟨p, 6, none⟩ (.slice A8 (M + 1) c8)).heap[j]? = some o := fun j o e h1 h2 => block_set_other (HAL.out j o e h2) ⟨p, 6, none⟩ _ (show j ≠ p from h1)
        have hwz3 : w.heap.size ≤ w3.heap.size := HBE3.out.size
        have hrow : (Value.slice A8 (M + 1) c8).ownBlock ≠ some p ∧ (Value.slice A8 (M + 1) c8).ownBlock ≠ some mb := by
          have hml := HMW3.out.lt
          rcases HAT8.out with h9 | h9
          · rw [h9]; exact ⟨hlp, hlmb⟩
          · rw [h9]
            refine ⟨fun e => ?_, fun e => ?_⟩
            · have := Option.some.inj e; simp at this; omega
            · have := Option.some.inj e; simp at this; omega
        refine ⟨by rw [HFB.out, HFE.out]; rfl, HEND.out w10 (.slice A8 (M + 1) c8) (hk10 p _ HB9.out hmp) hown10 (own_stayC HOWN8.out fun j o e eo => hk10 j o (block_set_other eo ⟨p, 6, none⟩ _ (fun (e2 : j = p) => hrow.1 (by rw [e, e2]))) (fun e2 => hrow.2 (by rw [e, e2]))) ?_ (fun j o e h1 h2 h3 h4 => hk10 j o (hk9 j o (HST3.out j o e h1 h3) h1 h4) h2) ?_⟩
        · rcases HAT8.out with h9 | h9
          · exact .inl h9
          · exact .inr ⟨_, by simp; omega, h9⟩
        · exact (below_set HB8.out hlpp _).grown hg (by have := HB8.out.size; have := World.size_setCell w8 ⟨p, 6, none⟩ (.slice A8 (M + 1) c8); omega) (fun j hj => by cases hj; exact hlm)
    · have HFE := hide (show faiE s no t = timE s.due t by unfold faiE; rw [if_neg (by simp [hf])])
      obtain ⟨x, hx⟩ : ∃ x, timE s.due t = x := ⟨_, rfl⟩
      rw [hx] at CM ht HFE
      have ht' : (x == 0) = false := by simpa using ht
      obtain ⟨e1, e2⟩ := HS0.out (by rw [HFE.out]; exact ht)
      have HX := hide (show TX B P p (faiS P s no t) N F w w from by rw [e1]; exact HX0.out.stay (Below.refl _ _) HBW)
      have HE2 := hide e2
      clear hx hbp hok hF hFl e1 e2 hf
      go_enter Tryd.func16, Tryd.ntmps16
      go_wp2_with (first | (go_at_call 37; refine CC.out.mono ?_; rintro e w1 ⟨rfl, hh⟩; obtain rfl := hh) | (go_at_call 32; refine CM.out.mono ?_; rintro e w1 ⟨rfl, hh⟩; obtain rfl := hh))
      go_ret2
      exact ⟨by rw [HE2.out, HFE.out]; rfl, HX.out⟩
  · have HFE := hide (show faiE s no t = finE s.ps no by unfold faiE; rw [if_pos hf])
    obtain ⟨x, hx⟩ : ∃ x, finE s.ps no = x := ⟨_, rfl⟩
    rw [hx] at CC hf HFE
    have hf' : (x == 0) = false := by simpa using hf
    obtain ⟨e1, e2⟩ := HS0.out (by rw [HFE.out]; exact hf)
    have HX := hide (show TX B P p (faiS P s no t) N F w w from by rw [e1]; exact HX0.out.stay (Below.refl _ _) HBW)
    have HE2 := hide e2
    clear hx hbp hok hF hFl e1 e2
    go_enter Tryd.func16, Tryd.ntmps16
    go_wp2_with (first | (go_at_call 37; refine CC.out.mono ?_; rintro e w1 ⟨rfl, hh⟩; obtain rfl := hh))
    go_ret2
    exact ⟨by rw [HE2.out, HFE.out]; rfl, HX.out⟩
end
end Go.Proofs.YtnkccilgbhogbaaDoor
