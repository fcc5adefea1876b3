/- A box of posts: Put (printed by gen_bxk.py). -/
import Derived.Test.YtnkccilgbhogbaaDoorBxJ
namespace Go.Proofs.YtnkccilgbhogbaaDoor
open Go.RowKit Go.Maps
open Bk (ptE ptV MapK Got ptE_mk wpList_lookup_some wpList_lookup_none)
set_option linter.unusedVariables false
set_option linter.unusedSimpArgs false
theorem sl_stayN {α : Type} {U : Nat → Prop} {W W' : World} {B sz n : Nat} {f : α → List Value} {A : Option Addr} {l : List α} (h : Sl W B f sz A n l) (hs : ∀ k o, W.heap[k]? = some o → U k → W'.heap[k]? = some o) (hu : 0 < n → ∀ b o, A = some ⟨b, o, none⟩ → U b) : Sl W' B f sz A n l := by
  refine ⟨h.len, fun h0 => ?_⟩
  obtain ⟨b, o, e, hlt, hc⟩ := h.cells h0
  refine ⟨b, o, e, hlt, fun i a ha j v hv => ?_⟩
  have h1 := hc i a ha j v hv
  have h2 := hu h0 b o e
  unfold World.cell? at h1 ⊢
  cases hb : W.heap[b]? with
  | none => simp [hb] at h1
  | some ob => rw [hs b ob hb h2]; rw [hb] at h1; exact h1
theorem fresh_small {mo n r : Nat} (h1 : 1 ≤ mo) (h2 : mo ≤ 100) (hr : r ≤ mo) (h : freshN mo n r ≤ 500) : n ≤ 100000 := by
  unfold freshN at h
  have h3 : (n - r + mo - 1) < (500 + 1) * mo := (Nat.div_lt_iff_lt_mul (by omega)).1 (by omega)
  have h4 : 501 * mo ≤ 501 * 100 := Nat.mul_le_mul_left _ h2
  omega
theorem room_le (mo : Nat) (ps : List Pst) : roomN mo ps ≤ mo := by
  unfold roomN
  cases gat ps with
  | none => exact Nat.zero_le _
  | some q => exact Nat.sub_le _ _
section
variable {B p N : Nat} {P : Pln} {s : Bx} {F : Nat → Prop} {w : World}
set_option maxRecDepth 100000 in
set_option maxHeartbeats 32000000 in
theorem Put_any (hP : P.ok) (h : BX B P p s N F w) {A : Option Addr} {n c : Nat} {l : List Nt} (hs : Sl w w.heap.size Nt.cs 4 A n l) (hsep : 0 < n → ∀ b o, A = some ⟨b, o, none⟩ → ¬ F b) (hn : n ≤ 4000000000000) (hfit : ∀ x ∈ l, x.rule.size ≤ maxLen) (hnl : s.ps.length ≤ 1000000) (hN : N ≤ 1000000000) :
    Calls Tryd.prog 8 #[.pointer (some ⟨p, 0, none⟩), .slice A n c] w fun e w' => e = .returned (.int .i64 (putE P.mo s l)) ∧ TX B P p (putS P.mo s l) (N + n) F w w' := by
  have HX0 := hide h
  obtain ⟨hok, mb, mn, D, is, gk, gv, lv, hbp, hmn, hF, hFl⟩ := h
  have hpl := lt_of_block hbp.box
  have HBW : B ≤ w.heap.size := by have := hbp.lp; omega
  have CK := hide (checkNotices_any hP hok hbp (c := c) hs hn hfit (by omega))
  have hm1 := hP.m1
  have hm2 := hP.m2
  by_cases he : putE P.mo s l = 0
  · have hz0 : ntsE s.put l = 0 := by
      unfold putE at he
      split at he
      · exact absurd he (by assumption)
      · rename_i h1; simpa using h1
    have hat := fun x hx => (ntsE_zero l hz0 x hx).1
    have hop : opens (addL P.mo s.ps l) ≤ 500 := by
      unfold putE at he
      rw [if_neg (by simp [hz0])] at he
      split at he
      · cases he
      · omega
    have hn2 : n ≤ 100000 := by
      rw [opens_addL hP l hok.ps hat, hs.len] at hop
      exact fresh_small (r := roomN P.mo s.ps) hm1 hm2 (room_le _ _) (by omega)
    have HPH := hide (show PutH B P s l F w from ⟨hP, hok.ps, hok.lo, hat, HBW⟩)
    have HSL := hide hs
    have HSEP := hide hsep
    have HFT := hide hfit
    have HFL := hide hFl
    have HST : Hid (putS P.mo s l = stA P s l n) := hide (by unfold putS stA; rw [if_neg (by simp [he]), ← hs.len, List.take_length])
    have HOKE := hide (hok.put hP l)
    have HR0 := hide (fun (w1 : World) (hb : Below w.heap.size w w1) => show PutR B P p mb s N F w l 0 w1 from ⟨mn, D, is, gk, gv, lv, hbp.below hb, by omega, Keep.of_below hb HBW, fun k hk => .inl (hF k hk)⟩)
    obtain ⟨i0, hi0, iz0, iz1, iz2⟩ := info_parts9 info_nt
    have hpB := hbp.lp
    have hmB := hbp.lm
    rw [he] at CK ⊢
    clear he hz0 hat hop hok hbp hF hFl hs hsep hfit
    go_enter Tryd.func8, Tryd.ntmps8
    go_wp2_with (first | (go_at_call 26; refine CK.out.mono ?_; rintro e w1 ⟨rfl, hb1⟩; have HR1 := hide (HR0.out w1 hb1); clear hb1))
    go_loopw [17] (fun v17 wr => ∃ j : Nat, j ≤ n ∧ v17 = .int .i64 (j : Int) ∧ PutR B P p mb s N F w l j wr) (fun v17 _ => n - (intOf v17).toNat)
    case atStart => exact ⟨0, Nat.zero_le _, rfl, HR1.out⟩
    case round =>
      obtain ⟨j, hj, rfl, mn, D, is, gk, gv, lv, hbp, hmnj, hkp, hFj⟩ := hrel
      by_cases hlt : j < n
      · have hlt' : (j : Int) < (n : Int) := by omega
        have hkz := hkp.be.size
        have hslr : Sl wr w.heap.size Nt.cs 4 A n l := sl_stayN HSL.out (fun k o e u => hkp.keep k o e u) (fun h0 b o e => HSEP.out h0 b o e)
        obtain ⟨bb, oo, x, rfl, hbb, hx, hc⟩ := hslr.at_ hlt
        have d0 : wr.cell? ⟨bb, oo + j * 4, none⟩ = some (.int .i64 x.at_) := by have := hc 0 _ rfl; simpa using this
        have d1 : wr.cell? ⟨bb, oo + j * 4 + 1, none⟩ = some (.string x.rule) := hc 1 _ rfl
        have d2 : wr.cell? ⟨bb, oo + j * 4 + 2, none⟩ = some (.int .i64 x.kind) := hc 2 _ rfl
        have d3 : wr.cell? ⟨bb, oo + j * 4 + 3, none⟩ = some (.int .i64 x.value) := hc 3 _ rfl
        have HXJ := hide hx
        obtain ⟨xa, xr, xk, xv⟩ := x
        simp only at d0 d1 d2 d3
        obtain ⟨nb, hnb⟩ : ∃ nb, wr.heap.size = nb := ⟨_, rfl⟩
        obtain ⟨wa, hwa⟩ : ∃ wa, wr.alloc (.cells #[.int .i64 xa, .string xr, .int .i64 xk, .int .i64 xv] 51) = wa := ⟨_, rfl⟩
        have hba : Below wr.heap.size wr wa := hwa ▸ (Below.refl _ _).alloc (Nat.le_refl _) _
        have hma : wa.heap[nb]? = some (.cells #[.int .i64 xa, .string xr, .int .i64 xk, .int .i64 xv] 51 (0, 0)) := hwa ▸ hnb ▸ heap_alloc_new wr _
        have hza : wa.heap.size = nb + 1 := by rw [← hwa, ← hnb]; simp
        have hbpa := hbp.below hba
        have hps := HPH.out.psj j
        have hBp := hbp.lp
        have hnbl : ∀ k, FB p mb (stA P s l j) is gk gv lv k → k < nb := fun k hk => hnb ▸ hbp.lt hk
        obtain ⟨pn1, pn2, pn3, pn4⟩ := hbp.pne
        obtain ⟨mn1, mn2, mn3⟩ := hbp.mne
        have hnp : nb ≠ p := fun e => by have := hnbl p (.inl rfl); omega
        have hnm : nb ≠ mb := fun e => by have := hnbl mb (.inr (.inl rfl)); omega
        obtain ⟨L, hL⟩ : ∃ L, (stA P s l j).ps.length = L := ⟨_, rfl⟩
        have hLB : L ≤ 2000000 := by
          have := (addL_len (mo := P.mo) (l.take j) s.ps).2
          have h2 : (l.take j).length ≤ n := by rw [List.length_take]; omega
          have h3 : (stA P s l j).ps = addL P.mo s.ps (l.take j) := rfl
          rw [← hL, h3]
          omega
        obtain ⟨pv, hpv⟩ : ∃ pv, (stA P s l j).put = pv := ⟨_, rfl⟩
        have HWA := hide hwa
        have HNB := hide hnb
        have hbx : wa.heap[p]? = some (.cells (boxA P (stA P s l j) mb lv) 57 (0, 0)) := hbpa.box
        cases hgt : gat (stA P s l j).ps with
        | none =>
          have hgi : gatI (stA P s l j).ps = 0 := by unfold gatI; rw [hgt]
          obtain ⟨LV, hLV⟩ : ∃ LV, (L : Int) + 1 = LV := ⟨_, rfl⟩
          have hb0 : wa.heap[p]? = some (.cells #[.int .i64 (P.mo : Int), .int .i64 P.wa, .int .i64 P.ag, .int .i64 P.tr, .map (some mb), .int .i64 0, lv, .int .i64 (L : Int), .int .i64 pv, .int .i64 s.due] 57 (0, 0)) := by
            rw [hbx]; unfold boxA; rw [hgi, hL, hpv]; rfl
          have hb1 : (wa.setCell ⟨p, 7, none⟩ (.int .i64 LV)).heap[p]? = some (.cells #[.int .i64 (P.mo : Int), .int .i64 P.wa, .int .i64 P.ag, .int .i64 P.tr, .map (some mb), .int .i64 0, lv, .int .i64 LV, .int .i64 pv, .int .i64 s.due] 57 (0, 0)) := block_set hb0 (i := 7) _
          have hb2 : ((wa.setCell ⟨p, 7, none⟩ (.int .i64 LV)).setCell ⟨p, 5, none⟩ (.int .i64 LV)).heap[p]? = some (.cells #[.int .i64 (P.mo : Int), .int .i64 P.wa, .int .i64 P.ag, .int .i64 P.tr, .map (some mb), .int .i64 LV, lv, .int .i64 LV, .int .i64 pv, .int .i64 s.due] 57 (0, 0)) := block_set hb1 (i := 5) _
          obtain ⟨w2, hw2⟩ : ∃ w2, ((wa.setCell ⟨p, 7, none⟩ (.int .i64 LV)).setCell ⟨p, 5, none⟩ (.int .i64 LV)) = w2 := ⟨_, rfl⟩
          have hz2 : w2.heap.size = wa.heap.size := by rw [← hw2, World.size_setCell, World.size_setCell]
          have hs2 : ∀ i o, wa.heap[i]? = some o → i ≠ p → w2.heap[i]? = some o := fun i o e np => hw2 ▸ block_set_other (block_set_other e ⟨p, 7, none⟩ _ (show i ≠ p from np)) ⟨p, 5, none⟩ _ (show i ≠ p from np)
          have HB2 := hide (show Below B wa w2 from hw2 ▸ below_set (below_set (Below.refl _ _) hBp _) hBp _)
          have HBX2 := hide (hw2 ▸ hb2)
          have HN2 := hide (hs2 nb _ hma hnp)
          have HS2 := hide hs2
          have HMW2 := hide (show w2.ownsMap Tryd.prog 3 ptE mb mn D from map_stayC hbpa.map fun o eo => hs2 mb o eo pn1.symm)
          have x5 : (wr.alloc (.cells #[.int .i64 xa, .string xr, .int .i64 xk, .int .i64 xv] 51)).cell? ⟨p, 5, none⟩ = some (.int .i64 0) := by rw [hwa]; exact (block_cell hb0 5).trans rfl
          have x7 : (wr.alloc (.cells #[.int .i64 xa, .string xr, .int .i64 xk, .int .i64 xv] 51)).cell? ⟨p, 7, none⟩ = some (.int .i64 (L : Int)) := by rw [hwa]; exact (block_cell hb0 7).trans rfl
          have f7 : (wr.alloc (.cells #[.int .i64 xa, .string xr, .int .i64 xk, .int .i64 xv] 51)).frozen? ⟨p, 7, none⟩ = false := by rw [hwa]; exact block_free hb0 7
          have u7 : ((wr.alloc (.cells #[.int .i64 xa, .string xr, .int .i64 xk, .int .i64 xv] 51)).setCell ⟨p, 7, none⟩ (.int .i64 LV)).cell? ⟨p, 7, none⟩ = some (.int .i64 LV) := by rw [hwa]; exact (block_cell hb1 7).trans rfl
          have u5 : ((wr.alloc (.cells #[.int .i64 xa, .string xr, .int .i64 xk, .int .i64 xv] 51)).setCell ⟨p, 7, none⟩ (.int .i64 LV)).cell? ⟨p, 5, none⟩ = some (.int .i64 0) := by rw [hwa]; exact (block_cell hb1 5).trans rfl
          have f5 : ((wr.alloc (.cells #[.int .i64 xa, .string xr, .int .i64 xk, .int .i64 xv] 51)).setCell ⟨p, 7, none⟩ (.int .i64 LV)).frozen? ⟨p, 5, none⟩ = false := by rw [hwa]; exact block_free hb1 5
          have hni : LV ∉ is := fun hi => by
            obtain ⟨qq, hqq, _⟩ := (hbp.mem _).1 hi
            have := (atNo_some hqq).2.2
            rw [hL] at this
            omega
          have hDin : ∀ z, (D.put (.int .i64 LV) (.lit (.int .i64 (w2.heap.size : Int)))).atKey (.int .i64 LV) z = .lit (.int .i64 (w2.heap.size : Int)) := fun z => by rw [atKey_put_same hbp.mp.map (show WideAt.IsKeyLit (Lit.int .i64 LV) from trivial)]
          have HDIN := hide hDin
          have HW2 := hide (show ((wr.alloc (.cells #[.int .i64 xa, .string xr, .int .i64 xk, .int .i64 xv] 51)).setCell ⟨p, 7, none⟩ (.int .i64 LV)).setCell ⟨p, 5, none⟩ (.int .i64 LV) = w2 by rw [hwa]; exact hw2)
          have hwl : IntKind.i64.wrap ((L : Int) + 1) = LV := by rw [hLV]; exact IntWalk.i64_in _ (by omega)
          have hgw : (Lit.int .i64 LV).wf = true := wf_small (by omega)
          have hmnN : mn ≤ 2000000000 := by omega
          have hba2 := hba.mono (show B ≤ wr.heap.size by have := hkp.be.size; omega)
          have HEND0 := hide (fun (k : Nat) (hkk : wr.heap.size ≤ k) (w' : World) (v8 : Value) (g' : Int) (hgd : g' = if 1 = P.mo then 0 else LV)
              (hbox : w'.heap[p]? = some (.cells #[.int .i64 (P.mo : Int), .int .i64 P.wa, .int .i64 P.ag, .int .i64 P.tr, .map (some mb), .int .i64 g', lv, .int .i64 LV, .int .i64 xa, .int .i64 s.due] 57 (0, 0)))
              (hcell : w'.heap[k]? = some (.cells #[.int .i64 LV, v8, .int .i64 0, .int .i64 0] 41 (0, 0))) (hrow : w'.ownsRow B 51 4 v8 1 [.int .i64 xa, .string xr, .int .i64 xk, .int .i64 xv])
              (hvv : v8.ownBlock = none ∨ ∃ i, wr.heap.size ≤ i ∧ v8.ownBlock = some i) (hmap : w'.ownsMap Tryd.prog 3 ptE mb (mn + 1) (D.put (.int .i64 LV) (.lit (.int .i64 (k : Int)))))
              (hst : ∀ j o, wr.heap[j]? = some o → j ≠ p → j ≠ mb → w'.heap[j]? = some o) (hB : Below B wr w') =>
            show PutR B P p mb s N F w l (j + 1) w' from put_new (x := ⟨xa, xr, xk, xv⟩) (v8 := v8) HPH.out hbp hmnj hkp hFj HXJ.out hgt hL hkk (g := g') (by rw [hLV]; exact hgd) (by rw [hLV]; exact hbox) (by rw [hLV]; exact hcell) hrow hvv (by rw [hLV]; exact hmap) hst hB)
          have HBA := hide hba
          have HBA2 := hide hba2
          have hpB2 : p < w2.heap.size := by have := lt_of_block hb0; omega
          have hnbr : wr.heap.size = nb := hnb
          clear hbp hbpa hmnj hkp hFj hgt hps hbx hma hwa hnb hL hLV hpv hslr hx hc hnbl pn1 pn2 pn3 pn4 mn1 mn2 mn3 hba hba2 hgi hb0 hb1 hb2 hw2 hs2 hDin hni
          have hnbr' := hide hnbr
          clear hnbr
          go_wp2_with (fail)
          rw [HW2.out, HNB.out]
          have HS0 := hide (show ∀ U, Below w2.heap.size w2 U → (fun U => U.cell? ⟨p, 4, none⟩ = some (.map (some mb)) ∧ U.cell? ⟨p, 7, none⟩ = some (.int .i64 LV)) U from fun U hb => ⟨(block_cell (block_below HBX2.out hb) 4).trans rfl, (block_cell (block_below HBX2.out hb) 7).trans rfl⟩)
          refine wp_region_chain (fun U => U.cell? ⟨p, 4, none⟩ = some (.map (some mb)) ∧ U.cell? ⟨p, 7, none⟩ = some (.int .i64 LV)) 14 (by as_aux_lemma => kernel_rfl) (N := 15) (by as_aux_lemma => kernel_rfl) ?_; intro hsh
          have HS := HS0.out w2.drew (below_drewN (Below.refl _ _) 1)
          have HSA := HS0.out (w2.drew.alloc (.cells #[.int .i64 LV, .slice none 0 0, .int .i64 0, .int .i64 0] 41)) ((below_drewN (Below.refl _ _) 1).alloc (Nat.le_refl _) _)
          refine wpAnyC_take0 (i := 0) (k := 14) (v := ?_) (d := some 40) rfl (by rfl) (by as_aux_lemma => kernel_rfl) (by as_aux_lemma => kernel_rfl) (by as_aux_lemma => kernel_rfl) hsh (by decide) (by intro _ _ _ h; exact h) (by assumption) (Or.inl ⟨by rfl, ?hy⟩) ?_; (case hy => (intro W _; go_simp; (try with_reducible rfl))); clear hsh; intro hsh
          refine wpAnyC_take0 (i := 1) (k := 14) (v := ?_) (d := some 41) rfl (by rfl) (by as_aux_lemma => kernel_rfl) (by as_aux_lemma => kernel_rfl) (by as_aux_lemma => kernel_rfl) hsh (by decide) (by intro _ _ _ h; exact h) (by assumption) (Or.inl ⟨by rfl, ?hy⟩) ?_; (case hy => (intro W _; go_simp; (try with_reducible rfl))); clear hsh; intro hsh
          refine wpAnyC_take0 (i := 2) (k := 14) (v := ?_) (d := some 42) rfl (by rfl) (by as_aux_lemma => kernel_rfl) (by as_aux_lemma => kernel_rfl) (by as_aux_lemma => kernel_rfl) hsh (by decide) (by intro _ _ _ h; exact h) (by assumption) (Or.inl ⟨by rfl, ?hy⟩) ?_; (case hy => (intro W _; go_simp; (try with_reducible rfl))); clear hsh; intro hsh
          refine wpAnyC_take (i := 3) (k := 14) (f := 40) (v := ?_) (d := some 43) rfl (by rfl) (by as_aux_lemma => kernel_rfl) (by as_aux_lemma => kernel_rfl) (by as_aux_lemma => kernel_rfl) hsh (by decide) (by as_aux_lemma => kernel_rfl) (by intro _ _ _ h; exact h) (by assumption) (Or.inl ⟨by rfl, ?hy⟩) ?_; (case hy => (rintro W ⟨a1, a2⟩; go_simp; (try with_reducible rfl))); clear hsh; intro hsh
          refine wpAnyC_take0 (i := 4) (k := 14) (v := ?_) (d := some 44) rfl (by rfl) (by as_aux_lemma => kernel_rfl) (by as_aux_lemma => kernel_rfl) (by as_aux_lemma => kernel_rfl) hsh (by decide) (by intro _ _ _ h; exact h) (by assumption) (Or.inl ⟨by rfl, ?hy⟩) ?_; (case hy => (intro W _; go_simp; (try with_reducible rfl))); clear hsh; intro hsh
          refine wpAnyC_take0 (i := 5) (k := 14) (v := ?_) (d := some 45) rfl (by rfl) (by as_aux_lemma => kernel_rfl) (by as_aux_lemma => kernel_rfl) (by as_aux_lemma => kernel_rfl) hsh (by decide) (by intro _ _ _ h; exact h) (by assumption) (Or.inl ⟨by rfl, ?hy⟩) ?_; (case hy => (intro W _; go_simp; (try with_reducible rfl))); clear hsh; intro hsh
          refine wpAnyC_take0 (i := 6) (k := 14) (v := ?_) (d := some 46) rfl (by rfl) (by as_aux_lemma => kernel_rfl) (by as_aux_lemma => kernel_rfl) (by as_aux_lemma => kernel_rfl) hsh (by decide) (by intro _ _ _ h; exact h) (by assumption) (Or.inl ⟨by rfl, ?hy⟩) ?_; (case hy => (intro W _; go_simp; (try with_reducible rfl))); clear hsh; intro hsh
          refine wpAnyC_take (i := 7) (k := 14) (f := 40) (v := ?_) (d := some 47) rfl (by rfl) (by as_aux_lemma => kernel_rfl) (by as_aux_lemma => kernel_rfl) (by as_aux_lemma => kernel_rfl) hsh (by decide) (by as_aux_lemma => kernel_rfl) (by intro _ _ _ h; exact h) (by assumption) (Or.inl ⟨by rfl, ?hy⟩) ?_; (case hy => (rintro W ⟨a1, a2⟩; go_simp; (try with_reducible rfl))); clear hsh; intro hsh
          refine wpAnyC_take0 (i := 8) (k := 14) (v := ?_) (d := some 48) rfl (by rfl) (by as_aux_lemma => kernel_rfl) (by as_aux_lemma => kernel_rfl) (by as_aux_lemma => kernel_rfl) hsh (by decide) (by intro _ _ _ h; exact h) (by assumption) (Or.inl ⟨by rfl, ?hy⟩) ?_; (case hy => (intro W _; go_simp; (try with_reducible rfl))); clear hsh; intro hsh
          refine wpAnyC_take0 (i := 9) (k := 14) (v := ?_) (d := some 49) rfl (by rfl) (by as_aux_lemma => kernel_rfl) (by as_aux_lemma => kernel_rfl) (by as_aux_lemma => kernel_rfl) hsh (by decide) (by intro _ _ _ h; exact h) (by assumption) (Or.inl ⟨by rfl, ?hy⟩) ?_; (case hy => (intro W _; go_simp; (try with_reducible rfl))); clear hsh; intro hsh
          refine wpAnyC_take0 (i := 10) (k := 14) (v := ?_) (d := some 50) rfl (by rfl) (by as_aux_lemma => kernel_rfl) (by as_aux_lemma => kernel_rfl) (by as_aux_lemma => kernel_rfl) hsh (by decide) (by intro _ _ _ h; exact h) (by assumption) (Or.inl ⟨by rfl, ?hy⟩) ?_; (case hy => (intro W _; go_simp; (try with_reducible rfl))); clear hsh; intro hsh
          refine wpAnyC_take (i := 11) (k := 14) (f := 40) (v := ?_) (d := some 51) rfl (by rfl) (by as_aux_lemma => kernel_rfl) (by as_aux_lemma => kernel_rfl) (by as_aux_lemma => kernel_rfl) hsh (by decide) (by as_aux_lemma => kernel_rfl) (by intro _ _ _ h; exact h) (by assumption) (Or.inl ⟨by rfl, ?hy⟩) ?_; (case hy => (rintro W ⟨a1, a2⟩; go_simp; (try with_reducible rfl))); clear hsh; intro hsh
          refine wpAnyC_take0 (i := 12) (k := 14) (v := ?_) (d := some 52) rfl (by rfl) (by as_aux_lemma => kernel_rfl) (by as_aux_lemma => kernel_rfl) (by as_aux_lemma => kernel_rfl) hsh (by decide) (by intro _ _ _ h; exact h) (by assumption) (Or.inl ⟨by rfl, ?hy⟩) ?_; (case hy => (intro W _; go_simp; (try with_reducible rfl))); clear hsh; intro hsh
          refine wpAnyC_ready (rs := [13]) (by as_aux_lemma => kernel_rfl) (by simp) ?_; refine AllC.cons (i := 13) rfl (by as_aux_lemma => kernel_rfl) hsh (fun K hK => ?_) AllC.nil
          go_simp
          refine hK _ _ (fun _ => HSA) ?_
          clear hK K hsh
          intro hsh
          refine wpAnyC_tail (by as_aux_lemma => kernel_rfl) (by simp) (by as_aux_lemma => kernel_rfl) ?_; simp only [List.drop_succ_cons, List.drop_zero]; clear hsh
          clear HS HS0 HSA
          go_simp
          obtain ⟨k, hk⟩ : ∃ k, w2.heap.size = k := ⟨_, rfl⟩
          obtain ⟨DP, hDP⟩ : ∃ DP, D.put (.int .i64 LV) (.lit (.int .i64 (k : Int))) = DP := ⟨_, rfl⟩
          have HMP4 := hide (show ∀ z, DP.atKey (.int .i64 LV) z = .lit (.int .i64 (k : Int)) from by rw [← hDP, ← hk]; exact HDIN.out)
          have HK := hide hk
          have HDP := hide hDP
          have HMWA := hide (show ((w2.alloc (.cells #[.int .i64 LV, .slice none 0 0, .int .i64 0, .int .i64 0] 41)).drew).ownsMap Tryd.prog 3 ptE mb mn D from map_stayC (HMW2.out.alloc (.cells #[.int .i64 LV, .slice none 0 0, .int .i64 0, .int .i64 0] 41)) (fun o e => e))
          clear hDP hk
          go_wp2_with (first | (at_mapUpdate; (refine wpList_mapUpdate_own _ rfl (.tmp 43) (.tmp 47) (.tmp 53) 55 rfl 3 63 law_i Tryd.underlying55 ptE mb mn D rfl HMWA.out (by unfold maxLen; omega) (.int .i64 LV) (.pointer (some ⟨w2.heap.size, 0, none⟩)) _ (by first | rfl | go_simp) (by first | rfl | go_simp) (key_w hgw) _ [] (ptE_mk (some w2.heap.size)) ?_; intro w4 hown4 hg4; obtain ⟨wA, hwA⟩ : ∃ wA, (w2.alloc (.cells #[.int .i64 LV, .slice none 0 0, .int .i64 0, .int .i64 0] 41)).drew = wA := ⟨_, rfl⟩; rw [hwA] at hg4; have hA0 : Below w2.heap.size w2 wA := hwA ▸ ((Below.refl _ _).alloc (Nat.le_refl _) _).drew; have hA1 : wA.heap[w2.heap.size]? = some (.cells #[.int .i64 LV, .slice none 0 0, .int .i64 0, .int .i64 0] 41 (0, 0)) := hwA ▸ heap_alloc_new w2 _; have hzA := hA0.size; have hz4' := hg4.size; have HST4 := hide (show ∀ j o, w2.heap[j]? = some o → j ≠ mb → w4.heap[j]? = some o from fun j o e ne => (hg4.block j (by have := lt_of_block e; omega) (fun e2 => ne (by cases e2; rfl))).trans (block_below e hA0)); have HC4' := hide (show w4.heap[w2.heap.size]? = some (.cells #[.int .i64 LV, .slice none 0 0, .int .i64 0, .int .i64 0] 41 (0, 0)) from (hg4.block _ (lt_of_block hA1) (fun e2 => (by have h1 := Option.some.inj e2; have h2 := HMW2.out.lt; omega))).trans hA1); have HB4' := hide (show Below B w2 w4 from (hA0.mono (by omega)).grown hg4 (by omega) (fun j hj => by cases hj; exact hmB)); have HMW4' := hide hown4; have hwA1 := lt_of_block hA1; have hz49 : w2.heap.size < w4.heap.size := (by omega); clear hwA hg4 hA0 hA1 hown4 hzA hz4' hwA1)))
          rw [HK.out] at HC4' HMW4' hz49
          try rw [HK.out]
          have HC4 := HC4'
          have HMW4 := hide (show w4.ownsMap Tryd.prog 3 ptE mb (mn + 1) DP from by have h9 := HMW4'.out; rw [show Bk.ptI (some k) = (k : Int) from rfl, HDP.out] at h9; exact h9)
          have hkz : k = w2.heap.size := HK.out.symm
          have hmlt := HMW2.out.lt
          have hpm : p ≠ mb := fun e => by
            obtain ⟨es, ck, hb9, _⟩ := HMW2.out
            have h8 := HBX2.out
            rw [e, hb9] at h8
            cases h8
          have HBX4 := hide (HST4.out p _ HBX2.out hpm)
          have HN4 := hide (HST4.out nb _ HN2.out hnm)
          have hpk : p ≠ k := by omega
          have hmk : mb ≠ k := by omega
          have hnk : nb ≠ k := by have := lt_of_block HN2.out; omega
          have hBk : B ≤ k := by omega
          have hB4 : B ≤ w4.heap.size := by omega
          obtain ⟨A0, hA0⟩ : ∃ A0 : Option Addr, none = A0 := ⟨_, rfl⟩
          have HEND := hide (fun (w' : World) (v8 : Value) (g' : Int) (hgd : g' = if 0 + 1 = P.mo then 0 else LV)
              (hbox : w'.heap[p]? = some (.cells #[.int .i64 (P.mo : Int), .int .i64 P.wa, .int .i64 P.ag, .int .i64 P.tr, .map (some mb), .int .i64 g', lv, .int .i64 LV, .int .i64 xa, .int .i64 s.due] 57 (0, 0)))
              (hcell : w'.heap[k]? = some (.cells #[.int .i64 LV, v8, .int .i64 0, .int .i64 0] 41 (0, 0))) (hrow : w'.ownsRow B 51 4 v8 (0 + 1) ([] ++ [.int .i64 xa, .string xr, .int .i64 xk, .int .i64 xv]))
              (hvv : v8.ownBlock = (Value.slice none 0 0).ownBlock ∨ ∃ i, w4.heap.size ≤ i ∧ v8.ownBlock = some i)
              (hst : ∀ j o, w4.heap[j]? = some o → (Value.slice none 0 0).ownBlock ≠ some j → j ≠ k → j ≠ p → w'.heap[j]? = some o) (hB : Below B w4 w') =>
            show PutR B P p mb s N F w l (j + 1) w' from HEND0.out k (by have := HBA.out.size; omega) w' v8 g' (by simpa using hgd) hbox hcell (by simpa using hrow)
              (by rcases hvv with h9 | ⟨i, h9, h8⟩; exact .inl h9; exact .inr ⟨i, by have := HBA.out.size; omega, h8⟩) (by rw [HDP.out]; exact map_stayC HMW4.out fun o eo => hst mb o eo (fun e => by cases e) hmk hpm.symm)
              (fun i o e h1 h2 => hst i o (HST4.out i o (HS2.out i o (block_below e HBA.out) h1) h2) (fun e => by cases e) (by have := lt_of_block e; have := HBA.out.size; omega) h1) (((HBA2.out.trans HB2.out).trans HB4'.out).trans hB))
          clear hA0
          have HR4 := hide (show w4.ownsRow B 51 4 (.slice none 0 0) 0 [] from World.ownsRow_nil _ _ _ _)
          have hrk : (Value.slice none 0 0).ownBlock ≠ some k := fun e => by cases e
          have hrp : (Value.slice none 0 0).ownBlock ≠ some p := fun e => by cases e
          have hrn : (Value.slice none 0 0).ownBlock ≠ some nb := fun e => by cases e
          have hz4 : nb < w4.heap.size := lt_of_block HN4.out
          clear HC4' HMW4' x5 x7 f7 u7 u5 f5 hkz hmlt
          have HS0 := hide (show ∀ U, Below w4.heap.size w4 U → (fun U => U.cell? ⟨p, 4, none⟩ = some (.map (some mb)) ∧ U.cell? ⟨p, 5, none⟩ = some (.int .i64 LV)) U from fun U hb => ⟨(block_cell (block_below HBX4.out hb) 4).trans rfl, (block_cell (block_below HBX4.out hb) 5).trans rfl⟩)
          refine wp_region_chain (fun U => U.cell? ⟨p, 4, none⟩ = some (.map (some mb)) ∧ U.cell? ⟨p, 5, none⟩ = some (.int .i64 LV)) 8 (by as_aux_lemma => kernel_rfl) (N := 10) (by as_aux_lemma => kernel_rfl) ?_; intro hsh
          have HS := HS0.out w4.drew (below_drewN (Below.refl _ _) 1)
          refine wpAnyC_take0 (i := 0) (k := 8) (v := ?_) (d := some 54) rfl (by rfl) (by as_aux_lemma => kernel_rfl) (by as_aux_lemma => kernel_rfl) (by as_aux_lemma => kernel_rfl) hsh (by decide) (by intro _ _ _ h; exact h) (by assumption) (Or.inl ⟨by rfl, ?hy⟩) ?_; (case hy => (intro W _; go_simp; (try with_reducible rfl))); clear hsh; intro hsh
          refine wpAnyC_take0 (i := 1) (k := 8) (v := ?_) (d := some 55) rfl (by rfl) (by as_aux_lemma => kernel_rfl) (by as_aux_lemma => kernel_rfl) (by as_aux_lemma => kernel_rfl) hsh (by decide) (by intro _ _ _ h; exact h) (by assumption) (Or.inl ⟨by rfl, ?hy⟩) ?_; (case hy => (intro W _; go_simp; (try with_reducible rfl))); clear hsh; intro hsh
          refine wpAnyC_take0 (i := 2) (k := 8) (v := ?_) (d := some 56) rfl (by rfl) (by as_aux_lemma => kernel_rfl) (by as_aux_lemma => kernel_rfl) (by as_aux_lemma => kernel_rfl) hsh (by decide) (by intro _ _ _ h; exact h) (by assumption) (Or.inl ⟨by rfl, ?hy⟩) ?_; (case hy => (intro W _; go_simp; (try with_reducible rfl))); clear hsh; intro hsh
          refine wpAnyC_take (i := 3) (k := 8) (f := 40) (v := ?_) (d := some 57) rfl (by rfl) (by as_aux_lemma => kernel_rfl) (by as_aux_lemma => kernel_rfl) (by as_aux_lemma => kernel_rfl) hsh (by decide) (by as_aux_lemma => kernel_rfl) (by intro _ _ _ h; exact h) (by assumption) (Or.inl ⟨by rfl, ?hy⟩) ?_; (case hy => (rintro W ⟨a1, a2⟩; go_simp; (try with_reducible rfl))); clear hsh; intro hsh
          refine wpAnyC_take0 (i := 4) (k := 8) (v := ?_) (d := some 58) rfl (by rfl) (by as_aux_lemma => kernel_rfl) (by as_aux_lemma => kernel_rfl) (by as_aux_lemma => kernel_rfl) hsh (by decide) (by intro _ _ _ h; exact h) (by assumption) (Or.inl ⟨by rfl, ?hy⟩) ?_; (case hy => (intro W _; go_simp; (try with_reducible rfl))); clear hsh; intro hsh
          refine wpAnyC_take0 (i := 5) (k := 8) (v := ?_) (d := some 59) rfl (by rfl) (by as_aux_lemma => kernel_rfl) (by as_aux_lemma => kernel_rfl) (by as_aux_lemma => kernel_rfl) hsh (by decide) (by intro _ _ _ h; exact h) (by assumption) (Or.inl ⟨by rfl, ?hy⟩) ?_; (case hy => (intro W _; go_simp; (try with_reducible rfl))); clear hsh; intro hsh
          refine wpAnyC_take0 (i := 6) (k := 8) (v := ?_) (d := some 60) rfl (by rfl) (by as_aux_lemma => kernel_rfl) (by as_aux_lemma => kernel_rfl) (by as_aux_lemma => kernel_rfl) hsh (by decide) (by intro _ _ _ h; exact h) (by assumption) (Or.inl ⟨by rfl, ?hy⟩) ?_; (case hy => (intro W _; go_simp; (try with_reducible rfl))); clear hsh; intro hsh
          refine wpAnyC_take (i := 7) (k := 8) (f := 40) (v := ?_) (d := some 61) rfl (by rfl) (by as_aux_lemma => kernel_rfl) (by as_aux_lemma => kernel_rfl) (by as_aux_lemma => kernel_rfl) hsh (by decide) (by as_aux_lemma => kernel_rfl) (by intro _ _ _ h; exact h) (by assumption) (Or.inl ⟨by rfl, ?hy⟩) ?_; (case hy => (rintro W ⟨a1, a2⟩; go_simp; (try with_reducible rfl))); clear hsh; intro hsh
          refine wpAnyC_tail (by as_aux_lemma => kernel_rfl) (by simp) (by as_aux_lemma => kernel_rfl) ?_; simp only [List.drop_succ_cons, List.drop_zero]; clear hsh
          clear HS HS0
          go_simp
          have HOWD := hide (show w4.drew.ownsMap Tryd.prog 3 ptE mb (mn + 1) DP from map_stayC HMW4.out (fun o e => e))
          go_wp2_with (first | (at_lookup; refine wpList_lookup_some _ rfl _ _ 55 rfl 3 63 law_i Tryd.underlying55 (zero_p _) mb (mn + 1) DP rfl HOWD.out (.int .i64 LV) _ rfl (key_w hgw) k HMP4.out ?_))
          have HS0 := hide (show ∀ U, Below w4.heap.size w4 U → (fun U => U.cell? ⟨k, 1, none⟩ = some (.slice none 0 0) ∧ U.cell? ⟨nb, 0, none⟩ = some (.int .i64 xa) ∧ U.cell? ⟨nb, 1, none⟩ = some (.string xr) ∧ U.cell? ⟨nb, 2, none⟩ = some (.int .i64 xk) ∧ U.cell? ⟨nb, 3, none⟩ = some (.int .i64 xv)) U from fun U hb => ⟨(block_cell (block_below HC4.out hb) 1).trans rfl, (block_cell (block_below HN4.out hb) 0).trans rfl, (block_cell (block_below HN4.out hb) 1).trans rfl, (block_cell (block_below HN4.out hb) 2).trans rfl, (block_cell (block_below HN4.out hb) 3).trans rfl⟩)
          obtain ⟨w5, hw5⟩ : ∃ w5, w4.drew = w5 := ⟨_, rfl⟩
          have hb5 : Below w4.heap.size w4 w5 := hw5 ▸ below_drewN (Below.refl _ _) 1
          have hz5 : w5.heap.size = w4.heap.size := by rw [← hw5]; rfl
          rw [hw5]
          have HB5 := hide hb5
          clear hw5 hb5
          refine wp_region_chain (fun U => U.cell? ⟨k, 1, none⟩ = some (.slice none 0 0) ∧ U.cell? ⟨nb, 0, none⟩ = some (.int .i64 xa) ∧ U.cell? ⟨nb, 1, none⟩ = some (.string xr) ∧ U.cell? ⟨nb, 2, none⟩ = some (.int .i64 xk) ∧ U.cell? ⟨nb, 3, none⟩ = some (.int .i64 xv)) 7 (by as_aux_lemma => kernel_rfl) (N := 11) (by as_aux_lemma => kernel_rfl) ?_; intro hsh
          have HS := HS0.out w5.drew (below_drewN HB5.out 1)
          have HSA := HS0.out (w5.drew.alloc (.cells #[.int .i64 xa, .string xr, .int .i64 xk, .int .i64 xv] 51)) ((below_drewN HB5.out 1).alloc (by have := HB5.out.size; exact this) _)
          refine wpAnyC_take0 (i := 0) (k := 7) (v := ?_) (d := some 63) rfl (by rfl) (by as_aux_lemma => kernel_rfl) (by as_aux_lemma => kernel_rfl) (by as_aux_lemma => kernel_rfl) hsh (by decide) (by intro _ _ _ h; exact h) (by assumption) (Or.inl ⟨by rfl, ?hy⟩) ?_; (case hy => (intro W _; go_simp; (try with_reducible rfl))); clear hsh; intro hsh
          refine wpAnyC_take0 (i := 1) (k := 7) (v := ?_) (d := some 64) rfl (by rfl) (by as_aux_lemma => kernel_rfl) (by as_aux_lemma => kernel_rfl) (by as_aux_lemma => kernel_rfl) hsh (by decide) (by intro _ _ _ h; exact h) (by assumption) (Or.inl ⟨by rfl, ?hy⟩) ?_; (case hy => (intro W _; go_simp; (try with_reducible rfl))); clear hsh; intro hsh
          refine wpAnyC_take0 (i := 2) (k := 7) (v := ?_) (d := some 65) rfl (by rfl) (by as_aux_lemma => kernel_rfl) (by as_aux_lemma => kernel_rfl) (by as_aux_lemma => kernel_rfl) hsh (by decide) (by intro _ _ _ h; exact h) (by assumption) (Or.inl ⟨by rfl, ?hy⟩) ?_; (case hy => (intro W _; go_simp; (try with_reducible rfl))); clear hsh; intro hsh
          refine wpAnyC_take0 (i := 3) (k := 7) (v := ?_) (d := some 66) rfl (by rfl) (by as_aux_lemma => kernel_rfl) (by as_aux_lemma => kernel_rfl) (by as_aux_lemma => kernel_rfl) hsh (by decide) (by intro _ _ _ h; exact h) (by assumption) (Or.inl ⟨by rfl, ?hy⟩) ?_; (case hy => (intro W _; go_simp; (try with_reducible rfl))); clear hsh; intro hsh
          refine wpAnyC_take (i := 4) (k := 7) (f := 40) (v := ?_) (d := some 67) rfl (by rfl) (by as_aux_lemma => kernel_rfl) (by as_aux_lemma => kernel_rfl) (by as_aux_lemma => kernel_rfl) hsh (by decide) (by as_aux_lemma => kernel_rfl) (by intro _ _ _ h; exact h) (by assumption) (Or.inl ⟨by rfl, ?hy⟩) ?_; (case hy => (rintro W ⟨a1, a2, a3, a4, a5⟩; go_simp; (try with_reducible rfl))); clear hsh; intro hsh
          refine wpAnyC_take (i := 5) (k := 7) (f := 40) (v := ?_) (d := some 68) rfl (by rfl) (by as_aux_lemma => kernel_rfl) (by as_aux_lemma => kernel_rfl) (by as_aux_lemma => kernel_rfl) hsh (by decide) (by as_aux_lemma => kernel_rfl) (by intro _ _ _ h; exact h) (by assumption) (Or.inl ⟨by rfl, ?hy⟩) ?_; (case hy => (rintro W ⟨a1, a2, a3, a4, a5⟩; go_simp; (try with_reducible rfl))); clear hsh; intro hsh
          refine wpAnyC_ready (rs := [6]) (by as_aux_lemma => kernel_rfl) (by simp) ?_; refine AllC.cons (i := 6) rfl (by as_aux_lemma => kernel_rfl) hsh (fun K hK => ?_) AllC.nil
          go_simp
          refine hK _ _ (fun _ => HSA) ?_
          clear hK K hsh
          intro hsh
          refine wpAnyC_tail (by as_aux_lemma => kernel_rfl) (by simp) (by as_aux_lemma => kernel_rfl) ?_; simp only [List.drop_succ_cons, List.drop_zero]; clear hsh
          clear HS HS0 HSA
          go_simp
          have HOWA := hide (show (w5.drew.alloc (.cells #[.int .i64 xa, .string xr, .int .i64 xk, .int .i64 xv] 51)).ownsRow B 51 4 (.slice none 0 0) 0 [] from (own_below HR4.out (below_drewN HB5.out 1)).alloc _)
          go_wp2_with (first | (at_builtin; refine wpList_append_own_at _ rfl (.tmp 67) (.tmp 69) 32 rfl B 51 i0 (.agg #[.int .i64 0, .string ByteArray.empty, .int .i64 0, .int .i64 0]) 4 40 Tryd.underlying32 hi0 iz0 iz1 iz2 rfl (by decide) (.slice none 0 0) 0 [] (by first | rfl | go_simp) HOWA.out ⟨w5.heap.size, 0, none⟩ 1 1 [.int .i64 xa, .string xr, .int .i64 xk, .int .i64 xv] (by first | rfl | go_simp) rfl (cells_at w5.drew [.int .i64 xa, .string xr, .int .i64 xk, .int .i64 xv] _ _ rfl) (by intro u hu; simp at hu; rcases hu with rfl | rfl | rfl | rfl <;> rfl) (by unfold maxLen; omega) (by omega) (by simp; omega) ?_; intro v8 w8 hown8 hg8 _ hat8; obtain ⟨A8, c8, rfl⟩ := own_sl hown8; have HAL := hide (show ∀ j o, w4.heap[j]? = some o → (Value.slice none 0 0).ownBlock ≠ some j → w8.heap[j]? = some o from fun j o e ne => (hg8.block j (by have := lt_of_block e; simp; omega) (fun e2 => ne e2.symm)).trans (block_below e ((below_drewN HB5.out 1).alloc (by have := HB5.out.size; exact this) _))); have HOWN8 := hide hown8; have HAT8 := hide hat8; have HB8 := hide (show Below B w4 w8 from (((below_drewN HB5.out 1).mono hB4).alloc (by simp; omega) _).grown hg8 (by simp; omega) (fun j hj => (HOWA.out.lt j hj).1)); have hc8 := HAL.out k _ HC4.out hrk; have HC8 := hide hc8; have q1 : w8.cell? ⟨k, 1, none⟩ = some (.slice none 0 0) := (block_cell hc8 1).trans rfl; have q2 : w8.frozen? ⟨k, 1, none⟩ = false := block_free hc8 1; clear hown8 hg8 hat8 hc8))
          obtain ⟨w9, hw9⟩ : ∃ w9, w8.setCell ⟨k, 1, none⟩ (.slice A8 (0 + 1) c8) = w9 := ⟨_, rfl⟩
          have HC9 := hide (show w9.heap[k]? = some (.cells #[.int .i64 LV, .slice A8 (0 + 1) c8, .int .i64 0, .int .i64 0] 41 (0, 0)) from hw9 ▸ block_set HC8.out _)
          have HS9 := hide (show ∀ j o, w4.heap[j]? = some o → (Value.slice none 0 0).ownBlock ≠ some j → j ≠ k → w9.heap[j]? = some o from fun j o e ne nk => hw9 ▸ block_set_other (HAL.out j o e ne) ⟨k, 1, none⟩ _ (show j ≠ k from nk))
          have HBX9 := hide (HS9.out p _ HBX4.out hrp hpk)
          have HN9 := hide (HS9.out nb _ HN4.out hrn hnk)
          have HB9 := hide (show Below B w4 w9 from hw9 ▸ below_set HB8.out hBk _)
          have HR9 := hide (show w9.ownsRow B 51 4 (.slice A8 (0 + 1) c8) (0 + 1) ([] ++ [.int .i64 xa, .string xr, .int .i64 xk, .int .i64 xv]) from own_stayC HOWN8.out fun j o e eo => hw9 ▸ block_set_other eo ⟨k, 1, none⟩ _ (fun (e2 : j = k) => own_other' HOWN8.out HC8.out (by decide) (by rw [e, e2])))
          rw [hw9]
          clear hw9 q1 q2
          have y1 : w9.cell? ⟨k, 1, none⟩ = some (.slice A8 (0 + 1) c8) := (block_cell HC9.out 1).trans rfl
          have y0 : w9.cell? ⟨p, 0, none⟩ = some (.int .i64 (P.mo : Int)) := (block_cell HBX9.out 0).trans rfl
          by_cases hfull : 0 + 1 = P.mo
          · have hf1 : ((1 : Int) == (P.mo : Int)) = true := by simp; omega
            have hf2 : (0 : Int) + 1 = (P.mo : Int) := by omega
            have HFU := hide hfull
            have hmo := hide hf2
            go_wp2_with (fail)
            go_quiet (fail)
            have hb10 : Below w9.heap.size w9 (w9.drewN nq) := below_drewN (Below.refl _ _) nq
            obtain ⟨w10, hw10⟩ : ∃ w10, w9.drewN nq = w10 := ⟨_, rfl⟩
            rw [hw10] at hb10 ⊢
            have HBX10 := hide (block_below HBX9.out hb10)
            have HC10 := hide (block_below HC9.out hb10)
            have HN10 := hide (block_below HN9.out hb10)
            have HR10 := hide (own_below HR9.out hb10)
            have HS10 := hide (show ∀ j o, w4.heap[j]? = some o → (Value.slice none 0 0).ownBlock ≠ some j → j ≠ k → w10.heap[j]? = some o from fun j o e ne nk => block_below (HS9.out j o e ne nk) hb10)
            have HB10 := hide (show Below B w4 w10 from HB9.out.trans (hb10.mono (by have := HB9.out.size; omega)))
            clear hb10 hw10 y0 y1
            have f5 : w10.frozen? ⟨p, 5, none⟩ = false := block_free HBX10.out 5
            have g5 : w10.cell? ⟨p, 5, none⟩ = some (.int .i64 LV) := (block_cell HBX10.out 5).trans rfl
            have HBX11 := hide (show (w10.setCell ⟨p, 5, none⟩ (.int .i64 0)).heap[p]? = some (.cells #[.int .i64 (P.mo : Int), .int .i64 P.wa, .int .i64 P.ag, .int .i64 P.tr, .map (some mb), .int .i64 0, lv, .int .i64 LV, .int .i64 pv, .int .i64 s.due] 57 (0, 0)) from block_set HBX10.out (i := 5) _)
            have HN11 := hide (show (w10.setCell ⟨p, 5, none⟩ (.int .i64 0)).heap[nb]? = _ from block_set_other HN10.out ⟨p, 5, none⟩ _ (show nb ≠ p from hnp))
            have e8 : (w10.setCell ⟨p, 5, none⟩ (.int .i64 0)).cell? ⟨nb, 0, none⟩ = some (.int .i64 xa) := (block_cell HN11.out 0).trans rfl
            have f8 : (w10.setCell ⟨p, 5, none⟩ (.int .i64 0)).frozen? ⟨p, 8, none⟩ = false := block_free HBX11.out 8
            have g8 : (w10.setCell ⟨p, 5, none⟩ (.int .i64 0)).cell? ⟨p, 8, none⟩ = some (.int .i64 pv) := (block_cell HBX11.out 8).trans rfl
            have HBX12 := hide (show ((w10.setCell ⟨p, 5, none⟩ (.int .i64 0)).setCell ⟨p, 8, none⟩ (.int .i64 xa)).heap[p]? = some (.cells #[.int .i64 (P.mo : Int), .int .i64 P.wa, .int .i64 P.ag, .int .i64 P.tr, .map (some mb), .int .i64 0, lv, .int .i64 LV, .int .i64 xa, .int .i64 s.due] 57 (0, 0)) from block_set HBX11.out (i := 8) _)
            have HS12 := hide (show ∀ j o, w10.heap[j]? = some o → j ≠ p → ((w10.setCell ⟨p, 5, none⟩ (.int .i64 0)).setCell ⟨p, 8, none⟩ (.int .i64 xa)).heap[j]? = some o from fun j o e np => block_set_other (block_set_other e ⟨p, 5, none⟩ _ (show j ≠ p from np)) ⟨p, 8, none⟩ _ (show j ≠ p from np))
            have HB12 := hide (show Below B w4 ((w10.setCell ⟨p, 5, none⟩ (.int .i64 0)).setCell ⟨p, 8, none⟩ (.int .i64 xa)) from below_set (below_set HB10.out hBp _) hBp _)
            have HREL := hide (HEND.out ((w10.setCell ⟨p, 5, none⟩ (.int .i64 0)).setCell ⟨p, 8, none⟩ (.int .i64 xa)) (.slice A8 (0 + 1) c8) 0 (by rw [if_pos HFU.out]) HBX12.out (HS12.out k _ HC10.out hpk.symm) (own_stayC HR10.out fun j o e eo => HS12.out j o eo (fun e2 => own_other' HR10.out HBX10.out (by decide) (by rw [e, e2]))) (by
              rcases HAT8.out with h9 | h9
              · exact .inl h9
              · exact .inr ⟨_, by simp; omega, h9⟩) (fun j o e ne nk np => HS12.out j o (HS10.out j o e ne nk) np) HB12.out)
            go_wp2_with (fail)
            go_roundw
            case rel => exact ⟨j + 1, hlt, by go_num, HREL.out⟩
            case measure => simp [intOf]; omega
          · have hf1 : ((1 : Int) == (P.mo : Int)) = false := by rw [beq_eq_false_iff_ne]; omega
            have hf2 : ¬ (0 : Int) + 1 = (P.mo : Int) := by omega
            have HFU := hide hfull

            go_wp2_with (fail)
            go_quiet (fail)
            have hb10 : Below w9.heap.size w9 (w9.drewN nq) := below_drewN (Below.refl _ _) nq
            obtain ⟨w10, hw10⟩ : ∃ w10, w9.drewN nq = w10 := ⟨_, rfl⟩
            rw [hw10] at hb10 ⊢
            have HBX10 := hide (block_below HBX9.out hb10)
            have HC10 := hide (block_below HC9.out hb10)
            have HN10 := hide (block_below HN9.out hb10)
            have HR10 := hide (own_below HR9.out hb10)
            have HS10 := hide (show ∀ j o, w4.heap[j]? = some o → (Value.slice none 0 0).ownBlock ≠ some j → j ≠ k → w10.heap[j]? = some o from fun j o e ne nk => block_below (HS9.out j o e ne nk) hb10)
            have HB10 := hide (show Below B w4 w10 from HB9.out.trans (hb10.mono (by have := HB9.out.size; omega)))
            clear hb10 hw10 y0 y1
            have HN11 := hide (HN10.out)
            have e8 : w10.cell? ⟨nb, 0, none⟩ = some (.int .i64 xa) := (block_cell HN11.out 0).trans rfl
            have f8 : w10.frozen? ⟨p, 8, none⟩ = false := block_free HBX10.out 8
            have g8 : w10.cell? ⟨p, 8, none⟩ = some (.int .i64 pv) := (block_cell HBX10.out 8).trans rfl
            have HBX12 := hide (show (w10.setCell ⟨p, 8, none⟩ (.int .i64 xa)).heap[p]? = some (.cells #[.int .i64 (P.mo : Int), .int .i64 P.wa, .int .i64 P.ag, .int .i64 P.tr, .map (some mb), .int .i64 LV, lv, .int .i64 LV, .int .i64 xa, .int .i64 s.due] 57 (0, 0)) from block_set HBX10.out (i := 8) _)
            have HS12 := hide (show ∀ j o, w10.heap[j]? = some o → j ≠ p → (w10.setCell ⟨p, 8, none⟩ (.int .i64 xa)).heap[j]? = some o from fun j o e np => block_set_other (e) ⟨p, 8, none⟩ _ (show j ≠ p from np))
            have HB12 := hide (show Below B w4 (w10.setCell ⟨p, 8, none⟩ (.int .i64 xa)) from below_set (HB10.out) hBp _)
            have HREL := hide (HEND.out (w10.setCell ⟨p, 8, none⟩ (.int .i64 xa)) (.slice A8 (0 + 1) c8) LV (by rw [if_neg HFU.out]) HBX12.out (HS12.out k _ HC10.out hpk.symm) (own_stayC HR10.out fun j o e eo => HS12.out j o eo (fun e2 => own_other' HR10.out HBX10.out (by decide) (by rw [e, e2]))) (by
              rcases HAT8.out with h9 | h9
              · exact .inl h9
              · exact .inr ⟨_, by simp; omega, h9⟩) (fun j o e ne nk np => HS12.out j o (HS10.out j o e ne nk) np) HB12.out)
            go_wp2_with (fail)
            go_roundw
            case rel => exact ⟨j + 1, hlt, by go_num, HREL.out⟩
            case measure => simp [intOf]; omega
        | some q =>
          obtain ⟨hqa, hqg⟩ := gat_at hgt
          obtain ⟨hq1, hq2, hq3⟩ := gat_some hgt
          have hqm := List.mem_of_getElem? hq1
          obtain ⟨hqo, hqn, _⟩ := hps.un q hqm hq2
          rw [hL] at hqa hqg
          have hin : (L : Int) ∈ is := (hbp.mem _).2 ⟨q, hqa, hqo⟩
          have hgo := (op_not hqo).1
          have hcl := hbpa.cell _ q hin hqa
          have hrw := hbpa.row _ q hqa hgo
          have HMP4 := hide (hbp.mp.in_ _ hin)
          obtain ⟨rn1, rn2⟩ := hbp.rne hqa hgo
          obtain ⟨k, hk⟩ : ∃ k, gk (L : Int) = k := ⟨_, rfl⟩
          have hpk : p ≠ k := hk ▸ pn2 _ hin
          have hmk : mb ≠ k := hk ▸ mn1 _ hin
          have hBk : B ≤ k := hk ▸ hbp.lk _ hin
          have hnk : nb ≠ k := fun e => by have := hnbl k (.inr (.inr (.inl ⟨_, hin, hk.symm⟩))); omega
          obtain ⟨A0, c0, hv⟩ := own_sl hrw
          obtain ⟨m, hm⟩ : ∃ m, q.nts.length = m := ⟨_, rfl⟩
          obtain ⟨xs, hxs⟩ : ∃ xs, q.nts.flatMap Nt.cs = xs := ⟨_, rfl⟩
          obtain ⟨tr, htr⟩ : ∃ tr, q.tr = tr := ⟨_, rfl⟩
          obtain ⟨nx, hnx⟩ : ∃ nx, q.nx = nx := ⟨_, rfl⟩
          have hmm : m < P.mo := by omega
          have hrk : (Value.slice A0 m c0).ownBlock ≠ some k := by have := rn1 _ hin; rw [hv, hm, hk] at this; exact this
          have hrp : (Value.slice A0 m c0).ownBlock ≠ some p := by have := pn3 _ q hqa hgo; rw [hv, hm] at this; exact this
          have hrm : (Value.slice A0 m c0).ownBlock ≠ some mb := by have := mn2 _ q hqa hgo; rw [hv, hm] at this; exact this
          have hrn : (Value.slice A0 m c0).ownBlock ≠ some nb := fun e => by
            have := hnbl nb (.inr (.inr (.inr (.inl ⟨_, q, hqa, hgo, by rw [hv, hm]; exact e⟩))))
            omega
          obtain ⟨g, hg⟩ : ∃ g, (L : Int) = g := ⟨_, rfl⟩
          obtain ⟨LV, hLV⟩ : ∃ LV, (L : Int) = LV := ⟨_, rfl⟩
          have HBX4 := hide (show wa.heap[p]? = some (.cells #[.int .i64 (P.mo : Int), .int .i64 P.wa, .int .i64 P.ag, .int .i64 P.tr, .map (some mb), .int .i64 g, lv, .int .i64 LV, .int .i64 pv, .int .i64 s.due] 57 (0, 0)) from by
            rw [hbx]; unfold boxA; rw [hqg, hL, hpv, ← hg, ← hLV]; rfl)
          have HC4 := hide (show wa.heap[k]? = some (.cells #[.int .i64 g, .slice A0 m c0, .int .i64 tr, .int .i64 nx] 41 (0, 0)) from by
            have h9 := hcl
            rw [hv, hk, hm] at h9
            rw [h9]
            unfold pstA
            rw [htr, hnx, ← hg])
          have HN4 := hide hma
          have HMW4 := hide (show wa.ownsMap Tryd.prog 3 ptE mb mn D from hbpa.map)
          have HR4 := hide (show wa.ownsRow B 51 4 (.slice A0 m c0) m xs from by rw [hv, hm, hxs] at hrw; exact hrw)
          have HEND := hide (fun (w' : World) (v8 : Value) (g' : Int) (hgd : g' = if m + 1 = P.mo then 0 else g)
              (hbox : w'.heap[p]? = some (.cells #[.int .i64 (P.mo : Int), .int .i64 P.wa, .int .i64 P.ag, .int .i64 P.tr, .map (some mb), .int .i64 g', lv, .int .i64 LV, .int .i64 xa, .int .i64 s.due] 57 (0, 0)))
              (hcell : w'.heap[k]? = some (.cells #[.int .i64 g, v8, .int .i64 tr, .int .i64 nx] 41 (0, 0))) (hrow : w'.ownsRow B 51 4 v8 (m + 1) (xs ++ [.int .i64 xa, .string xr, .int .i64 xk, .int .i64 xv]))
              (hvv : v8.ownBlock = (Value.slice A0 m c0).ownBlock ∨ ∃ i, wa.heap.size ≤ i ∧ v8.ownBlock = some i)
              (hst : ∀ j o, wa.heap[j]? = some o → (Value.slice A0 m c0).ownBlock ≠ some j → j ≠ k → j ≠ p → w'.heap[j]? = some o) (hB : Below B wa w') =>
            show PutR B P p mb s N F w l (j + 1) w' from put_add (x := ⟨xa, xr, xk, xv⟩) (v8 := v8) HPH.out hbp hmnj hkp hFj HXJ.out hgt hL hm (g := g') (by rw [hg]; exact hgd) (by rw [hLV]; exact hbox) (by rw [hk, hg, htr, hnx]; exact hcell) (by rw [hxs]; exact hrow)
              (by rw [hv, hm]; rcases hvv with h9 | ⟨i, h9, h8⟩; exact .inl h9; exact .inr ⟨i, by omega, h8⟩) (fun i o e h1 h2 h3 => hst i o (block_below e hba) (by rw [hv, hm] at h3; exact h3) (by rw [hk] at h2; exact h2) h1) ((hba.mono (by have := hkp.be.size; omega)).trans hB))
          have hgw : (Lit.int .i64 g).wf = true := wf_small (by omega)
          rw [hk, hg] at HMP4
          have hg0 : (g == 0) = false := by rw [beq_eq_false_iff_ne]; omega
          have hg0' : ¬ g = 0 := by omega
          have hB4 : B ≤ wa.heap.size := by omega
          have hz4 : nb < wa.heap.size := by omega
          have x5 : (wr.alloc (.cells #[.int .i64 xa, .string xr, .int .i64 xk, .int .i64 xv] 51)).cell? ⟨p, 5, none⟩ = some (.int .i64 g) := by rw [hwa]; exact (block_cell HBX4.out 5).trans rfl
          clear hbp hbpa hmnj hkp hFj hgt hqa hqg hq1 hq2 hq3 hqm hqo hqn hin hgo hcl hrw rn1 rn2 hk hv hm hxs htr hnx hps hbx hma hwa hnb hL hg hLV hpv hslr hx hc hnbl pn1 pn2 pn3 pn4 mn1 mn2 mn3 hba
          go_wp2_with (fail)
          rw [HNB.out, HWA.out]
          have HS0 := hide (show ∀ U, Below wa.heap.size wa U → (fun U => U.cell? ⟨p, 4, none⟩ = some (.map (some mb)) ∧ U.cell? ⟨p, 5, none⟩ = some (.int .i64 g)) U from fun U hb => ⟨(block_cell (block_below HBX4.out hb) 4).trans rfl, (block_cell (block_below HBX4.out hb) 5).trans rfl⟩)
          refine wp_region_chain (fun U => U.cell? ⟨p, 4, none⟩ = some (.map (some mb)) ∧ U.cell? ⟨p, 5, none⟩ = some (.int .i64 g)) 8 (by as_aux_lemma => kernel_rfl) (N := 10) (by as_aux_lemma => kernel_rfl) ?_; intro hsh
          have HS := HS0.out wa.drew (below_drewN (Below.refl _ _) 1)
          refine wpAnyC_take0 (i := 0) (k := 8) (v := ?_) (d := some 54) rfl (by rfl) (by as_aux_lemma => kernel_rfl) (by as_aux_lemma => kernel_rfl) (by as_aux_lemma => kernel_rfl) hsh (by decide) (by intro _ _ _ h; exact h) (by assumption) (Or.inl ⟨by rfl, ?hy⟩) ?_; (case hy => (intro W _; go_simp; (try with_reducible rfl))); clear hsh; intro hsh
          refine wpAnyC_take0 (i := 1) (k := 8) (v := ?_) (d := some 55) rfl (by rfl) (by as_aux_lemma => kernel_rfl) (by as_aux_lemma => kernel_rfl) (by as_aux_lemma => kernel_rfl) hsh (by decide) (by intro _ _ _ h; exact h) (by assumption) (Or.inl ⟨by rfl, ?hy⟩) ?_; (case hy => (intro W _; go_simp; (try with_reducible rfl))); clear hsh; intro hsh
          refine wpAnyC_take0 (i := 2) (k := 8) (v := ?_) (d := some 56) rfl (by rfl) (by as_aux_lemma => kernel_rfl) (by as_aux_lemma => kernel_rfl) (by as_aux_lemma => kernel_rfl) hsh (by decide) (by intro _ _ _ h; exact h) (by assumption) (Or.inl ⟨by rfl, ?hy⟩) ?_; (case hy => (intro W _; go_simp; (try with_reducible rfl))); clear hsh; intro hsh
          refine wpAnyC_take (i := 3) (k := 8) (f := 40) (v := ?_) (d := some 57) rfl (by rfl) (by as_aux_lemma => kernel_rfl) (by as_aux_lemma => kernel_rfl) (by as_aux_lemma => kernel_rfl) hsh (by decide) (by as_aux_lemma => kernel_rfl) (by intro _ _ _ h; exact h) (by assumption) (Or.inl ⟨by rfl, ?hy⟩) ?_; (case hy => (rintro W ⟨a1, a2⟩; go_simp; (try with_reducible rfl))); clear hsh; intro hsh
          refine wpAnyC_take0 (i := 4) (k := 8) (v := ?_) (d := some 58) rfl (by rfl) (by as_aux_lemma => kernel_rfl) (by as_aux_lemma => kernel_rfl) (by as_aux_lemma => kernel_rfl) hsh (by decide) (by intro _ _ _ h; exact h) (by assumption) (Or.inl ⟨by rfl, ?hy⟩) ?_; (case hy => (intro W _; go_simp; (try with_reducible rfl))); clear hsh; intro hsh
          refine wpAnyC_take0 (i := 5) (k := 8) (v := ?_) (d := some 59) rfl (by rfl) (by as_aux_lemma => kernel_rfl) (by as_aux_lemma => kernel_rfl) (by as_aux_lemma => kernel_rfl) hsh (by decide) (by intro _ _ _ h; exact h) (by assumption) (Or.inl ⟨by rfl, ?hy⟩) ?_; (case hy => (intro W _; go_simp; (try with_reducible rfl))); clear hsh; intro hsh
          refine wpAnyC_take0 (i := 6) (k := 8) (v := ?_) (d := some 60) rfl (by rfl) (by as_aux_lemma => kernel_rfl) (by as_aux_lemma => kernel_rfl) (by as_aux_lemma => kernel_rfl) hsh (by decide) (by intro _ _ _ h; exact h) (by assumption) (Or.inl ⟨by rfl, ?hy⟩) ?_; (case hy => (intro W _; go_simp; (try with_reducible rfl))); clear hsh; intro hsh
          refine wpAnyC_take (i := 7) (k := 8) (f := 40) (v := ?_) (d := some 61) rfl (by rfl) (by as_aux_lemma => kernel_rfl) (by as_aux_lemma => kernel_rfl) (by as_aux_lemma => kernel_rfl) hsh (by decide) (by as_aux_lemma => kernel_rfl) (by intro _ _ _ h; exact h) (by assumption) (Or.inl ⟨by rfl, ?hy⟩) ?_; (case hy => (rintro W ⟨a1, a2⟩; go_simp; (try with_reducible rfl))); clear hsh; intro hsh
          refine wpAnyC_tail (by as_aux_lemma => kernel_rfl) (by simp) (by as_aux_lemma => kernel_rfl) ?_; simp only [List.drop_succ_cons, List.drop_zero]; clear hsh
          clear HS HS0
          go_simp
          have HOWD := hide (show wa.drew.ownsMap Tryd.prog 3 ptE mb mn D from map_stayC HMW4.out (fun o e => e))
          go_wp2_with (first | (at_lookup; refine wpList_lookup_some _ rfl _ _ 55 rfl 3 63 law_i Tryd.underlying55 (zero_p _) mb mn D rfl HOWD.out (.int .i64 g) _ rfl (key_w hgw) k HMP4.out ?_))
          have HS0 := hide (show ∀ U, Below wa.heap.size wa U → (fun U => U.cell? ⟨k, 1, none⟩ = some (.slice A0 m c0) ∧ U.cell? ⟨nb, 0, none⟩ = some (.int .i64 xa) ∧ U.cell? ⟨nb, 1, none⟩ = some (.string xr) ∧ U.cell? ⟨nb, 2, none⟩ = some (.int .i64 xk) ∧ U.cell? ⟨nb, 3, none⟩ = some (.int .i64 xv)) U from fun U hb => ⟨(block_cell (block_below HC4.out hb) 1).trans rfl, (block_cell (block_below HN4.out hb) 0).trans rfl, (block_cell (block_below HN4.out hb) 1).trans rfl, (block_cell (block_below HN4.out hb) 2).trans rfl, (block_cell (block_below HN4.out hb) 3).trans rfl⟩)
          obtain ⟨w5, hw5⟩ : ∃ w5, wa.drew = w5 := ⟨_, rfl⟩
          have hb5 : Below wa.heap.size wa w5 := hw5 ▸ below_drewN (Below.refl _ _) 1
          have hz5 : w5.heap.size = wa.heap.size := by rw [← hw5]; rfl
          rw [hw5]
          have HB5 := hide hb5
          clear hw5 hb5
          refine wp_region_chain (fun U => U.cell? ⟨k, 1, none⟩ = some (.slice A0 m c0) ∧ U.cell? ⟨nb, 0, none⟩ = some (.int .i64 xa) ∧ U.cell? ⟨nb, 1, none⟩ = some (.string xr) ∧ U.cell? ⟨nb, 2, none⟩ = some (.int .i64 xk) ∧ U.cell? ⟨nb, 3, none⟩ = some (.int .i64 xv)) 7 (by as_aux_lemma => kernel_rfl) (N := 11) (by as_aux_lemma => kernel_rfl) ?_; intro hsh
          have HS := HS0.out w5.drew (below_drewN HB5.out 1)
          have HSA := HS0.out (w5.drew.alloc (.cells #[.int .i64 xa, .string xr, .int .i64 xk, .int .i64 xv] 51)) ((below_drewN HB5.out 1).alloc (by have := HB5.out.size; exact this) _)
          refine wpAnyC_take0 (i := 0) (k := 7) (v := ?_) (d := some 63) rfl (by rfl) (by as_aux_lemma => kernel_rfl) (by as_aux_lemma => kernel_rfl) (by as_aux_lemma => kernel_rfl) hsh (by decide) (by intro _ _ _ h; exact h) (by assumption) (Or.inl ⟨by rfl, ?hy⟩) ?_; (case hy => (intro W _; go_simp; (try with_reducible rfl))); clear hsh; intro hsh
          refine wpAnyC_take0 (i := 1) (k := 7) (v := ?_) (d := some 64) rfl (by rfl) (by as_aux_lemma => kernel_rfl) (by as_aux_lemma => kernel_rfl) (by as_aux_lemma => kernel_rfl) hsh (by decide) (by intro _ _ _ h; exact h) (by assumption) (Or.inl ⟨by rfl, ?hy⟩) ?_; (case hy => (intro W _; go_simp; (try with_reducible rfl))); clear hsh; intro hsh
          refine wpAnyC_take0 (i := 2) (k := 7) (v := ?_) (d := some 65) rfl (by rfl) (by as_aux_lemma => kernel_rfl) (by as_aux_lemma => kernel_rfl) (by as_aux_lemma => kernel_rfl) hsh (by decide) (by intro _ _ _ h; exact h) (by assumption) (Or.inl ⟨by rfl, ?hy⟩) ?_; (case hy => (intro W _; go_simp; (try with_reducible rfl))); clear hsh; intro hsh
          refine wpAnyC_take0 (i := 3) (k := 7) (v := ?_) (d := some 66) rfl (by rfl) (by as_aux_lemma => kernel_rfl) (by as_aux_lemma => kernel_rfl) (by as_aux_lemma => kernel_rfl) hsh (by decide) (by intro _ _ _ h; exact h) (by assumption) (Or.inl ⟨by rfl, ?hy⟩) ?_; (case hy => (intro W _; go_simp; (try with_reducible rfl))); clear hsh; intro hsh
          refine wpAnyC_take (i := 4) (k := 7) (f := 40) (v := ?_) (d := some 67) rfl (by rfl) (by as_aux_lemma => kernel_rfl) (by as_aux_lemma => kernel_rfl) (by as_aux_lemma => kernel_rfl) hsh (by decide) (by as_aux_lemma => kernel_rfl) (by intro _ _ _ h; exact h) (by assumption) (Or.inl ⟨by rfl, ?hy⟩) ?_; (case hy => (rintro W ⟨a1, a2, a3, a4, a5⟩; go_simp; (try with_reducible rfl))); clear hsh; intro hsh
          refine wpAnyC_take (i := 5) (k := 7) (f := 40) (v := ?_) (d := some 68) rfl (by rfl) (by as_aux_lemma => kernel_rfl) (by as_aux_lemma => kernel_rfl) (by as_aux_lemma => kernel_rfl) hsh (by decide) (by as_aux_lemma => kernel_rfl) (by intro _ _ _ h; exact h) (by assumption) (Or.inl ⟨by rfl, ?hy⟩) ?_; (case hy => (rintro W ⟨a1, a2, a3, a4, a5⟩; go_simp; (try with_reducible rfl))); clear hsh; intro hsh
          refine wpAnyC_ready (rs := [6]) (by as_aux_lemma => kernel_rfl) (by simp) ?_; refine AllC.cons (i := 6) rfl (by as_aux_lemma => kernel_rfl) hsh (fun K hK => ?_) AllC.nil
          go_simp
          refine hK _ _ (fun _ => HSA) ?_
          clear hK K hsh
          intro hsh
          refine wpAnyC_tail (by as_aux_lemma => kernel_rfl) (by simp) (by as_aux_lemma => kernel_rfl) ?_; simp only [List.drop_succ_cons, List.drop_zero]; clear hsh
          clear HS HS0 HSA
          go_simp
          have HOWA := hide (show (w5.drew.alloc (.cells #[.int .i64 xa, .string xr, .int .i64 xk, .int .i64 xv] 51)).ownsRow B 51 4 (.slice A0 m c0) m xs from (own_below HR4.out (below_drewN HB5.out 1)).alloc _)
          go_wp2_with (first | (at_builtin; refine wpList_append_own_at _ rfl (.tmp 67) (.tmp 69) 32 rfl B 51 i0 (.agg #[.int .i64 0, .string ByteArray.empty, .int .i64 0, .int .i64 0]) 4 40 Tryd.underlying32 hi0 iz0 iz1 iz2 rfl (by decide) (.slice A0 m c0) m xs (by first | rfl | go_simp) HOWA.out ⟨w5.heap.size, 0, none⟩ 1 1 [.int .i64 xa, .string xr, .int .i64 xk, .int .i64 xv] (by first | rfl | go_simp) rfl (cells_at w5.drew [.int .i64 xa, .string xr, .int .i64 xk, .int .i64 xv] _ _ rfl) (by intro u hu; simp at hu; rcases hu with rfl | rfl | rfl | rfl <;> rfl) (by unfold maxLen; omega) (by omega) (by simp; omega) ?_; intro v8 w8 hown8 hg8 _ hat8; obtain ⟨A8, c8, rfl⟩ := own_sl hown8; have HAL := hide (show ∀ j o, wa.heap[j]? = some o → (Value.slice A0 m c0).ownBlock ≠ some j → w8.heap[j]? = some o from fun j o e ne => (hg8.block j (by have := lt_of_block e; simp; omega) (fun e2 => ne e2.symm)).trans (block_below e ((below_drewN HB5.out 1).alloc (by have := HB5.out.size; exact this) _))); have HOWN8 := hide hown8; have HAT8 := hide hat8; have HB8 := hide (show Below B wa w8 from (((below_drewN HB5.out 1).mono hB4).alloc (by simp; omega) _).grown hg8 (by simp; omega) (fun j hj => (HOWA.out.lt j hj).1)); have hc8 := HAL.out k _ HC4.out hrk; have HC8 := hide hc8; have q1 : w8.cell? ⟨k, 1, none⟩ = some (.slice A0 m c0) := (block_cell hc8 1).trans rfl; have q2 : w8.frozen? ⟨k, 1, none⟩ = false := block_free hc8 1; clear hown8 hg8 hat8 hc8))
          obtain ⟨w9, hw9⟩ : ∃ w9, w8.setCell ⟨k, 1, none⟩ (.slice A8 (m + 1) c8) = w9 := ⟨_, rfl⟩
          have HC9 := hide (show w9.heap[k]? = some (.cells #[.int .i64 g, .slice A8 (m + 1) c8, .int .i64 tr, .int .i64 nx] 41 (0, 0)) from hw9 ▸ block_set HC8.out _)
          have HS9 := hide (show ∀ j o, wa.heap[j]? = some o → (Value.slice A0 m c0).ownBlock ≠ some j → j ≠ k → w9.heap[j]? = some o from fun j o e ne nk => hw9 ▸ block_set_other (HAL.out j o e ne) ⟨k, 1, none⟩ _ (show j ≠ k from nk))
          have HBX9 := hide (HS9.out p _ HBX4.out hrp hpk)
          have HN9 := hide (HS9.out nb _ HN4.out hrn hnk)
          have HB9 := hide (show Below B wa w9 from hw9 ▸ below_set HB8.out hBk _)
          have HR9 := hide (show w9.ownsRow B 51 4 (.slice A8 (m + 1) c8) (m + 1) (xs ++ [.int .i64 xa, .string xr, .int .i64 xk, .int .i64 xv]) from own_stayC HOWN8.out fun j o e eo => hw9 ▸ block_set_other eo ⟨k, 1, none⟩ _ (fun (e2 : j = k) => own_other' HOWN8.out HC8.out (by decide) (by rw [e, e2])))
          rw [hw9]
          clear hw9 q1 q2
          have y1 : w9.cell? ⟨k, 1, none⟩ = some (.slice A8 (m + 1) c8) := (block_cell HC9.out 1).trans rfl
          have y0 : w9.cell? ⟨p, 0, none⟩ = some (.int .i64 (P.mo : Int)) := (block_cell HBX9.out 0).trans rfl
          by_cases hfull : m + 1 = P.mo
          · have hf1 : (((m : Int) + 1) == (P.mo : Int)) = true := by simp; omega
            have hf2 : (m : Int) + 1 = (P.mo : Int) := by omega
            have HFU := hide hfull
            have hmo := hide hf2
            go_wp2_with (fail)
            go_quiet (fail)
            have hb10 : Below w9.heap.size w9 (w9.drewN nq) := below_drewN (Below.refl _ _) nq
            obtain ⟨w10, hw10⟩ : ∃ w10, w9.drewN nq = w10 := ⟨_, rfl⟩
            rw [hw10] at hb10 ⊢
            have HBX10 := hide (block_below HBX9.out hb10)
            have HC10 := hide (block_below HC9.out hb10)
            have HN10 := hide (block_below HN9.out hb10)
            have HR10 := hide (own_below HR9.out hb10)
            have HS10 := hide (show ∀ j o, wa.heap[j]? = some o → (Value.slice A0 m c0).ownBlock ≠ some j → j ≠ k → w10.heap[j]? = some o from fun j o e ne nk => block_below (HS9.out j o e ne nk) hb10)
            have HB10 := hide (show Below B wa w10 from HB9.out.trans (hb10.mono (by have := HB9.out.size; omega)))
            clear hb10 hw10 y0 y1
            have f5 : w10.frozen? ⟨p, 5, none⟩ = false := block_free HBX10.out 5
            have g5 : w10.cell? ⟨p, 5, none⟩ = some (.int .i64 g) := (block_cell HBX10.out 5).trans rfl
            have HBX11 := hide (show (w10.setCell ⟨p, 5, none⟩ (.int .i64 0)).heap[p]? = some (.cells #[.int .i64 (P.mo : Int), .int .i64 P.wa, .int .i64 P.ag, .int .i64 P.tr, .map (some mb), .int .i64 0, lv, .int .i64 LV, .int .i64 pv, .int .i64 s.due] 57 (0, 0)) from block_set HBX10.out (i := 5) _)
            have HN11 := hide (show (w10.setCell ⟨p, 5, none⟩ (.int .i64 0)).heap[nb]? = _ from block_set_other HN10.out ⟨p, 5, none⟩ _ (show nb ≠ p from hnp))
            have e8 : (w10.setCell ⟨p, 5, none⟩ (.int .i64 0)).cell? ⟨nb, 0, none⟩ = some (.int .i64 xa) := (block_cell HN11.out 0).trans rfl
            have f8 : (w10.setCell ⟨p, 5, none⟩ (.int .i64 0)).frozen? ⟨p, 8, none⟩ = false := block_free HBX11.out 8
            have g8 : (w10.setCell ⟨p, 5, none⟩ (.int .i64 0)).cell? ⟨p, 8, none⟩ = some (.int .i64 pv) := (block_cell HBX11.out 8).trans rfl
            have HBX12 := hide (show ((w10.setCell ⟨p, 5, none⟩ (.int .i64 0)).setCell ⟨p, 8, none⟩ (.int .i64 xa)).heap[p]? = some (.cells #[.int .i64 (P.mo : Int), .int .i64 P.wa, .int .i64 P.ag, .int .i64 P.tr, .map (some mb), .int .i64 0, lv, .int .i64 LV, .int .i64 xa, .int .i64 s.due] 57 (0, 0)) from block_set HBX11.out (i := 8) _)
            have HS12 := hide (show ∀ j o, w10.heap[j]? = some o → j ≠ p → ((w10.setCell ⟨p, 5, none⟩ (.int .i64 0)).setCell ⟨p, 8, none⟩ (.int .i64 xa)).heap[j]? = some o from fun j o e np => block_set_other (block_set_other e ⟨p, 5, none⟩ _ (show j ≠ p from np)) ⟨p, 8, none⟩ _ (show j ≠ p from np))
            have HB12 := hide (show Below B wa ((w10.setCell ⟨p, 5, none⟩ (.int .i64 0)).setCell ⟨p, 8, none⟩ (.int .i64 xa)) from below_set (below_set HB10.out hBp _) hBp _)
            have HREL := hide (HEND.out ((w10.setCell ⟨p, 5, none⟩ (.int .i64 0)).setCell ⟨p, 8, none⟩ (.int .i64 xa)) (.slice A8 (m + 1) c8) 0 (by rw [if_pos HFU.out]) HBX12.out (HS12.out k _ HC10.out hpk.symm) (own_stayC HR10.out fun j o e eo => HS12.out j o eo (fun e2 => own_other' HR10.out HBX10.out (by decide) (by rw [e, e2]))) (by
              rcases HAT8.out with h9 | h9
              · exact .inl h9
              · exact .inr ⟨_, by simp; omega, h9⟩) (fun j o e ne nk np => HS12.out j o (HS10.out j o e ne nk) np) HB12.out)
            go_wp2_with (fail)
            go_roundw
            case rel => exact ⟨j + 1, hlt, by go_num, HREL.out⟩
            case measure => simp [intOf]; omega
          · have hf1 : (((m : Int) + 1) == (P.mo : Int)) = false := by rw [beq_eq_false_iff_ne]; omega
            have hf2 : ¬ (m : Int) + 1 = (P.mo : Int) := by omega
            have HFU := hide hfull

            go_wp2_with (fail)
            go_quiet (fail)
            have hb10 : Below w9.heap.size w9 (w9.drewN nq) := below_drewN (Below.refl _ _) nq
            obtain ⟨w10, hw10⟩ : ∃ w10, w9.drewN nq = w10 := ⟨_, rfl⟩
            rw [hw10] at hb10 ⊢
            have HBX10 := hide (block_below HBX9.out hb10)
            have HC10 := hide (block_below HC9.out hb10)
            have HN10 := hide (block_below HN9.out hb10)
            have HR10 := hide (own_below HR9.out hb10)
            have HS10 := hide (show ∀ j o, wa.heap[j]? = some o → (Value.slice A0 m c0).ownBlock ≠ some j → j ≠ k → w10.heap[j]? = some o from fun j o e ne nk => block_below (HS9.out j o e ne nk) hb10)
            have HB10 := hide (show Below B wa w10 from HB9.out.trans (hb10.mono (by have := HB9.out.size; omega)))
            clear hb10 hw10 y0 y1
            have HN11 := hide (HN10.out)
            have e8 : w10.cell? ⟨nb, 0, none⟩ = some (.int .i64 xa) := (block_cell HN11.out 0).trans rfl
            have f8 : w10.frozen? ⟨p, 8, none⟩ = false := block_free HBX10.out 8
            have g8 : w10.cell? ⟨p, 8, none⟩ = some (.int .i64 pv) := (block_cell HBX10.out 8).trans rfl
            have HBX12 := hide (show (w10.setCell ⟨p, 8, none⟩ (.int .i64 xa)).heap[p]? = some (.cells #[.int .i64 (P.mo : Int), .int .i64 P.wa, .int .i64 P.ag, .int .i64 P.tr, .map (some mb), .int .i64 g, lv, .int .i64 LV, .int .i64 xa, .int .i64 s.due] 57 (0, 0)) from block_set HBX10.out (i := 8) _)
            have HS12 := hide (show ∀ j o, w10.heap[j]? = some o → j ≠ p → (w10.setCell ⟨p, 8, none⟩ (.int .i64 xa)).heap[j]? = some o from fun j o e np => block_set_other (e) ⟨p, 8, none⟩ _ (show j ≠ p from np))
            have HB12 := hide (show Below B wa (w10.setCell ⟨p, 8, none⟩ (.int .i64 xa)) from below_set (HB10.out) hBp _)
            have HREL := hide (HEND.out (w10.setCell ⟨p, 8, none⟩ (.int .i64 xa)) (.slice A8 (m + 1) c8) g (by rw [if_neg HFU.out]) HBX12.out (HS12.out k _ HC10.out hpk.symm) (own_stayC HR10.out fun j o e eo => HS12.out j o eo (fun e2 => own_other' HR10.out HBX10.out (by decide) (by rw [e, e2]))) (by
              rcases HAT8.out with h9 | h9
              · exact .inl h9
              · exact .inr ⟨_, by simp; omega, h9⟩) (fun j o e ne nk np => HS12.out j o (HS10.out j o e ne nk) np) HB12.out)
            go_wp2_with (fail)
            go_roundw
            case rel => exact ⟨j + 1, hlt, by go_num, HREL.out⟩
            case measure => simp [intOf]; omega
      · obtain rfl : j = n := by omega
        have hlt' : ¬ (j : Int) < (j : Int) := by omega
        have HXE := hide (show TX B P p (putS P.mo s l) (N + j) F w wr from by
          have hkz := hkp.be.size
          refine ⟨hkp, fun k => (F k ∨ w.heap.size ≤ k) ∧ k < wr.heap.size, ⟨HOKE.out, mb, mn, D, is, gk, gv, lv, by rw [HST.out]; exact hbp, hmnj, fun k hk => ?_, fun k hk => ?_⟩, fun k hk => hk.1⟩
          · rw [HST.out] at hk
            exact ⟨hFj k hk, hbp.lt hk⟩
          · refine ⟨?_, hk.2⟩
            rcases hk.1 with h9 | h9
            · exact (HFL.out k h9).1
            · omega)
        clear hbp hmnj hkp hFj
        go_wp2_with (fail)
        go_ret
        exact ⟨rfl, HXE.out⟩
  · have hs0 : putS P.mo s l = s := by unfold putS; rw [if_pos he]
    have HXE := hide (fun (w1 : World) (hb : Below w.heap.size w w1) => show TX B P p (putS P.mo s l) (N + n) F w w1 from by rw [hs0]; exact (HX0.out.more (Nat.le_add_right N n)).stay hb HBW)
    obtain ⟨y, hy⟩ : ∃ y, putE P.mo s l = y := ⟨_, rfl⟩
    rw [hy] at CK he ⊢
    have he' : (y == 0) = false := by simpa using he
    clear hy hs0 hok hbp hF hFl hs hsep hfit
    go_enter Tryd.func8, Tryd.ntmps8
    go_wp2_with (first | (go_at_call 26; refine CK.out.mono ?_; rintro e w1 ⟨rfl, hb1⟩; have HXF := hide (HXE.out w1 hb1); clear hb1))
    go_ret
    exact ⟨rfl, HXF.out⟩
end
end Go.Proofs.YtnkccilgbhogbaaDoor
