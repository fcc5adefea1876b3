/- A box of posts: what is due. -/
import Derived.Test.YtnkccilgbhogbaaDoorBxE
namespace Go.Proofs.YtnkccilgbhogbaaDoor
open Go.RowKit Go.Maps
open Bk (ptE ptV MapK Got ptE_mk wpList_lookup_some wpList_lookup_none)
set_option linter.unusedVariables false
set_option linter.unusedSimpArgs false
/-- What Due answers, and leaves. -/
def DuA (B : Nat) (P : Pln) (p : Nat) (s : Bx) (N : Nat) (F : Nat → Prop) (t : Int) (e : Ending) (w w' : World) : Prop :=
  TX B P p (dueS P.wa s t) N F w w' ∧ ((timE s.due t ≠ 0 ∧ e = .returned (.tuple #[.slice none 0 0, .int .i64 (timE s.due t)])) ∨ (timE s.due t = 0 ∧ ∃ v es, e = .returned (.tuple #[v, .int .i64 0]) ∧ PoIn w.heap.size w' v es ∧ es.map Po.of = poL (dueL (dueS P.wa s t) t)))
section
variable {B p N : Nat} {P : Pln} {s : Bx} {F : Nat → Prop} {w : World}
theorem FB_same {mb : Nat} {s s' : Bx} {is : List Int} {gk : Int → Nat} {gv : Int → Value} {lv : Value} (e : SamePs s.ps s'.ps) : ∀ k, FB p mb s' is gk gv lv k → FB p mb s is gk gv lv k := by
  rintro k (rfl | rfl | ⟨no, hi, rfl⟩ | ⟨no, q, hq, hg, e2⟩ | e2)
  · exact .inl rfl
  · exact .inr (.inl rfl)
  · exact .inr (.inr (.inl ⟨no, hi, rfl⟩))
  · obtain ⟨q0, h1, h2⟩ := (e.no no).2 q hq
    exact .inr (.inr (.inr (.inl ⟨no, q0, h1, by rw [← h2.2.2.2.1]; exact hg, e2⟩)))
  · exact .inr (.inr (.inr (.inr e2)))
theorem gat_at {ps : List Pst} {q : Pst} (h : gat ps = some q) : atNo ps (ps.length : Int) = some q ∧ gatI ps = (ps.length : Int) := by
  obtain ⟨h1, h2, h3⟩ := gat_some h
  refine ⟨by unfold atNo; rw [if_neg (by omega), show ((ps.length : Int) - 1).toNat = ps.length - 1 by omega]; exact h1, by unfold gatI; rw [h]⟩
set_option maxRecDepth 100000 in
set_option maxHeartbeats 16000000 in
theorem Due_any (hP : P.ok) (h : BX B P p s N F w) (t : Int) (hwf : (Lit.int .i64 t).wf = true) (hnl : s.ps.length ≤ 1000000) :
    Calls Tryd.prog 10 #[.pointer (some ⟨p, 0, none⟩), .int .i64 t] w fun e w' => DuA B P p s N F t e w w' := by
  have HX0 := hide h
  obtain ⟨hok, mb, mn, D, is, gk, gv, lv, hbp, hmn, hF, hFl⟩ := h
  have HBW : B ≤ w.heap.size := by have := hbp.lp; have := lt_of_block hbp.box; omega
  have hpl := lt_of_block hbp.box
  obtain ⟨wa, hwa⟩ : ∃ wa, (w.alloc (.cells #[.pointer (some ⟨p, 0, none⟩)] 25)).alloc (.cells #[.int .i64 t] 3) = wa := ⟨_, rfl⟩
  have hsz : (w.alloc (.cells #[.pointer (some ⟨p, 0, none⟩)] 25)).heap.size = w.heap.size + 1 := by simp
  have hba : Below w.heap.size w wa := hwa ▸ ((Below.refl _ _).alloc (Nat.le_refl _) _).alloc (by rw [hsz]; omega) _
  have hm1 : wa.heap[w.heap.size]? = some (.cells #[.pointer (some ⟨p, 0, none⟩)] 25 (0, 0)) := hwa ▸ block_below (heap_alloc_new w _) ((Below.refl _ _).alloc (Nat.le_refl _) _)
  have hm2 : wa.heap[w.heap.size + 1]? = some (.cells #[.int .i64 t] 3 (0, 0)) := by rw [← hwa, ← hsz]; exact heap_alloc_new _ _
  have hza : wa.heap.size = w.heap.size + 2 := by rw [← hwa]; simp
  have hbpa := hbp.below hba
  have CM := hide (checkMoment_any hbpa t)
  obtain ⟨k1, hk1⟩ : ∃ k1, w.heap.size = k1 := ⟨_, rfl⟩
  obtain ⟨k2, hk2⟩ : ∃ k2, k1 + 1 = k2 := ⟨_, rfl⟩
  have a1 : wa.cell? ⟨k1, 0, none⟩ = some (.pointer (some ⟨p, 0, none⟩)) := by rw [← hk1]; exact (block_cell hm1 0).trans rfl
  have a2 : wa.cell? ⟨k2, 0, none⟩ = some (.int .i64 t) := by rw [← hk2, ← hk1]; exact (block_cell hm2 0).trans rfl
  have HWA := hide hwa
  have HK1 := hide hk1
  have HK2 := hide hk2
  by_cases ht : timE s.due t = 0
  · have HM1 := hide hm1
    have HM2 := hide hm2
    obtain ⟨x0, x1, x2, x3, x4, x5, x6, x7, x8, x9⟩ := hbpa.cells
    -- the moment is laid down
    obtain ⟨s1, hs1⟩ : ∃ s1 : Bx, { s with due := t } = s1 := ⟨_, rfl⟩
    obtain ⟨w1, hw1⟩ : ∃ w1, wa.setCell ⟨p, 9, none⟩ (.int .i64 t) = w1 := ⟨_, rfl⟩
    have hbp1 : BP B P p mb s1 mn D is gk gv lv w1 := by
      rw [← hw1, ← hs1]
      exact hbpa.turn (SamePs.refl _) rfl (block_set hbpa.box (i := 9) (.int .i64 t)) (fun k o e ne => block_set_other e ⟨p, 9, none⟩ _ (fun (e2 : k = p) => ne e2))
    have hp1 : p ≠ k1 := by omega
    have hp2 : p ≠ k2 := by omega
    have f9 : wa.frozen? ⟨p, 9, none⟩ = false := block_free hbpa.box 9
    have e1 : w1.cell? ⟨k1, 0, none⟩ = some (.pointer (some ⟨p, 0, none⟩)) := by rw [← hw1, ← hk1]; exact (block_cell (block_set_other hm1 ⟨p, 9, none⟩ _ (show w.heap.size ≠ p by omega)) 0).trans rfl
    have e2 : w1.cell? ⟨k2, 0, none⟩ = some (.int .i64 t) := by rw [← hw1, ← hk2, ← hk1]; exact (block_cell (block_set_other hm2 ⟨p, 9, none⟩ _ (show w.heap.size + 1 ≠ p by omega)) 0).trans rfl
    have hok1 : BxOk P s1 := hs1 ▸ ⟨hok.ps, hok.op, hok.p1, hok.p2, (timE_zero ht).1.1, (timE_zero ht).1.2, hok.lo⟩
    have hz1 : w1.heap.size = wa.heap.size := by rw [← hw1]; exact World.size_setCell _ _ _
    have HW1 := hide hw1
    have hb1 : Below p w w1 := hw1 ▸ below_set (hba.mono (by omega)) (Nat.le_refl _) _
    obtain ⟨g, hg⟩ : ∃ g, gatI s1.ps = g := ⟨_, rfl⟩
    obtain ⟨y0, y1, y2, y3, y4, y5, y6, y7, y8, y9⟩ := hbp1.cells
    rw [hg] at y5
    have HE1 := hide e1
    have HE2 := hide e2
    have HY4 := hide y4
    have HY5 := hide y5
    have HOW := hide (show w1.drew.ownsMap Tryd.prog 3 ptE mb mn D from map_stayC hbp1.map (fun o e => e))
    have hpl1 : p < w1.heap.size := by omega
    have hkl1 : k1 < w1.heap.size := by omega
    have hkl2 : k2 < w1.heap.size := by omega
    rw [ht] at CM
    have HS0 := hide (show ∀ U, Below w1.heap.size w1 U → (fun U => U.cell? ⟨k1, 0, none⟩ = some (.pointer (some ⟨p, 0, none⟩)) ∧ U.cell? ⟨p, 4, none⟩ = some (.map (some mb)) ∧ U.cell? ⟨p, 5, none⟩ = some (.int .i64 g)) U from fun U hb => ⟨(hb.cell (p := ⟨k1, 0, none⟩) (by show k1 < _; omega)).trans HE1.out, (hb.cell (p := ⟨p, 4, none⟩) (by show p < _; omega)).trans HY4.out, (hb.cell (p := ⟨p, 5, none⟩) (by show p < _; omega)).trans HY5.out⟩)
    cases hgt : gat s.ps with
    | none =>
      have hds : dueS P.wa s t = s1 := by unfold dueS clP; rw [if_neg (by simp [ht]), hgt, ← hs1]
      have hg0 : g = 0 := by rw [← hg, ← hs1]; unfold gatI; rw [hgt]
      subst hg0
      have HMP := hide (hbp1.mp.out 0 (fun hi => by obtain ⟨q, hq, _⟩ := (hbp1.mem 0).1 hi; have := (atNo_some hq).1; omega))
      have CP := hide (fun W (hb : Below w1.heap.size w1 W) => postsD_any (k1 := k1) (k2 := k2) (t := t) hP hok1 (hbp1.below hb) (Nat.lt_of_lt_of_le hkl1 hb.size) (Nat.lt_of_lt_of_le hkl2 hb.size) ((hb.cell (p := ⟨k1, 0, none⟩) hkl1).trans HE1.out) ((hb.cell (p := ⟨k2, 0, none⟩) hkl2).trans HE2.out))
      have HEND := hide (fun (w' : World) (hb : Below w1.heap.size w1 w') => show TX B P p (dueS P.wa s t) N F w w' from by
        rw [hds]
        have hk : Keep B F w w1 := ⟨hb1.mono hbp.lp, fun k o e ne => HW1.out ▸ block_set_other (block_below e hba) ⟨p, 9, none⟩ _ (fun (e2 : k = p) => ne (hF k (.inl e2)))⟩
        refine ⟨hk.trans (Keep.of_below hb (by omega)), F, ⟨hok1, mb, mn, D, is, gk, gv, lv, hbp1.below hb, hmn, fun k hk => hF k (FB_same (s := s) (by rw [← hs1]; exact SamePs.refl _) k hk), fun k hk => ⟨(hFl k hk).1, ?_⟩⟩, fun k hk => .inl hk⟩
        have := (hFl k hk).2
        have := hb.size
        omega)
      have HT := hide ht
      have HDS := hide hds
      clear hgt hg hds hbp hbpa hbp1 hok hok1 hF hFl hm1 hm2 hba hwa hk1 hk2 hsz hs1 hw1 e1 e2 y0 y1 y2 y3 y4 y5 y6 y7 y8 y9 hb1 ht
      go_enter Tryd.func10, Tryd.ntmps10
      go_wp2_with (fail)
      rw [HWA.out, HK1.out, HK2.out]
      go_wp2_with (first | (go_at_call 32; refine CM.out.mono ?_; rintro e w1 ⟨rfl, hh⟩; obtain rfl := hh))
      rw [HW1.out]
      refine wp_region_chain (fun U => U.cell? ⟨k1, 0, none⟩ = some (.pointer (some ⟨p, 0, none⟩)) ∧ U.cell? ⟨p, 4, none⟩ = some (.map (some mb)) ∧ U.cell? ⟨p, 5, none⟩ = some (.int .i64 0)) 8 (by as_aux_lemma => kernel_rfl) (N := 10) (by as_aux_lemma => kernel_rfl) ?_; intro hsh
      have HS := HS0.out w1.drew (below_drewN (Below.refl _ _) 1)
      refine wpAnyC_take (i := 0) (k := 8) (f := 40) (v := ?_) (d := some 18) rfl (by rfl) (by as_aux_lemma => kernel_rfl) (by as_aux_lemma => kernel_rfl) (by as_aux_lemma => kernel_rfl) hsh (by decide) (by as_aux_lemma => kernel_rfl) (by intro _ _ _ h; exact h) (by assumption) (Or.inl ⟨by rfl, ?hy⟩) ?_; (case hy => (rintro W ⟨b1, b2, b3⟩; go_simp; (try with_reducible rfl))); clear hsh; intro hsh
      refine wpAnyC_take0 (i := 1) (k := 8) (v := ?_) (d := some 19) rfl (by rfl) (by as_aux_lemma => kernel_rfl) (by as_aux_lemma => kernel_rfl) (by as_aux_lemma => kernel_rfl) hsh (by decide) (by intro _ _ _ h; exact h) (by assumption) (Or.inl ⟨by rfl, ?hy⟩) ?_; (case hy => (intro W _; go_simp; (try with_reducible rfl))); clear hsh; intro hsh
      refine wpAnyC_take0 (i := 2) (k := 8) (v := ?_) (d := some 20) rfl (by rfl) (by as_aux_lemma => kernel_rfl) (by as_aux_lemma => kernel_rfl) (by as_aux_lemma => kernel_rfl) hsh (by decide) (by intro _ _ _ h; exact h) (by assumption) (Or.inl ⟨by rfl, ?hy⟩) ?_; (case hy => (intro W _; go_simp; (try with_reducible rfl))); clear hsh; intro hsh
      refine wpAnyC_take (i := 3) (k := 8) (f := 40) (v := ?_) (d := some 21) rfl (by rfl) (by as_aux_lemma => kernel_rfl) (by as_aux_lemma => kernel_rfl) (by as_aux_lemma => kernel_rfl) hsh (by decide) (by as_aux_lemma => kernel_rfl) (by intro _ _ _ h; exact h) (by assumption) (Or.inl ⟨by rfl, ?hy⟩) ?_; (case hy => (rintro W ⟨b1, b2, b3⟩; go_simp; (try with_reducible rfl))); clear hsh; intro hsh
      refine wpAnyC_take (i := 4) (k := 8) (f := 40) (v := ?_) (d := some 22) rfl (by rfl) (by as_aux_lemma => kernel_rfl) (by as_aux_lemma => kernel_rfl) (by as_aux_lemma => kernel_rfl) hsh (by decide) (by as_aux_lemma => kernel_rfl) (by intro _ _ _ h; exact h) (by assumption) (Or.inl ⟨by rfl, ?hy⟩) ?_; (case hy => (rintro W ⟨b1, b2, b3⟩; go_simp; (try with_reducible rfl))); clear hsh; intro hsh
      refine wpAnyC_take0 (i := 5) (k := 8) (v := ?_) (d := some 23) rfl (by rfl) (by as_aux_lemma => kernel_rfl) (by as_aux_lemma => kernel_rfl) (by as_aux_lemma => kernel_rfl) hsh (by decide) (by intro _ _ _ h; exact h) (by assumption) (Or.inl ⟨by rfl, ?hy⟩) ?_; (case hy => (intro W _; go_simp; (try with_reducible rfl))); clear hsh; intro hsh
      refine wpAnyC_take0 (i := 6) (k := 8) (v := ?_) (d := some 24) rfl (by rfl) (by as_aux_lemma => kernel_rfl) (by as_aux_lemma => kernel_rfl) (by as_aux_lemma => kernel_rfl) hsh (by decide) (by intro _ _ _ h; exact h) (by assumption) (Or.inl ⟨by rfl, ?hy⟩) ?_; (case hy => (intro W _; go_simp; (try with_reducible rfl))); clear hsh; intro hsh
      refine wpAnyC_take (i := 7) (k := 8) (f := 40) (v := ?_) (d := some 25) rfl (by rfl) (by as_aux_lemma => kernel_rfl) (by as_aux_lemma => kernel_rfl) (by as_aux_lemma => kernel_rfl) hsh (by decide) (by as_aux_lemma => kernel_rfl) (by intro _ _ _ h; exact h) (by assumption) (Or.inl ⟨by rfl, ?hy⟩) ?_; (case hy => (rintro W ⟨b1, b2, b3⟩; go_simp; (try with_reducible rfl))); clear hsh; intro hsh
      refine wpAnyC_tail (by as_aux_lemma => kernel_rfl) (by simp) (by as_aux_lemma => kernel_rfl) ?_; simp only [List.drop_succ_cons, List.drop_zero]; clear hsh
      clear HS
      go_simp
      go_wp2_with (first | (at_lookup; refine wpList_lookup_none _ rfl _ _ 55 rfl 3 63 law_i Tryd.underlying55 (zero_p _) mb mn D rfl HOW.out (.int .i64 0) _ rfl (key_w (by decide)) HMP.out ?_) | (go_quiet (fail); have hb2 : Below w1.heap.size w1 (w1.drew.drewN nq) := below_drewN (Below.refl _ _).drew nq; obtain ⟨w2, hw2⟩ : ∃ w2, w1.drew.drewN nq = w2 := ⟨_, rfl⟩; rw [hw2] at hb2 ⊢; have HB2 := hide hb2; have z1 : w2.cell? ⟨k1, 0, none⟩ = some (.pointer (some ⟨p, 0, none⟩)) := (hb2.cell (p := ⟨k1, 0, none⟩) hkl1).trans HE1.out; clear hb2 hw2) | (go_at_call 33; refine (CP.out w2 HB2.out).mono ?_; rintro e w3 ⟨v, es, rfl, hb3, hpo, heq⟩; have HB3 := hide (HB2.out.trans (hb3.mono HB2.out.size)); have HPO := hide (hpo.base (lo' := w.heap.size) (by have := HB2.out.size; omega)); have HEQ := hide heq; clear hb3 hpo heq))
      go_ret2
      exact ⟨HEND.out _ HB3.out, .inr ⟨HT.out, v, es, rfl, HPO.out, by rw [HEQ.out, HDS.out]; rfl⟩⟩
    | some q =>
      obtain ⟨hqa, hqg⟩ := gat_at hgt
      obtain ⟨hq1, hq2, hq3⟩ := gat_some hgt
      have hqm := List.mem_of_getElem? hq1
      obtain ⟨hqo, _, _⟩ := hok.ps.un q hqm hq2
      have hge : g = (s.ps.length : Int) := by rw [← hg, ← hs1]; exact hqg
      rw [← hge] at hqa
      have hps1 : s1.ps = s.ps := by rw [← hs1]
      have hin : g ∈ is := (hbp1.mem g).2 ⟨q, by rw [hps1]; exact hqa, hqo⟩
      have hcl := hbp1.cell g q hin (by rw [hps1]; exact hqa)
      have hrw := hbp1.row g q (by rw [hps1]; exact hqa) (op_not hqo).1
      obtain ⟨k, hk⟩ : ∃ k, gk g = k := ⟨_, rfl⟩
      have HMP := hide (hbp1.mp.in_ g hin)
      rw [hk] at hcl HMP
      obtain ⟨A, cc, hv⟩ := own_sl hrw
      rw [hv] at hrw hcl
      obtain ⟨n0, rest, hnts⟩ : ∃ n0 rest, q.nts = n0 :: rest := by
        have := (hok.ps.len q hqm).1
        cases hh : q.nts with
        | nil => rw [hh] at this; simp at this
        | cons a b => exact ⟨a, b, rfl⟩
      have hhd : headA q = n0.at_ := by unfold headA; rw [hnts]
      have hat0 := hok.ps.at_ q hqm n0 (by rw [hnts]; simp)
      obtain ⟨nn, hnn⟩ : ∃ nn, q.nts.length = nn := ⟨_, rfl⟩
      have hn0 : 0 < nn := by rw [← hnn, hnts]; simp
      obtain ⟨rb, ro, hA, hrb, hr0⟩ : ∃ rb ro, A = some ⟨rb, ro, none⟩ ∧ rb < w1.heap.size ∧ w1.cell? ⟨rb, ro, none⟩ = some (.int .i64 n0.at_) := by
        obtain ⟨A', c', e9, s9, _⟩ := sl_of_own (f := Nt.cs) (fun _ => rfl) hnn (by rw [hnn] at hrw; exact hrw)
        cases e9
        obtain ⟨b, o, x, h1, h2, h3, h4⟩ := s9.at_ hn0
        rw [hnts] at h3
        cases h3
        exact ⟨b, o, h1, h2, by have := h4 0 _ rfl; simpa using this⟩
      subst hA
      rw [hnn] at hcl
      have kl := lt_of_block hcl
      have c1 : w1.cell? ⟨k, 1, none⟩ = some (.slice (some ⟨rb, ro, none⟩) nn cc) := (block_cell hcl 1).trans rfl
      have hgw : (Lit.int .i64 g).wf = true := wf_small (by omega)
      obtain ⟨ta, hta⟩ : ∃ ta, n0.at_ = ta := ⟨_, rfl⟩
      rw [hta] at hr0 hhd hat0
      have htr := (timE_zero ht).1
      have HT := hide ht
      by_cases hcl2 : P.wa ≤ t - ta
      · have HDP := hide (show dueS P.wa s t = { s with due := t, ps := s.ps.set (s.ps.length - 1) { q with cl := true } } by unfold dueS clP; rw [if_neg (by simp [ht]), hgt]; simp only; rw [hhd, if_pos hcl2])
        have hgl : gatI (dueS P.wa s t).ps = 0 := by
          rw [HDP.out]
          unfold gatI gat
          simp only
          rw [List.getLast?_eq_getElem?, List.length_set, List.getElem?_set_self (by omega)]
          simp
        have hdl : (dueS P.wa s t).ps.length = s.ps.length := by rw [HDP.out]; simp
        have HBP3 := hide (fun (w2 : World) (hb : Below w1.heap.size w1 w2) => show BP B P p mb (dueS P.wa s t) mn D is gk gv lv (w2.setCell ⟨p, 5, none⟩ (.int .i64 0)) from by
          have bp2 := hbp1.below hb
          refine bp2.turn (s' := dueS P.wa s t) (by rw [hps1]; unfold dueS; rw [if_neg (by simp [ht])]; exact SamePs.close _ _) (by rw [HDP.out, ← hs1]) ?_ (fun k o e ne => block_set_other e ⟨p, 5, none⟩ _ (fun (e2 : k = p) => ne e2))
          have h9 := block_set bp2.box (i := 5) (.int .i64 0)
          rw [h9]
          have h8 : boxA P (dueS P.wa s t) mb lv = (boxA P s1 mb lv).setIfInBounds 5 (.int .i64 0) := by
            unfold boxA
            rw [hgl, hdl, HDP.out, ← hs1]
            rfl
          rw [h8])
        have HEND := hide (fun (w2 w' : World) (hb : Below w1.heap.size w1 w2) (hb' : Below (w2.setCell ⟨p, 5, none⟩ (.int .i64 0)).heap.size (w2.setCell ⟨p, 5, none⟩ (.int .i64 0)) w') => show TX B P p (dueS P.wa s t) N F w w' from by
          have hk1' : Keep B F w w1 := ⟨hb1.mono hbp.lp, fun k o e ne => HW1.out ▸ block_set_other (block_below e hba) ⟨p, 9, none⟩ _ (fun (e2 : k = p) => ne (hF k (.inl e2)))⟩
          have hk2' : Keep B F w1 (w2.setCell ⟨p, 5, none⟩ (.int .i64 0)) := (Keep.of_below hb (by omega)).trans (Keep.set w2 5 _ hbp.lp (hF p (.inl rfl)))
          have hz3 : (w2.setCell ⟨p, 5, none⟩ (.int .i64 0)).heap.size = w2.heap.size := World.size_setCell _ _ _
          have hz2 := hb.size
          refine ⟨(hk1'.trans hk2').trans (Keep.of_below hb' (by omega)), F, ⟨hok.dued t, mb, mn, D, is, gk, gv, lv, (HBP3.out w2 hb).below hb', hmn, fun k hk => hF k (FB_same (s := s) (by unfold dueS; rw [if_neg (by simp [ht])]; exact SamePs.close _ _) k hk), fun k hk => ⟨(hFl k hk).1, ?_⟩⟩, fun k hk => .inl hk⟩
          have := (hFl k hk).2
          have := hb'.size
          omega)
        have HOKD := hide (hok.dued (P := P) t)
        have HW1B := hide hbp1
        have hge2 : P.wa ≤ t - ta := hcl2
        have hpw := y1
        clear hgt hg hbp hbpa hbp1 hok hok1 hF hFl hm1 hm2 hba hwa hk1 hk2 hsz hs1 hw1 e1 e2 y0 y2 y3 y4 y5 y6 y7 y8 y9 hb1 ht hqa hqg hq1 hq2 hqm hqo hps1 hin hcl hrw hk hv hnts hhd hnn hta hgl hdl hge
        have e2' := HE2.out
        have e1' := HE1.out
        go_enter Tryd.func10, Tryd.ntmps10
        go_wp2_with (fail)
        rw [HWA.out, HK1.out, HK2.out]
        go_wp2_with (first | (go_at_call 32; refine CM.out.mono ?_; rintro e w1 ⟨rfl, hh⟩; obtain rfl := hh))
        rw [HW1.out]
        refine wp_region_chain (fun U => U.cell? ⟨k1, 0, none⟩ = some (.pointer (some ⟨p, 0, none⟩)) ∧ U.cell? ⟨p, 4, none⟩ = some (.map (some mb)) ∧ U.cell? ⟨p, 5, none⟩ = some (.int .i64 g)) 8 (by as_aux_lemma => kernel_rfl) (N := 10) (by as_aux_lemma => kernel_rfl) ?_; intro hsh
        have HS := HS0.out w1.drew (below_drewN (Below.refl _ _) 1)
        refine wpAnyC_take (i := 0) (k := 8) (f := 40) (v := ?_) (d := some 18) rfl (by rfl) (by as_aux_lemma => kernel_rfl) (by as_aux_lemma => kernel_rfl) (by as_aux_lemma => kernel_rfl) hsh (by decide) (by as_aux_lemma => kernel_rfl) (by intro _ _ _ h; exact h) (by assumption) (Or.inl ⟨by rfl, ?hy⟩) ?_; (case hy => (rintro W ⟨b1, b2, b3⟩; go_simp; (try with_reducible rfl))); clear hsh; intro hsh
        refine wpAnyC_take0 (i := 1) (k := 8) (v := ?_) (d := some 19) rfl (by rfl) (by as_aux_lemma => kernel_rfl) (by as_aux_lemma => kernel_rfl) (by as_aux_lemma => kernel_rfl) hsh (by decide) (by intro _ _ _ h; exact h) (by assumption) (Or.inl ⟨by rfl, ?hy⟩) ?_; (case hy => (intro W _; go_simp; (try with_reducible rfl))); clear hsh; intro hsh
        refine wpAnyC_take0 (i := 2) (k := 8) (v := ?_) (d := some 20) rfl (by rfl) (by as_aux_lemma => kernel_rfl) (by as_aux_lemma => kernel_rfl) (by as_aux_lemma => kernel_rfl) hsh (by decide) (by intro _ _ _ h; exact h) (by assumption) (Or.inl ⟨by rfl, ?hy⟩) ?_; (case hy => (intro W _; go_simp; (try with_reducible rfl))); clear hsh; intro hsh
        refine wpAnyC_take (i := 3) (k := 8) (f := 40) (v := ?_) (d := some 21) rfl (by rfl) (by as_aux_lemma => kernel_rfl) (by as_aux_lemma => kernel_rfl) (by as_aux_lemma => kernel_rfl) hsh (by decide) (by as_aux_lemma => kernel_rfl) (by intro _ _ _ h; exact h) (by assumption) (Or.inl ⟨by rfl, ?hy⟩) ?_; (case hy => (rintro W ⟨b1, b2, b3⟩; go_simp; (try with_reducible rfl))); clear hsh; intro hsh
        refine wpAnyC_take (i := 4) (k := 8) (f := 40) (v := ?_) (d := some 22) rfl (by rfl) (by as_aux_lemma => kernel_rfl) (by as_aux_lemma => kernel_rfl) (by as_aux_lemma => kernel_rfl) hsh (by decide) (by as_aux_lemma => kernel_rfl) (by intro _ _ _ h; exact h) (by assumption) (Or.inl ⟨by rfl, ?hy⟩) ?_; (case hy => (rintro W ⟨b1, b2, b3⟩; go_simp; (try with_reducible rfl))); clear hsh; intro hsh
        refine wpAnyC_take0 (i := 5) (k := 8) (v := ?_) (d := some 23) rfl (by rfl) (by as_aux_lemma => kernel_rfl) (by as_aux_lemma => kernel_rfl) (by as_aux_lemma => kernel_rfl) hsh (by decide) (by intro _ _ _ h; exact h) (by assumption) (Or.inl ⟨by rfl, ?hy⟩) ?_; (case hy => (intro W _; go_simp; (try with_reducible rfl))); clear hsh; intro hsh
        refine wpAnyC_take0 (i := 6) (k := 8) (v := ?_) (d := some 24) rfl (by rfl) (by as_aux_lemma => kernel_rfl) (by as_aux_lemma => kernel_rfl) (by as_aux_lemma => kernel_rfl) hsh (by decide) (by intro _ _ _ h; exact h) (by assumption) (Or.inl ⟨by rfl, ?hy⟩) ?_; (case hy => (intro W _; go_simp; (try with_reducible rfl))); clear hsh; intro hsh
        refine wpAnyC_take (i := 7) (k := 8) (f := 40) (v := ?_) (d := some 25) rfl (by rfl) (by as_aux_lemma => kernel_rfl) (by as_aux_lemma => kernel_rfl) (by as_aux_lemma => kernel_rfl) hsh (by decide) (by as_aux_lemma => kernel_rfl) (by intro _ _ _ h; exact h) (by assumption) (Or.inl ⟨by rfl, ?hy⟩) ?_; (case hy => (rintro W ⟨b1, b2, b3⟩; go_simp; (try with_reducible rfl))); clear hsh; intro hsh
        refine wpAnyC_tail (by as_aux_lemma => kernel_rfl) (by simp) (by as_aux_lemma => kernel_rfl) ?_; simp only [List.drop_succ_cons, List.drop_zero]; clear hsh
        clear HS
        go_simp
        go_wp2_with (first | (at_lookup; refine wpList_lookup_some _ rfl _ _ 55 rfl 3 63 law_i Tryd.underlying55 (zero_p _) mb mn D rfl HOW.out (.int .i64 g) _ rfl (key_w hgw) k HMP.out ?_))
        go_quiet (fail)
        have hb2 : Below w1.heap.size w1 (w1.drew.drewN nq) := below_drewN (Below.refl _ _).drew nq
        obtain ⟨w2, hw2⟩ : ∃ w2, w1.drew.drewN nq = w2 := ⟨_, rfl⟩
        rw [hw2] at hb2 ⊢
        have HB2 := hide hb2
        have hz2 := hb2.size
        have z1 : w2.cell? ⟨k1, 0, none⟩ = some (.pointer (some ⟨p, 0, none⟩)) := (hb2.cell (p := ⟨k1, 0, none⟩) hkl1).trans HE1.out
        have z5 : w2.cell? ⟨p, 5, none⟩ = some (.int .i64 g) := (hb2.cell (p := ⟨p, 5, none⟩) hpl1).trans HY5.out
        have f5 : w2.frozen? ⟨p, 5, none⟩ = false := block_free (HW1B.out.below hb2).box 5
        have hz3 : (w2.setCell ⟨p, 5, none⟩ (.int .i64 0)).heap.size = w2.heap.size := World.size_setCell _ _ _
        have z6 : (w2.setCell ⟨p, 5, none⟩ (.int .i64 0)).cell? ⟨k1, 0, none⟩ = some (.pointer (some ⟨p, 0, none⟩)) := by
          rw [show (w2.setCell ⟨p, 5, none⟩ (.int .i64 0)).cell? ⟨k1, 0, none⟩ = w2.cell? ⟨k1, 0, none⟩ from World.cell?_setCell_other w2 _ _ _ (fun (e : (⟨p, 5, none⟩ : Addr) = ⟨k1, 0, none⟩) => hp1 (congrArg Addr.block e))]; exact z1
        have z7 : (w2.setCell ⟨p, 5, none⟩ (.int .i64 0)).cell? ⟨k2, 0, none⟩ = some (.int .i64 t) := by
          rw [show (w2.setCell ⟨p, 5, none⟩ (.int .i64 0)).cell? ⟨k2, 0, none⟩ = w2.cell? ⟨k2, 0, none⟩ from World.cell?_setCell_other w2 _ _ _ (fun (e : (⟨p, 5, none⟩ : Addr) = ⟨k2, 0, none⟩) => hp2 (congrArg Addr.block e))]; exact (hb2.cell (p := ⟨k2, 0, none⟩) hkl2).trans HE2.out
        have CP := hide (postsD_any (k1 := k1) (k2 := k2) (t := t) hP HOKD.out (HBP3.out w2 hb2) (by rw [hz3]; omega) (by rw [hz3]; omega) z6 z7)
        clear hb2 hw2
        go_wp2_with (first | (go_at_call 33; refine CP.out.mono ?_; rintro e w3 ⟨v, es, rfl, hb3, hpo, heq⟩; have HB3 := hide hb3; have HPO := hide (hpo.base (lo' := w.heap.size) (by rw [hz3]; omega)); have HEQ := hide heq; clear hb3 hpo heq))
        go_ret2
        exact ⟨HEND.out w2 _ HB2.out HB3.out, .inr ⟨HT.out, v, es, rfl, HPO.out, by rw [HEQ.out]; rfl⟩⟩
      · have hds : dueS P.wa s t = s1 := by unfold dueS clP; rw [if_neg (by simp [ht]), hgt, ← hs1]; simp only; rw [hhd, if_neg hcl2]
        have CP := hide (fun W (hb : Below w1.heap.size w1 W) => postsD_any (k1 := k1) (k2 := k2) (t := t) hP hok1 (hbp1.below hb) (Nat.lt_of_lt_of_le hkl1 hb.size) (Nat.lt_of_lt_of_le hkl2 hb.size) ((hb.cell (p := ⟨k1, 0, none⟩) hkl1).trans HE1.out) ((hb.cell (p := ⟨k2, 0, none⟩) hkl2).trans HE2.out))
        have HEND := hide (fun (w' : World) (hb : Below w1.heap.size w1 w') => show TX B P p (dueS P.wa s t) N F w w' from by
          rw [hds]
          have hk : Keep B F w w1 := ⟨hb1.mono hbp.lp, fun k o e ne => HW1.out ▸ block_set_other (block_below e hba) ⟨p, 9, none⟩ _ (fun (e2 : k = p) => ne (hF k (.inl e2)))⟩
          refine ⟨hk.trans (Keep.of_below hb (by omega)), F, ⟨hok1, mb, mn, D, is, gk, gv, lv, hbp1.below hb, hmn, fun k hk => hF k (FB_same (s := s) (by rw [← hs1]; exact SamePs.refl _) k hk), fun k hk => ⟨(hFl k hk).1, ?_⟩⟩, fun k hk => .inl hk⟩
          have := (hFl k hk).2
          have := hb.size
          omega)
        have HDS := hide hds
        have hge2 : decide (P.wa ≤ t - ta) = false := by simpa using hcl2
        have hpw := y1
        clear hgt hg hbp hbpa hbp1 hok hok1 hF hFl hm1 hm2 hba hwa hk1 hk2 hsz hs1 hw1 e1 e2 y0 y2 y3 y4 y5 y6 y7 y8 y9 hb1 ht hqa hqg hq1 hq2 hqm hqo hps1 hin hcl hrw hk hv hnts hhd hnn hta hge hds
        have e2' := HE2.out
        have e1' := HE1.out
        go_enter Tryd.func10, Tryd.ntmps10
        go_wp2_with (fail)
        rw [HWA.out, HK1.out, HK2.out]
        go_wp2_with (first | (go_at_call 32; refine CM.out.mono ?_; rintro e w1 ⟨rfl, hh⟩; obtain rfl := hh))
        rw [HW1.out]
        refine wp_region_chain (fun U => U.cell? ⟨k1, 0, none⟩ = some (.pointer (some ⟨p, 0, none⟩)) ∧ U.cell? ⟨p, 4, none⟩ = some (.map (some mb)) ∧ U.cell? ⟨p, 5, none⟩ = some (.int .i64 g)) 8 (by as_aux_lemma => kernel_rfl) (N := 10) (by as_aux_lemma => kernel_rfl) ?_; intro hsh
        have HS := HS0.out w1.drew (below_drewN (Below.refl _ _) 1)
        refine wpAnyC_take (i := 0) (k := 8) (f := 40) (v := ?_) (d := some 18) rfl (by rfl) (by as_aux_lemma => kernel_rfl) (by as_aux_lemma => kernel_rfl) (by as_aux_lemma => kernel_rfl) hsh (by decide) (by as_aux_lemma => kernel_rfl) (by intro _ _ _ h; exact h) (by assumption) (Or.inl ⟨by rfl, ?hy⟩) ?_; (case hy => (rintro W ⟨b1, b2, b3⟩; go_simp; (try with_reducible rfl))); clear hsh; intro hsh
        refine wpAnyC_take0 (i := 1) (k := 8) (v := ?_) (d := some 19) rfl (by rfl) (by as_aux_lemma => kernel_rfl) (by as_aux_lemma => kernel_rfl) (by as_aux_lemma => kernel_rfl) hsh (by decide) (by intro _ _ _ h; exact h) (by assumption) (Or.inl ⟨by rfl, ?hy⟩) ?_; (case hy => (intro W _; go_simp; (try with_reducible rfl))); clear hsh; intro hsh
        refine wpAnyC_take0 (i := 2) (k := 8) (v := ?_) (d := some 20) rfl (by rfl) (by as_aux_lemma => kernel_rfl) (by as_aux_lemma => kernel_rfl) (by as_aux_lemma => kernel_rfl) hsh (by decide) (by intro _ _ _ h; exact h) (by assumption) (Or.inl ⟨by rfl, ?hy⟩) ?_; (case hy => (intro W _; go_simp; (try with_reducible rfl))); clear hsh; intro hsh
        refine wpAnyC_take (i := 3) (k := 8) (f := 40) (v := ?_) (d := some 21) rfl (by rfl) (by as_aux_lemma => kernel_rfl) (by as_aux_lemma => kernel_rfl) (by as_aux_lemma => kernel_rfl) hsh (by decide) (by as_aux_lemma => kernel_rfl) (by intro _ _ _ h; exact h) (by assumption) (Or.inl ⟨by rfl, ?hy⟩) ?_; (case hy => (rintro W ⟨b1, b2, b3⟩; go_simp; (try with_reducible rfl))); clear hsh; intro hsh
        refine wpAnyC_take (i := 4) (k := 8) (f := 40) (v := ?_) (d := some 22) rfl (by rfl) (by as_aux_lemma => kernel_rfl) (by as_aux_lemma => kernel_rfl) (by as_aux_lemma => kernel_rfl) hsh (by decide) (by as_aux_lemma => kernel_rfl) (by intro _ _ _ h; exact h) (by assumption) (Or.inl ⟨by rfl, ?hy⟩) ?_; (case hy => (rintro W ⟨b1, b2, b3⟩; go_simp; (try with_reducible rfl))); clear hsh; intro hsh
        refine wpAnyC_take0 (i := 5) (k := 8) (v := ?_) (d := some 23) rfl (by rfl) (by as_aux_lemma => kernel_rfl) (by as_aux_lemma => kernel_rfl) (by as_aux_lemma => kernel_rfl) hsh (by decide) (by intro _ _ _ h; exact h) (by assumption) (Or.inl ⟨by rfl, ?hy⟩) ?_; (case hy => (intro W _; go_simp; (try with_reducible rfl))); clear hsh; intro hsh
        refine wpAnyC_take0 (i := 6) (k := 8) (v := ?_) (d := some 24) rfl (by rfl) (by as_aux_lemma => kernel_rfl) (by as_aux_lemma => kernel_rfl) (by as_aux_lemma => kernel_rfl) hsh (by decide) (by intro _ _ _ h; exact h) (by assumption) (Or.inl ⟨by rfl, ?hy⟩) ?_; (case hy => (intro W _; go_simp; (try with_reducible rfl))); clear hsh; intro hsh
        refine wpAnyC_take (i := 7) (k := 8) (f := 40) (v := ?_) (d := some 25) rfl (by rfl) (by as_aux_lemma => kernel_rfl) (by as_aux_lemma => kernel_rfl) (by as_aux_lemma => kernel_rfl) hsh (by decide) (by as_aux_lemma => kernel_rfl) (by intro _ _ _ h; exact h) (by assumption) (Or.inl ⟨by rfl, ?hy⟩) ?_; (case hy => (rintro W ⟨b1, b2, b3⟩; go_simp; (try with_reducible rfl))); clear hsh; intro hsh
        refine wpAnyC_tail (by as_aux_lemma => kernel_rfl) (by simp) (by as_aux_lemma => kernel_rfl) ?_; simp only [List.drop_succ_cons, List.drop_zero]; clear hsh
        clear HS
        go_simp
        go_wp2_with (first | (at_lookup; refine wpList_lookup_some _ rfl _ _ 55 rfl 3 63 law_i Tryd.underlying55 (zero_p _) mb mn D rfl HOW.out (.int .i64 g) _ rfl (key_w hgw) k HMP.out ?_))
        go_quiet (fail)
        have hb2 : Below w1.heap.size w1 (w1.drew.drewN nq) := below_drewN (Below.refl _ _).drew nq
        obtain ⟨w2, hw2⟩ : ∃ w2, w1.drew.drewN nq = w2 := ⟨_, rfl⟩
        rw [hw2] at hb2 ⊢
        have HB2 := hide hb2
        have hz2 := hb2.size
        have z1 : w2.cell? ⟨k1, 0, none⟩ = some (.pointer (some ⟨p, 0, none⟩)) := (hb2.cell (p := ⟨k1, 0, none⟩) hkl1).trans HE1.out
        clear hb2 hw2
        go_wp2_with (first | (go_at_call 33; refine (CP.out w2 HB2.out).mono ?_; rintro e w3 ⟨v, es, rfl, hb3, hpo, heq⟩; have HB3 := hide (HB2.out.trans (hb3.mono HB2.out.size)); have HPO := hide (hpo.base (lo' := w.heap.size) (by omega)); have HEQ := hide heq; clear hb3 hpo heq))
        go_ret2
        exact ⟨HEND.out _ HB3.out, .inr ⟨HT.out, v, es, rfl, HPO.out, by rw [HEQ.out, HDS.out]; rfl⟩⟩
  · have hs : dueS P.wa s t = s := by unfold dueS; rw [if_pos ht]
    have HEND := hide (show TX B P p (dueS P.wa s t) N F w wa from by rw [hs]; exact HX0.out.stay hba HBW)
    obtain ⟨x, hx⟩ : ∃ x, timE s.due t = x := ⟨_, rfl⟩
    rw [hx] at CM ht
    have ht' : (x == 0) = false := by simpa using ht
    have HXX := hide hx
    clear hx hs hbp hbpa hok hF hFl hm1 hm2 hba hza hwa hk1 hk2 hsz
    go_enter Tryd.func10, Tryd.ntmps10
    go_wp2_with (fail)
    rw [HWA.out, HK1.out, HK2.out]
    go_wp2_with (first | (go_at_call 32; refine CM.out.mono ?_; rintro e w1 ⟨rfl, hh⟩; obtain rfl := hh))
    go_ret2
    exact ⟨HEND.out, .inl ⟨by rw [HXX.out]; exact ht, by rw [HXX.out]; rfl⟩⟩
end
end Go.Proofs.YtnkccilgbhogbaaDoor
