/- Walk of LevelsAt. -/
import Derived.Test.YtkoijhecahebgaaDoorGtLev
namespace Go.Proofs.YtkoijhecahebgaaDoor
open Go.RowKit
set_option linter.unusedVariables false
set_option linter.unusedSimpArgs false
set_option maxRecDepth 100000 in
set_option maxHeartbeats 8000000 in
theorem LevelsAt_ok (p n qc lc : Nat) (qA lA : Option Addr) (m tl : Value) (g t : Int) (Q : List Qt) (V : List Lv) (w : World)
    (hbx : w.heap[p]? = some (.cells #[.slice qA n qc, m, .int .i64 g, .slice lA n lc, tl] 41 (0, 0)))
    (hq : Sl w w.heap.size Qt.cs 5 qA n Q) (hv : Sl w w.heap.size Lv.cs 3 lA n V) (hok : LvsOk Q V) (hn : n ≤ 50) (hg : ∀ x ∈ V, x.t ≤ t) (ht1 : t ≤ 3155759999) :
    Calls Tryd.prog 16 #[.pointer (some ⟨p, 0, none⟩), .int .i64 t] w fun e w' => ∃ v, e = .returned v ∧ w'.ownsRow w.heap.size 46 3 v n ((poured t Q V).flatMap Lv.cs) ∧ Below w.heap.size w w' := by
  obtain ⟨i0, hi0, iz0, iz1, iz2⟩ := info_parts info_level
  have hp := lt_of_block hbx
  have HBX := hide hbx
  have HQ := hide hq
  have HV := hide hv
  have HOK := hide hok
  have HG := hide hg
  have hql := hq.len
  have hvl := hv.len
  have HPL := hide (poured_len (t := t) (Q := Q) (V := V) (by omega))
  have b0 : w.cell? ⟨p, 3, none⟩ = some (.slice lA n lc) := (block_cell hbx 3).trans rfl
  clear hbx hq hv hok hg
  go_enter Tryd.func16, Tryd.ntmps16
  go_wp2_with (fail)
  go_loopw [5, 13] (fun v i wr => ∃ k : Nat, i = .int .i64 (k : Int) ∧ k ≤ n ∧ wr.ownsRow w.heap.size 46 3 v k (((poured t Q V).take k).flatMap Lv.cs) ∧ Below w.heap.size w wr) (fun _ i _ => n - (intOf i).toNat)
  case atStart => exact ⟨0, rfl, Nat.zero_le _, World.ownsRow_nil _ _ _ _, Below.refl _ _⟩
  case round =>
    obtain ⟨k, rfl, hk, hr, hB⟩ := hrel
    obtain ⟨vA, vc, rfl⟩ := own_sl hr
    have HR := hide hr
    clear hr
    have hz := hB.size
    by_cases hlt : k < n
    · have hki : (k : Int) < (n : Int) := by omega
      obtain ⟨qb, qo, q, rfl, hqb, hqx, hqc⟩ := (HQ.out.below hB).at_ hlt
      obtain ⟨lb, lo, x, rfl, hlb, hvx, hvc⟩ := (HV.out.below hB).at_ hlt
      have q0 : wr.cell? ⟨lb, lo + k * 3, none⟩ = some (.int .i64 x.h) := by simpa using hvc 0 _ rfl
      have q1 : wr.cell? ⟨lb, lo + k * 3 + 1, none⟩ = some (.int .i64 x.t) := by simpa using hvc 1 _ rfl
      have q2 : wr.cell? ⟨lb, lo + k * 3 + 2, none⟩ = some (.int .i64 x.r) := by simpa using hvc 2 _ rfl
      have hxo := HOK.out k q x hqx hvx
      have hxt : x.t ≤ t := HG.out x (List.mem_of_getElem? hvx)
      have CP := hide (fun W => Poured_any q.s q.a q.e x.h x.t x.r t W hxo.err hxt ht1)
      have HAT := hide (poured_at (t := t) hqx hvx)
      obtain ⟨wb, hwb⟩ : ∃ wb, wr.alloc (.cells #[.int .i64 x.h, .int .i64 x.t, .int .i64 x.r] 46) = wb := ⟨_, rfl⟩
      have HBB := hide (show Below wr.heap.size wr wb from hwb ▸ (Below.refl _ _).alloc (Nat.le_refl _) _)
      have HQB := hide (show wb.heap[wr.heap.size]? = some (.cells #[.int .i64 x.h, .int .i64 x.t, .int .i64 x.r] 46 (0, 0)) from hwb ▸ heap_alloc_new wr _)
      have HVC := hide (fun (W : World) (hb : Below w.heap.size w W) => show W.cell? ⟨p, 0, none⟩ = some (.slice (some ⟨qb, qo, none⟩) n qc) ∧ W.cell? ⟨qb, qo + k * 5 + 2, none⟩ = some (.int .i64 q.s) ∧ W.cell? ⟨qb, qo + k * 5 + 3, none⟩ = some (.int .i64 q.a) ∧ W.cell? ⟨qb, qo + k * 5 + 4, none⟩ = some (.int .i64 q.e) by
        obtain ⟨qb', qo', q', e', _, hqx', hqc'⟩ := (HQ.out.below hb).at_ hlt
        simp at e'
        obtain ⟨rfl, rfl⟩ := e'
        rw [hqx] at hqx'
        obtain rfl := Option.some.inj hqx'
        exact ⟨(block_cell (block_below HBX.out hb) 0).trans rfl, by simpa using hqc' 2 _ rfl, by simpa using hqc' 3 _ rfl, by simpa using hqc' 4 _ rfl⟩)
      clear hqc hvc
      have HSS := hide (show ∀ W, Below wb.heap.size wb W → (fun W => (W.cell? ⟨wr.heap.size, 0, none⟩ = some (.int .i64 x.h) ∧ W.cell? ⟨wr.heap.size, 1, none⟩ = some (.int .i64 x.t) ∧ W.cell? ⟨wr.heap.size, 2, none⟩ = some (.int .i64 x.r)) ∧ W.cell? ⟨p, 0, none⟩ = some (.slice (some ⟨qb, qo, none⟩) n qc) ∧ W.cell? ⟨qb, qo + k * 5 + 2, none⟩ = some (.int .i64 q.s) ∧ W.cell? ⟨qb, qo + k * 5 + 3, none⟩ = some (.int .i64 q.a) ∧ W.cell? ⟨qb, qo + k * 5 + 4, none⟩ = some (.int .i64 q.e)) W from fun W hb => ⟨⟨(block_cell (block_below HQB.out hb) 0).trans rfl, (block_cell (block_below HQB.out hb) 1).trans rfl, (block_cell (block_below HQB.out hb) 2).trans rfl⟩, HVC.out W (hB.trans ((HBB.out.trans (hb.mono HBB.out.size)).mono hz))⟩)
      go_wp2_with (fail)
      (try rw [hwb])
      refine wp_region_chain (fun W => (W.cell? ⟨wr.heap.size, 0, none⟩ = some (.int .i64 x.h) ∧ W.cell? ⟨wr.heap.size, 1, none⟩ = some (.int .i64 x.t) ∧ W.cell? ⟨wr.heap.size, 2, none⟩ = some (.int .i64 x.r)) ∧ W.cell? ⟨p, 0, none⟩ = some (.slice (some ⟨qb, qo, none⟩) n qc) ∧ W.cell? ⟨qb, qo + k * 5 + 2, none⟩ = some (.int .i64 q.s) ∧ W.cell? ⟨qb, qo + k * 5 + 3, none⟩ = some (.int .i64 q.a) ∧ W.cell? ⟨qb, qo + k * 5 + 4, none⟩ = some (.int .i64 q.e)) 13 (by as_aux_lemma => kernel_rfl) (N := 15) (by as_aux_lemma => kernel_rfl) ?_; intro hsh
      have HS := HSS.out wb.drew (below_drewN (Below.refl _ _) 1)
      refine wpAnyC_take0 (i := 0) (k := 13) (v := ?_) (d := some 18) rfl (by rfl) (by as_aux_lemma => kernel_rfl) (by as_aux_lemma => kernel_rfl) (by as_aux_lemma => kernel_rfl) hsh (by decide) (by intro _ _ _ h; exact h) (by assumption) (Or.inl ⟨by rfl, ?hy⟩) ?_; (case hy => (intro W _; go_simp; (try with_reducible rfl))); clear hsh; intro hsh
      refine wpAnyC_take0 (i := 1) (k := 13) (v := ?_) (d := some 19) rfl (by rfl) (by as_aux_lemma => kernel_rfl) (by as_aux_lemma => kernel_rfl) (by as_aux_lemma => kernel_rfl) hsh (by decide) (by intro _ _ _ h; exact h) (by assumption) (Or.inl ⟨by rfl, ?hy⟩) ?_; (case hy => (intro W _; go_simp; (try with_reducible rfl))); clear hsh; intro hsh
      refine wpAnyC_take0 (i := 2) (k := 13) (v := ?_) (d := some 20) rfl (by rfl) (by as_aux_lemma => kernel_rfl) (by as_aux_lemma => kernel_rfl) (by as_aux_lemma => kernel_rfl) hsh (by decide) (by intro _ _ _ h; exact h) (by assumption) (Or.inl ⟨by rfl, ?hy⟩) ?_; (case hy => (intro W _; go_simp; (try with_reducible rfl))); clear hsh; intro hsh
      refine wpAnyC_take0 (i := 3) (k := 13) (v := ?_) (d := some 21) rfl (by rfl) (by as_aux_lemma => kernel_rfl) (by as_aux_lemma => kernel_rfl) (by as_aux_lemma => kernel_rfl) hsh (by decide) (by intro _ _ _ h; exact h) (by assumption) (Or.inl ⟨by rfl, ?hy⟩) ?_; (case hy => (intro W _; go_simp; (try with_reducible rfl))); clear hsh; intro hsh
      refine wpAnyC_take (i := 4) (k := 13) (f := 40) (v := ?_) (d := some 22) rfl (by rfl) (by as_aux_lemma => kernel_rfl) (by as_aux_lemma => kernel_rfl) (by as_aux_lemma => kernel_rfl) hsh (by decide) (by as_aux_lemma => kernel_rfl) (by intro _ _ _ h; exact h) (by assumption) (Or.inl ⟨by rfl, ?hy⟩) ?_; (case hy => (rintro W ⟨⟨a2, a3, a4⟩, b1, l0, l1, l2⟩; go_simp; (try with_reducible rfl))); clear hsh; intro hsh
      refine wpAnyC_take0 (i := 5) (k := 13) (v := ?_) (d := some 23) rfl (by rfl) (by as_aux_lemma => kernel_rfl) (by as_aux_lemma => kernel_rfl) (by as_aux_lemma => kernel_rfl) hsh (by decide) (by intro _ _ _ h; exact h) (by assumption) (Or.inl ⟨by rfl, ?hy⟩) ?_; (case hy => (intro W _; go_simp; (try with_reducible rfl))); clear hsh; intro hsh
      refine wpAnyC_take0 (i := 6) (k := 13) (v := ?_) (d := some 24) rfl (by rfl) (by as_aux_lemma => kernel_rfl) (by as_aux_lemma => kernel_rfl) (by as_aux_lemma => kernel_rfl) hsh (by decide) (by intro _ _ _ h; exact h) (by assumption) (Or.inl ⟨by rfl, ?hy⟩) ?_; (case hy => (intro W _; go_simp; (try with_reducible rfl))); clear hsh; intro hsh
      refine wpAnyC_take0 (i := 7) (k := 13) (v := ?_) (d := some 25) rfl (by rfl) (by as_aux_lemma => kernel_rfl) (by as_aux_lemma => kernel_rfl) (by as_aux_lemma => kernel_rfl) hsh (by decide) (by intro _ _ _ h; exact h) (by assumption) (Or.inl ⟨by rfl, ?hy⟩) ?_; (case hy => (intro W _; go_simp; (try with_reducible rfl))); clear hsh; intro hsh
      refine wpAnyC_take (i := 8) (k := 13) (f := 40) (v := ?_) (d := some 26) rfl (by rfl) (by as_aux_lemma => kernel_rfl) (by as_aux_lemma => kernel_rfl) (by as_aux_lemma => kernel_rfl) hsh (by decide) (by as_aux_lemma => kernel_rfl) (by intro _ _ _ h; exact h) (by assumption) (Or.inl ⟨by rfl, ?hy⟩) ?_; (case hy => (rintro W ⟨⟨a2, a3, a4⟩, b1, l0, l1, l2⟩; go_simp; (try with_reducible rfl))); clear hsh; intro hsh
      refine wpAnyC_take (i := 9) (k := 13) (f := 40) (v := ?_) (d := some 27) rfl (by rfl) (by as_aux_lemma => kernel_rfl) (by as_aux_lemma => kernel_rfl) (by as_aux_lemma => kernel_rfl) hsh (by decide) (by as_aux_lemma => kernel_rfl) (by intro _ _ _ h; exact h) (by assumption) (Or.inl ⟨by rfl, ?hy⟩) ?_; (case hy => (rintro W ⟨⟨a2, a3, a4⟩, b1, l0, l1, l2⟩; go_simp; (try with_reducible rfl))); clear hsh; intro hsh
      refine wpAnyC_take0 (i := 10) (k := 13) (v := ?_) (d := some 28) rfl (by rfl) (by as_aux_lemma => kernel_rfl) (by as_aux_lemma => kernel_rfl) (by as_aux_lemma => kernel_rfl) hsh (by decide) (by intro _ _ _ h; exact h) (by assumption) (Or.inl ⟨by rfl, ?hy⟩) ?_; (case hy => (intro W _; go_simp; (try with_reducible rfl))); clear hsh; intro hsh
      refine wpAnyC_ready (rs := [11]) (by as_aux_lemma => kernel_rfl) (by simp) ?_; refine AllC.cons (i := 11) rfl (by as_aux_lemma => kernel_rfl) hsh (fun K hK => ?_) AllC.nil
      go_simp
      go_at_call 42
      have hbd1 : Below wb.heap.size wb wb.drew := below_drewN (Below.refl _ _) 1
      unfold v3 pourV at CP
      refine (CP.out wb.drew).mono ?_
      rintro e w3 ⟨rfl, hb3⟩
      have hb3' : Below wb.heap.size wb w3 := hbd1.trans hb3
      have HB3 := hide (hB.trans ((HBB.out.trans (hb3'.mono HBB.out.size)).mono hz))
      have HR3 := hide (own_below (own_below HR.out HBB.out) hb3')
      have HS3 := HSS.out w3 hb3'
      have HSA := HSS.out (w3.alloc (.cells #[.int .i64 (pH q.s q.a q.e x.h x.t x.r t), .int .i64 t, .int .i64 (pR q.e x.t x.r t)] 46)) (hb3'.alloc hb3'.size _)
      try go_simp
      refine hK _ _ (fun _ => HS3) ?_
      clear hK K hsh HS hb3 hb3' hbd1
      intro hsh
      refine wpAnyC_ready (rs := [12]) (by as_aux_lemma => kernel_rfl) (by simp) ?_; refine AllC.cons (i := 12) rfl (by as_aux_lemma => kernel_rfl) hsh (fun K hK => ?_) AllC.nil
      go_simp
      refine hK _ _ (fun _ => HSA) ?_
      clear hK K hsh
      intro hsh
      refine wpAnyC_tail (by as_aux_lemma => kernel_rfl) (by simp) (by as_aux_lemma => kernel_rfl) ?_; simp only [List.drop_succ_cons, List.drop_zero]; clear hsh
      have hz3 := HB3.out.size
      have hlo3 := HR3.out.lt
      go_wp2_with (first | (at_builtin; refine wpList_append_own _ rfl (.tmp 18) (.tmp 30) 38 rfl w.heap.size 46 i0 (.agg #[.int .i64 0, .int .i64 0, .int .i64 0]) 3 24 Tryd.underlying38 hi0 iz0 iz1 iz2 rfl (by decide) (.slice vA k vc) k (((poured t Q V).take k).flatMap Lv.cs) rfl (HR3.out.alloc _) ⟨w3.heap.size, 0, none⟩ 1 1 [.int .i64 (pH q.s q.a q.e x.h x.t x.r t), .int .i64 t, .int .i64 (pR q.e x.t x.r t)] rfl rfl (cells_at _ [.int .i64 (pH q.s q.a q.e x.h x.t x.r t), .int .i64 t, .int .i64 (pR q.e x.t x.r t)] _ _ rfl) (by intro u hu; simp at hu; rcases hu with rfl | rfl | rfl <;> rfl) (by unfold maxLen; omega) (by omega) (by simp; omega) ?_; intro v8 w8 hown8 hg8 _; obtain ⟨A8, c8, rfl⟩ := own_sl hown8; have HO8 := hide hown8; have HB8 := hide ((HB3.out.alloc hz3 _).grown hg8 (by simp; omega) (fun j hj => (hlo3 j hj).1)); clear hown8 hg8) | fail)
      go_roundw
      case rel =>
        refine ⟨k + 1, by go_num, by omega, ?_, HB8.out⟩
        rw [take_succ_get HAT.out, List.flatMap_append, List.flatMap_singleton]
        exact HO8.out
      case measure => simp [intOf]; omega
    · have hki : ¬ (k : Int) < (n : Int) := by omega
      have E := hide (show k = n by omega)
      go_wp2_with (fail)
      go_ret
      refine ⟨_, rfl, ?_, hB⟩
      have h9 := HR.out
      rw [take_len _ (by rw [HPL.out, E.out]; omega)] at h9
      obtain rfl := E.out
      exact h9
end Go.Proofs.YtkoijhecahebgaaDoor
