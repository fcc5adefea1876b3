/- Walks of checkMoment, Levels and LevelsAt. -/
import Derived.Test.YtkoijhecahebgaaDoorGtL
import Derived.Test.YtkoijhecahebgaaDoorRegChain
import Derived.Test.YtkoijhecahebgaaDoorFam
namespace Go.Proofs.YtkoijhecahebgaaDoor
open Go.RowKit
set_option linter.unusedVariables false
set_option linter.unusedSimpArgs false
def momE (t g : Int) : Int := if outsideB t 0 3155759999 then 2 else if t < g then 5 else 0
theorem checkMoment_any (p : Nat) (t g : Int) (w : World) (h3 : w.cell? ⟨p, 3, none⟩ = some (.int .i64 g)) :
    Calls Tryd.prog 35 #[.pointer (some ⟨p, 0, none⟩), .int .i64 t] w fun e w' => e = .returned (.int .i64 (momE t g)) ∧ w = w' := by
  have C := hide (fun W => isMoment_any t W)
  cases ho : outsideB t 0 3155759999
  · rw [ho] at C
    by_cases hlt : t < g
    · have E := hide (show momE t g = 5 by rw [momE, ho, if_neg (by decide), if_pos hlt])
      go_enter Tryd.func35, Tryd.ntmps35
      go_wp2_with (first | (go_at_call 22; refine (C.out _).mono ?_; rintro e w' ⟨rfl, rfl⟩))
      go_ret
      exact ⟨by rw [E.out]; rfl, rfl⟩
    · have E := hide (show momE t g = 0 by rw [momE, ho, if_neg (by decide), if_neg hlt])
      have hd : decide (t < g) = false := decide_eq_false hlt
      go_enter Tryd.func35, Tryd.ntmps35
      go_wp2_with (first | (go_at_call 22; refine (C.out _).mono ?_; rintro e w' ⟨rfl, rfl⟩))
      go_ret
      exact ⟨by rw [E.out]; rfl, rfl⟩
  · rw [ho] at C
    have E := hide (show momE t g = 2 by rw [momE, ho, if_pos rfl])
    go_enter Tryd.func35, Tryd.ntmps35
    go_wp2_with (first | (go_at_call 22; refine (C.out _).mono ?_; rintro e w' ⟨rfl, rfl⟩))
    go_ret
    exact ⟨by rw [E.out]; rfl, rfl⟩
/-- Quotas and levels go together. -/
def LvsOk (Q : List Qt) (V : List Lv) : Prop := ∀ (i : Nat) (q : Qt) (x : Lv), Q[i]? = some q → V[i]? = some x → LvOk q x
def poured (t : Int) (Q : List Qt) (V : List Lv) : List Lv := List.zipWith (pourL · t) Q V
theorem poured_len {t : Int} {Q : List Qt} {V : List Lv} (h : V.length = Q.length) : (poured t Q V).length = Q.length := by unfold poured; rw [List.length_zipWith, h, Nat.min_self]
theorem poured_at {t : Int} {Q : List Qt} {V : List Lv} {i : Nat} {q : Qt} {x : Lv} (hq : Q[i]? = some q) (hx : V[i]? = some x) : (poured t Q V)[i]? = some (pourL q t x) := by
  unfold poured; rw [List.getElem?_zipWith, hq, hx]
theorem info_level : (Tryd.prog.info? 46).map (fun i => (i.zero, i.size, i.bytes)) = some (some (.agg #[.int .i64 0, .int .i64 0, .int .i64 0]), 3, 24) := by kernel_rfl
set_option maxRecDepth 100000 in
set_option maxHeartbeats 8000000 in
theorem Levels_ok (p n qc lc : Nat) (qA lA : Option Addr) (m tl : Value) (g t : Int) (Q : List Qt) (V : List Lv) (w : World)
    (hbx : w.heap[p]? = some (.cells #[.slice qA n qc, .slice lA n lc, m, .int .i64 g, tl] 64 (0, 0)))
    (hq : Sl w w.heap.size Qt.cs 5 qA n Q) (hv : Sl w w.heap.size Lv.cs 3 lA n V) (hok : LvsOk Q V) (hn : n ≤ 50) (hE : momE t g = 0) (hg : ∀ x ∈ V, x.t ≤ g) :
    Calls Tryd.prog 14 #[.pointer (some ⟨p, 0, none⟩), .int .i64 t] w fun e w' => ∃ v, e = .returned (.tuple #[v, .int .i64 0]) ∧ w'.ownsRow w.heap.size 46 3 v n ((poured t Q V).flatMap Lv.cs) ∧ Below w.heap.size w w' := by
  obtain ⟨i0, hi0, iz0, iz1, iz2⟩ := info_parts info_level
  have hp := lt_of_block hbx
  have C := hide (checkMoment_any p t g w ((block_cell hbx 3).trans rfl))
  rw [hE] at C
  have ht1 : g ≤ t ∧ t ≤ 3155759999 := by
    unfold momE at hE
    split at hE
    · cases hE
    · rename_i ho
      split at hE
      · cases hE
      · simp [outsideB] at ho; omega
  have HBX := hide hbx
  have HQ := hide hq
  have HV := hide hv
  have HOK := hide hok
  have HG := hide hg
  have hql := hq.len
  have hvl := hv.len
  have HPL := hide (poured_len (t := t) (Q := Q) (V := V) (by omega))
  have b0 : w.cell? ⟨p, 0, none⟩ = some (.slice qA n qc) := (block_cell hbx 0).trans rfl
  clear hbx hq hv hok hE hg
  go_enter Tryd.func14, Tryd.ntmps14
  go_wp2_with (first | (go_at_call 35; refine (C.out).mono ?_; rintro e w' ⟨rfl, rfl⟩))
  go_loopw [7, 21] (fun v i wr => ∃ k : Nat, i = .int .i64 (k : Int) ∧ k ≤ n ∧ wr.ownsRow w.heap.size 46 3 v k (((poured t Q V).take k).flatMap Lv.cs) ∧ Below w.heap.size w wr) (fun _ i _ => n - (intOf i).toNat)
  case atStart => exact ⟨0, rfl, Nat.zero_le _, World.ownsRow_nil _ _ _ _, Below.refl _ _⟩
  case round =>
    obtain ⟨k, rfl, hk, hr, hB⟩ := hrel
    obtain ⟨vA, vc, rfl⟩ := own_sl hr
    have HR := hide hr
    clear hr
    have hz := hB.size
    by_cases hlt : k < n
    · have hki : (k : Int) < (n : Int) := by omega
      obtain ⟨qb, qo, q, rfl, hqb, hqx, hqc⟩ := (HQ.out.below hB).at_ hlt
      obtain ⟨lb, lo, x, rfl, hlb, hvx, hvc⟩ := (HV.out.below hB).at_ hlt
      have q0 : wr.cell? ⟨qb, qo + k * 5, none⟩ = some (.string q.name) := by simpa using hqc 0 _ rfl
      have q1 : wr.cell? ⟨qb, qo + k * 5 + 1, none⟩ = some (.string q.key) := by simpa using hqc 1 _ rfl
      have q2 : wr.cell? ⟨qb, qo + k * 5 + 2, none⟩ = some (.int .i64 q.s) := by simpa using hqc 2 _ rfl
      have q3 : wr.cell? ⟨qb, qo + k * 5 + 3, none⟩ = some (.int .i64 q.a) := by simpa using hqc 3 _ rfl
      have q4 : wr.cell? ⟨qb, qo + k * 5 + 4, none⟩ = some (.int .i64 q.e) := by simpa using hqc 4 _ rfl
      have hxo := HOK.out k q x hqx hvx
      have hxt : x.t ≤ t := by have := HG.out x (List.mem_of_getElem? hvx); omega
      have CP := hide (fun W => pour_any q.s q.a q.e x.h x.t x.r t W hxo.err hxt ht1.2)
      have HAT := hide (poured_at (t := t) hqx hvx)
      obtain ⟨wb, hwb⟩ : ∃ wb, wr.alloc (.cells #[.string q.name, .string q.key, .int .i64 q.s, .int .i64 q.a, .int .i64 q.e] 58) = wb := ⟨_, rfl⟩
      have HBB := hide (show Below wr.heap.size wr wb from hwb ▸ (Below.refl _ _).alloc (Nat.le_refl _) _)
      have HQB := hide (show wb.heap[wr.heap.size]? = some (.cells #[.string q.name, .string q.key, .int .i64 q.s, .int .i64 q.a, .int .i64 q.e] 58 (0, 0)) from hwb ▸ heap_alloc_new wr _)
      have HVC := hide (fun (W : World) (hb : Below w.heap.size w W) => show W.cell? ⟨p, 1, none⟩ = some (.slice (some ⟨lb, lo, none⟩) n lc) ∧ W.cell? ⟨lb, lo + k * 3, none⟩ = some (.int .i64 x.h) ∧ W.cell? ⟨lb, lo + k * 3 + 1, none⟩ = some (.int .i64 x.t) ∧ W.cell? ⟨lb, lo + k * 3 + 2, none⟩ = some (.int .i64 x.r) by
        obtain ⟨lb', lo', x', e', _, hvx', hvc'⟩ := (HV.out.below hb).at_ hlt
        simp at e'
        obtain ⟨rfl, rfl⟩ := e'
        rw [hvx] at hvx'
        obtain rfl := Option.some.inj hvx'
        exact ⟨(block_cell (block_below HBX.out hb) 1).trans rfl, by simpa using hvc' 0 _ rfl, by simpa using hvc' 1 _ rfl, by simpa using hvc' 2 _ rfl⟩)
      clear hqc hvc
      have HSS := hide (show ∀ W, Below wb.heap.size wb W → (fun W => (W.cell? ⟨wr.heap.size, 2, none⟩ = some (.int .i64 q.s) ∧ W.cell? ⟨wr.heap.size, 3, none⟩ = some (.int .i64 q.a) ∧ W.cell? ⟨wr.heap.size, 4, none⟩ = some (.int .i64 q.e)) ∧ W.cell? ⟨p, 1, none⟩ = some (.slice (some ⟨lb, lo, none⟩) n lc) ∧ W.cell? ⟨lb, lo + k * 3, none⟩ = some (.int .i64 x.h) ∧ W.cell? ⟨lb, lo + k * 3 + 1, none⟩ = some (.int .i64 x.t) ∧ W.cell? ⟨lb, lo + k * 3 + 2, none⟩ = some (.int .i64 x.r)) W from fun W hb => ⟨⟨(block_cell (block_below HQB.out hb) 2).trans rfl, (block_cell (block_below HQB.out hb) 3).trans rfl, (block_cell (block_below HQB.out hb) 4).trans rfl⟩, HVC.out W (hB.trans ((HBB.out.trans (hb.mono HBB.out.size)).mono hz))⟩)
      go_wp2_with (fail)
      (try rw [hwb])
      refine wp_region_chain (fun W => (W.cell? ⟨wr.heap.size, 2, none⟩ = some (.int .i64 q.s) ∧ W.cell? ⟨wr.heap.size, 3, none⟩ = some (.int .i64 q.a) ∧ W.cell? ⟨wr.heap.size, 4, none⟩ = some (.int .i64 q.e)) ∧ W.cell? ⟨p, 1, none⟩ = some (.slice (some ⟨lb, lo, none⟩) n lc) ∧ W.cell? ⟨lb, lo + k * 3, none⟩ = some (.int .i64 x.h) ∧ W.cell? ⟨lb, lo + k * 3 + 1, none⟩ = some (.int .i64 x.t) ∧ W.cell? ⟨lb, lo + k * 3 + 2, none⟩ = some (.int .i64 x.r)) 13 (by as_aux_lemma => kernel_rfl) (N := 15) (by as_aux_lemma => kernel_rfl) ?_; intro hsh
      have HS := HSS.out wb.drew (below_drewN (Below.refl _ _) 1)
      refine wpAnyC_take0 (i := 0) (k := 13) (v := ?_) (d := some 26) rfl (by rfl) (by as_aux_lemma => kernel_rfl) (by as_aux_lemma => kernel_rfl) (by as_aux_lemma => kernel_rfl) hsh (by decide) (by intro _ _ _ h; exact h) (by assumption) (Or.inl ⟨by rfl, ?hy⟩) ?_; (case hy => (intro W _; go_simp; (try with_reducible rfl))); clear hsh; intro hsh
      refine wpAnyC_take0 (i := 1) (k := 13) (v := ?_) (d := some 27) rfl (by rfl) (by as_aux_lemma => kernel_rfl) (by as_aux_lemma => kernel_rfl) (by as_aux_lemma => kernel_rfl) hsh (by decide) (by intro _ _ _ h; exact h) (by assumption) (Or.inl ⟨by rfl, ?hy⟩) ?_; (case hy => (intro W _; go_simp; (try with_reducible rfl))); clear hsh; intro hsh
      refine wpAnyC_take (i := 2) (k := 13) (f := 40) (v := ?_) (d := some 28) rfl (by rfl) (by as_aux_lemma => kernel_rfl) (by as_aux_lemma => kernel_rfl) (by as_aux_lemma => kernel_rfl) hsh (by decide) (by as_aux_lemma => kernel_rfl) (by intro _ _ _ h; exact h) (by assumption) (Or.inl ⟨by rfl, ?hy⟩) ?_; (case hy => (rintro W ⟨⟨a2, a3, a4⟩, b1, l0, l1, l2⟩; go_simp; (try with_reducible rfl))); clear hsh; intro hsh
      refine wpAnyC_take0 (i := 3) (k := 13) (v := ?_) (d := some 29) rfl (by rfl) (by as_aux_lemma => kernel_rfl) (by as_aux_lemma => kernel_rfl) (by as_aux_lemma => kernel_rfl) hsh (by decide) (by intro _ _ _ h; exact h) (by assumption) (Or.inl ⟨by rfl, ?hy⟩) ?_; (case hy => (intro W _; go_simp; (try with_reducible rfl))); clear hsh; intro hsh
      refine wpAnyC_take0 (i := 4) (k := 13) (v := ?_) (d := some 30) rfl (by rfl) (by as_aux_lemma => kernel_rfl) (by as_aux_lemma => kernel_rfl) (by as_aux_lemma => kernel_rfl) hsh (by decide) (by intro _ _ _ h; exact h) (by assumption) (Or.inl ⟨by rfl, ?hy⟩) ?_; (case hy => (intro W _; go_simp; (try with_reducible rfl))); clear hsh; intro hsh
      refine wpAnyC_take0 (i := 5) (k := 13) (v := ?_) (d := some 31) rfl (by rfl) (by as_aux_lemma => kernel_rfl) (by as_aux_lemma => kernel_rfl) (by as_aux_lemma => kernel_rfl) hsh (by decide) (by intro _ _ _ h; exact h) (by assumption) (Or.inl ⟨by rfl, ?hy⟩) ?_; (case hy => (intro W _; go_simp; (try with_reducible rfl))); clear hsh; intro hsh
      refine wpAnyC_take (i := 6) (k := 13) (f := 40) (v := ?_) (d := some 32) rfl (by rfl) (by as_aux_lemma => kernel_rfl) (by as_aux_lemma => kernel_rfl) (by as_aux_lemma => kernel_rfl) hsh (by decide) (by as_aux_lemma => kernel_rfl) (by intro _ _ _ h; exact h) (by assumption) (Or.inl ⟨by rfl, ?hy⟩) ?_; (case hy => (rintro W ⟨⟨a2, a3, a4⟩, b1, l0, l1, l2⟩; go_simp; (try with_reducible rfl))); clear hsh; intro hsh
      refine wpAnyC_take0 (i := 7) (k := 13) (v := ?_) (d := some 33) rfl (by rfl) (by as_aux_lemma => kernel_rfl) (by as_aux_lemma => kernel_rfl) (by as_aux_lemma => kernel_rfl) hsh (by decide) (by intro _ _ _ h; exact h) (by assumption) (Or.inl ⟨by rfl, ?hy⟩) ?_; (case hy => (intro W _; go_simp; (try with_reducible rfl))); clear hsh; intro hsh
      refine wpAnyC_take0 (i := 8) (k := 13) (v := ?_) (d := some 34) rfl (by rfl) (by as_aux_lemma => kernel_rfl) (by as_aux_lemma => kernel_rfl) (by as_aux_lemma => kernel_rfl) hsh (by decide) (by intro _ _ _ h; exact h) (by assumption) (Or.inl ⟨by rfl, ?hy⟩) ?_; (case hy => (intro W _; go_simp; (try with_reducible rfl))); clear hsh; intro hsh
      refine wpAnyC_take (i := 9) (k := 13) (f := 40) (v := ?_) (d := some 35) rfl (by rfl) (by as_aux_lemma => kernel_rfl) (by as_aux_lemma => kernel_rfl) (by as_aux_lemma => kernel_rfl) hsh (by decide) (by as_aux_lemma => kernel_rfl) (by intro _ _ _ h; exact h) (by assumption) (Or.inl ⟨by rfl, ?hy⟩) ?_; (case hy => (rintro W ⟨⟨a2, a3, a4⟩, b1, l0, l1, l2⟩; go_simp; (try with_reducible rfl))); clear hsh; intro hsh
      refine wpAnyC_take0 (i := 10) (k := 13) (v := ?_) (d := some 36) rfl (by rfl) (by as_aux_lemma => kernel_rfl) (by as_aux_lemma => kernel_rfl) (by as_aux_lemma => kernel_rfl) hsh (by decide) (by intro _ _ _ h; exact h) (by assumption) (Or.inl ⟨by rfl, ?hy⟩) ?_; (case hy => (intro W _; go_simp; (try with_reducible rfl))); clear hsh; intro hsh
      refine wpAnyC_ready (rs := [11]) (by as_aux_lemma => kernel_rfl) (by simp) ?_; refine AllC.cons (i := 11) rfl (by as_aux_lemma => kernel_rfl) hsh (fun K hK => ?_) AllC.nil
      go_simp
      go_at_call 41
      have hbd1 : Below wb.heap.size wb wb.drew := below_drewN (Below.refl _ _) 1
      unfold v3 pourV at CP
      refine (CP.out wb.drew).mono ?_
      rintro e w3 ⟨rfl, hb3⟩
      have hb3' : Below wb.heap.size wb w3 := hbd1.trans hb3
      have HB3 := hide (hB.trans ((HBB.out.trans (hb3'.mono HBB.out.size)).mono hz))
      have HR3 := hide (own_below (own_below HR.out HBB.out) hb3')
      have HS3 := HSS.out w3 hb3'
      have HSA := HSS.out (w3.alloc (.cells #[.int .i64 (pH q.s q.a q.e x.h x.t x.r t), .int .i64 t, .int .i64 (pR q.e x.t x.r t)] 46)) (hb3'.alloc hb3'.size _)
      try go_simp
      refine hK _ _ (fun _ => HS3) ?_
      clear hK K hsh HS hb3 hb3' hbd1
      intro hsh
      refine wpAnyC_ready (rs := [12]) (by as_aux_lemma => kernel_rfl) (by simp) ?_; refine AllC.cons (i := 12) rfl (by as_aux_lemma => kernel_rfl) hsh (fun K hK => ?_) AllC.nil
      go_simp
      refine hK _ _ (fun _ => HSA) ?_
      clear hK K hsh
      intro hsh
      refine wpAnyC_tail (by as_aux_lemma => kernel_rfl) (by simp) (by as_aux_lemma => kernel_rfl) ?_; simp only [List.drop_succ_cons, List.drop_zero]; clear hsh
      have hz3 := HB3.out.size
      have hlo3 := HR3.out.lt
      go_wp2_with (first | (at_builtin; refine wpList_append_own _ rfl (.tmp 26) (.tmp 38) 38 rfl w.heap.size 46 i0 (.agg #[.int .i64 0, .int .i64 0, .int .i64 0]) 3 24 Tryd.underlying38 hi0 iz0 iz1 iz2 rfl (by decide) (.slice vA k vc) k (((poured t Q V).take k).flatMap Lv.cs) rfl (HR3.out.alloc _) ⟨w3.heap.size, 0, none⟩ 1 1 [.int .i64 (pH q.s q.a q.e x.h x.t x.r t), .int .i64 t, .int .i64 (pR q.e x.t x.r t)] rfl rfl (cells_at _ [.int .i64 (pH q.s q.a q.e x.h x.t x.r t), .int .i64 t, .int .i64 (pR q.e x.t x.r t)] _ _ rfl) (by intro u hu; simp at hu; rcases hu with rfl | rfl | rfl <;> rfl) (by unfold maxLen; omega) (by omega) (by simp; omega) ?_; intro v8 w8 hown8 hg8 _; obtain ⟨A8, c8, rfl⟩ := own_sl hown8; have HO8 := hide hown8; have HB8 := hide ((HB3.out.alloc hz3 _).grown hg8 (by simp; omega) (fun j hj => (hlo3 j hj).1)); clear hown8 hg8) | fail)
      go_roundw
      case rel =>
        refine ⟨k + 1, by go_num, by omega, ?_, HB8.out⟩
        rw [take_succ_get HAT.out, List.flatMap_append, List.flatMap_singleton]
        exact HO8.out
      case measure => simp [intOf]; omega
    · have hki : ¬ (k : Int) < (n : Int) := by omega
      have E := hide (show k = n by omega)
      go_wp2_with (fail)
      refine bodyPost_ret (by simp [results, Tryd.results14, go_sem]; try rfl) rfl ?_
      refine ⟨_, rfl, ?_, hB⟩
      have h9 := HR.out
      rw [take_len _ (by rw [HPL.out, E.out]; omega)] at h9
      obtain rfl := E.out
      exact h9
end Go.Proofs.YtkoijhecahebgaaDoor
