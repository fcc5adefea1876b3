/- Walk of the reference's Count where it takes the count (printed by gen_ae.py). -/
import Derived.Test.YtmakkdadhhpapaaDoorAlCnR
import Derived.Test.YtmakkdadhhpapaaDoorRegChain
import Derived.Test.YtmakkdadhhpapaaDoorTwoRows
import Derived.Deep.RegionLaw
import Derived.Deep.AppendLies
namespace Go.Proofs.YtmakkdadhhpapaaDoor
open Go.RowKit
set_option linter.unusedVariables false
set_option linter.unusedSimpArgs false
theorem info_came : (Tryd.prog.info? 73).map (fun i => (i.zero, i.size, i.bytes)) = some (some (.agg #[.string ByteArray.empty, .int .i64 0, .int .i64 0]), 3, 32) := by kernel_rfl
theorem info_boolA : (Tryd.prog.info? 4).map (fun i => (i.zero, i.size, i.bytes)) = some (some (.bool false), 1, 1) := by kernel_rfl
/-- The cells of a block that is known, as an append's source wants them. -/
theorem News.cells {w : World} {b : Nat} {cs : List Value} {t : TypeId} {fr : Nat × Nat} (h : w.heap[b]? = some (.cells cs.toArray t fr)) : ∀ j u, cs[j]? = some u → w.cell? ((⟨b, 0, none⟩ : Addr).add j) = some u := by
  intro j u hu
  have e : ((⟨b, 0, none⟩ : Addr).add j) = ⟨b, j, none⟩ := by
    unfold Addr.add; split
    · rename_i e; rw [e]
    · simp
  rw [e, block_cell h]
  simpa using hu
set_option maxRecDepth 100000 in
set_option maxHeartbeats 8000000 in
theorem rCount_ok (rb base B : Nat) (cur : Array Value) (A A2 : Option Addr) (m c c2 : Nat) (xs ys : List Value) (l : List Bool) (key : ByteArray) (t n wat : Int) (w : World) (hk : key.size ≤ maxLen) (hm : m ≤ 1000) (hb : w.heap[rb]? = some (.cells cur 69 (0, 0))) (h1 : cur[1]? = some (.int .i64 wat)) (h2 : cur[2]? = some (.slice A m c)) (h3 : cur[3]? = some (.slice A2 m c2))
    (hl : Sl w w.heap.size cb 1 A2 m l) (hown : w.ownsRow base 73 3 (.slice A m c) m xs) (hown2 : w.ownsRow base 4 1 (.slice A2 m c2) m ys) (hB1 : B ≤ base) (hB : B ≤ rb) (hbz : base ≤ w.heap.size) (hE : cntErr key t n wat = 0) :
    Calls Tryd.prog 9 #[.pointer (some ⟨rb, 0, none⟩), .string key, .int .i64 t, .int .i64 n] w fun e w' => ∃ v1 v2, e = .returned (.int .i64 0) ∧ w'.heap[rb]? = some (.cells (((cur.setIfInBounds 1 (.int .i64 t)).setIfInBounds 2 v1).setIfInBounds 3 v2) 69 (0, 0)) ∧
      w'.ownsRow base 73 3 v1 (m + 1) (xs ++ [.string key, .int .i64 t, .int .i64 n]) ∧ w'.ownsRow base 4 1 v2 (m + 1) (ys ++ [.bool true]) ∧ Keep B (fun k => k = rb ∨ (Value.slice A m c).ownBlock = some k ∨ (Value.slice A2 m c2).ownBlock = some k) w w' := by
  obtain ⟨i0, hi0, iz0, iz1, iz2⟩ := info_parts info_came
  obtain ⟨j0, hj0, jz0, jz1, jz2⟩ := info_parts info_boolA
  obtain ⟨hke, hmo, hou, hlt⟩ := cntErr_ok hE
  have e1 : w.cell? ⟨rb, 1, none⟩ = some (.int .i64 wat) := (block_cell hb 1).trans h1
  have e2 : w.cell? ⟨rb, 2, none⟩ = some (.slice A m c) := (block_cell hb 2).trans h2
  have e3 : w.cell? ⟨rb, 3, none⟩ = some (.slice A2 m c2) := (block_cell hb 3).trans h3
  have f1 : w.frozen? ⟨rb, 1, none⟩ = false := block_free hb 1
  have CW := hide (fun W => hke ▸ WordError_any key W hk)
  have CM := hide (show ∀ W, Calls Tryd.prog 6 #[.int .i64 t] W fun e w' => e = .returned (.bool true) ∧ W = w' from fun W => hmo ▸ Moment_any t W)
  have CO := hide (show ∀ W, Calls Tryd.prog 30 #[.int .i64 n, .int .i64 1, .int .i64 1000000] W fun e w' => e = .returned (.bool true) ∧ W = w' from fun W => by have := in_any n 1 1000000 W; rw [hou] at this; exact this)
  have CK := hide (rKept_any rb m c2 A2 l w (by omega) e3 hl)
  have hkm : keptN l ≤ m := by rw [← hl.len]; exact keptN_le l
  obtain ⟨q, hq⟩ : ∃ q, keptN l = q := ⟨_, rfl⟩
  rw [hq] at CK hkm
  have hlt' : decide (t < wat) = false := by simpa using hlt
  have hq2 : decide (5000 ≤ q) = false := by simp; omega
  have HC2 := hide (show (cur.setIfInBounds 1 (.int .i64 t))[2]? = some (.slice A m c) by rw [Array.getElem?_setIfInBounds, if_neg (by decide)]; exact h2)
  have HC3 := hide (show (cur.setIfInBounds 1 (.int .i64 t))[3]? = some (.slice A2 m c2) by rw [Array.getElem?_setIfInBounds, if_neg (by decide)]; exact h3)
  have HRW := hide (show TwoR B (fun k => k = rb ∨ (Value.slice A m c).ownBlock = some k ∨ (Value.slice A2 m c2).ownBlock = some k) w rb cur 69 base 73 3 (.slice A m c) m xs base 4 1 (.slice A2 m c2) m ys w from ⟨hb, hown, hown2, Keep.refl _ _ _⟩)
  have HRS := hide (HRW.out.set hB (.inl rfl) (by decide) (by decide) 1 (.int .i64 t))
  have HR1' := hide hown.lt
  have hrb := lt_of_block hb
  have HBW := hide (show B ≤ w.heap.size by omega)
  have HBZ := hide hbz
  have HB1 := hide hB1
  have HBR := hide hB
  clear hb h1 h3 h2 hown hown2 hke hmo hou hE hlt hl hq HRW hB1 hB hbz
  go_enter Tryd.func9, Tryd.ntmps9
  go_wp2_with (first | (go_at_call 29; refine (CW.out _).mono ?_; rintro e w' ⟨rfl, rfl⟩) | (go_at_call 6; refine (CM.out _).mono ?_; rintro e w' ⟨rfl, rfl⟩) | (go_at_call 30; refine (CO.out _).mono ?_; rintro e w' ⟨rfl, rfl⟩) | (go_at_call 19; refine CK.out.mono ?_; rintro e w' ⟨rfl, rfl⟩))
  obtain ⟨ws, hws⟩ : ∃ ws, w'.setCell ⟨rb, 1, none⟩ (.int .i64 t) = ws := ⟨_, rfl⟩
  have hsz : ws.heap.size = w'.heap.size := by rw [← hws]; simp
  have HR1 := hide (show ∀ k, (Value.slice A m c).ownBlock = some k → base ≤ k ∧ k < ws.heap.size from fun k hk => by rw [hsz]; exact HR1'.out k hk)
  rw [hws] at HRS ⊢
  have d2 : ws.cell? ⟨rb, 2, none⟩ = some (.slice A m c) := (block_cell HRS.out.box 2).trans HC2.out
  have d3 : ws.cell? ⟨rb, 3, none⟩ = some (.slice A2 m c2) := (block_cell HRS.out.box 3).trans HC3.out
  clear e1 e2 e3 f1 hws hsz CK CW CM CO HR1'
  refine wp_region_chain (fun W => W.cell? ⟨rb, 2, none⟩ = some (.slice A m c) ∧ W.cell? ⟨rb, 3, none⟩ = some (.slice A2 m c2)) 17 (by kernel_rfl) (N := 24) (by kernel_rfl) ?_
  intro hsh
  have hS0 : (fun W : World => W.cell? ⟨rb, 2, none⟩ = some (.slice A m c) ∧ W.cell? ⟨rb, 3, none⟩ = some (.slice A2 m c2)) ws.drew := ⟨by go_simp, by go_simp⟩
  have H0 := HRS.out.drew
  refine wpAnyC_take0 (i := 0) (k := 17) (v := ?_) rfl (by rfl) (by kernel_rfl) (by kernel_rfl) (by kernel_rfl) hsh (by decide) (by intro _ _ _ h; exact h) (by assumption) (Or.inl ⟨by rfl, ?hy⟩) ?_; (case hy => (intro W _; go_simp; (try with_reducible rfl))); clear hsh; intro hsh
  refine wpAnyC_take0 (i := 1) (k := 17) (v := ?_) rfl (by rfl) (by kernel_rfl) (by kernel_rfl) (by kernel_rfl) hsh (by decide) (by intro _ _ _ h; exact h) (by assumption) (Or.inl ⟨by rfl, ?hy⟩) ?_; (case hy => (intro W _; go_simp; (try with_reducible rfl))); clear hsh; intro hsh
  refine wpAnyC_take0 (i := 2) (k := 17) (v := ?_) rfl (by rfl) (by kernel_rfl) (by kernel_rfl) (by kernel_rfl) hsh (by decide) (by intro _ _ _ h; exact h) (by assumption) (Or.inl ⟨by rfl, ?hy⟩) ?_; (case hy => (intro W _; go_simp; (try with_reducible rfl))); clear hsh; intro hsh
  refine wpAnyC_take0 (i := 3) (k := 17) (v := ?_) rfl (by rfl) (by kernel_rfl) (by kernel_rfl) (by kernel_rfl) hsh (by decide) (by intro _ _ _ h; exact h) (by assumption) (Or.inl ⟨by rfl, ?hy⟩) ?_; (case hy => (intro W _; go_simp; (try with_reducible rfl))); clear hsh; intro hsh
  refine wpAnyC_take0 (i := 4) (k := 17) (v := ?_) rfl (by rfl) (by kernel_rfl) (by kernel_rfl) (by kernel_rfl) hsh (by decide) (by intro _ _ _ h; exact h) (by assumption) (Or.inl ⟨by rfl, ?hy⟩) ?_; (case hy => (intro W _; go_simp; (try with_reducible rfl))); clear hsh; intro hsh
  refine wpAnyC_take0 (i := 6) (k := 17) (v := ?_) rfl (by rfl) (by kernel_rfl) (by kernel_rfl) (by kernel_rfl) hsh (by decide) (by intro _ _ _ h; exact h) (by assumption) (Or.inl ⟨by rfl, ?hy⟩) ?_; (case hy => (intro W _; go_simp; (try with_reducible rfl))); clear hsh; intro hsh
  refine wpAnyC_take0 (i := 7) (k := 17) (v := ?_) rfl (by rfl) (by kernel_rfl) (by kernel_rfl) (by kernel_rfl) hsh (by decide) (by intro _ _ _ h; exact h) (by assumption) (Or.inl ⟨by rfl, ?hy⟩) ?_; (case hy => (intro W _; go_simp; (try with_reducible rfl))); clear hsh; intro hsh
  refine wpAnyC_take0 (i := 8) (k := 17) (v := ?_) rfl (by rfl) (by kernel_rfl) (by kernel_rfl) (by kernel_rfl) hsh (by decide) (by intro _ _ _ h; exact h) (by assumption) (Or.inl ⟨by rfl, ?hy⟩) ?_; (case hy => (intro W _; go_simp; (try with_reducible rfl))); clear hsh; intro hsh
  refine wpAnyC_take0 (i := 9) (k := 17) (v := ?_) rfl (by rfl) (by kernel_rfl) (by kernel_rfl) (by kernel_rfl) hsh (by decide) (by intro _ _ _ h; exact h) (by assumption) (Or.inl ⟨by rfl, ?hy⟩) ?_; (case hy => (intro W _; go_simp; (try with_reducible rfl))); clear hsh; intro hsh
  refine wpAnyC_take0 (i := 12) (k := 17) (v := ?_) rfl (by rfl) (by kernel_rfl) (by kernel_rfl) (by kernel_rfl) hsh (by decide) (by intro _ _ _ h; exact h) (by assumption) (Or.inl ⟨by rfl, ?hy⟩) ?_; (case hy => (intro W _; go_simp; (try with_reducible rfl))); clear hsh; intro hsh
  refine wpAnyC_take0 (i := 13) (k := 17) (v := ?_) rfl (by rfl) (by kernel_rfl) (by kernel_rfl) (by kernel_rfl) hsh (by decide) (by intro _ _ _ h; exact h) (by assumption) (Or.inl ⟨by rfl, ?hy⟩) ?_; (case hy => (intro W _; go_simp; (try with_reducible rfl))); clear hsh; intro hsh
  refine wpAnyC_take0 (i := 14) (k := 17) (v := ?_) rfl (by rfl) (by kernel_rfl) (by kernel_rfl) (by kernel_rfl) hsh (by decide) (by intro _ _ _ h; exact h) (by assumption) (Or.inl ⟨by rfl, ?hy⟩) ?_; (case hy => (intro W _; go_simp; (try with_reducible rfl))); clear hsh; intro hsh
  refine wpAnyC_take (i := 5) (k := 17) (f := 40) (v := ?_) rfl (by rfl) (by kernel_rfl) (by kernel_rfl) (by kernel_rfl) hsh (by decide) (by kernel_rfl) (by intro _ _ _ h; exact h) (by assumption) (Or.inl ⟨by rfl, ?hy⟩) ?_; (case hy => (intro W hSW; have hSW1 := hSW.1; have hSW2 := hSW.2; clear hSW; go_simp; (try with_reducible rfl))); clear hsh; intro hsh
  refine wpAnyC_take (i := 15) (k := 17) (f := 40) (v := ?_) rfl (by rfl) (by kernel_rfl) (by kernel_rfl) (by kernel_rfl) hsh (by decide) (by kernel_rfl) (by intro _ _ _ h; exact h) (by assumption) (Or.inl ⟨by rfl, ?hy⟩) ?_; (case hy => (intro W hSW; have hSW1 := hSW.1; have hSW2 := hSW.2; clear hSW; go_simp; (try with_reducible rfl))); clear hsh; intro hsh
  refine wpAnyC_ready (rs := [10, 16]) (by kernel_rfl) (by simp) ?_
  refine AllC.cons (i := 10) rfl (by kernel_rfl) hsh (fun K hK => ?_) ?_
  · go_simp
    have H1 := H0.alloc HBW.out (.cells #[.string key, .int .i64 t, .int .i64 n] 73)
    refine hK _ _ (fun _ => ⟨(block_cell H1.box 2).trans HC2.out, (block_cell H1.box 3).trans HC3.out⟩) ?_
    clear hK K hsh
    intro hsh
    refine wpAnyC_ready (rs := [11, 16]) (by kernel_rfl) (by simp) ?_
    refine AllC.cons (i := 11) rfl (by kernel_rfl) hsh (fun K hK => ?_) ?_
    · refine step_append_lies _ (by rfl) (.tmp 44) (.tmp 49) 66 (by rfl) base 73 i0 (.agg #[.string ByteArray.empty, .int .i64 0, .int .i64 0]) 3 32 Tryd.underlying66 hi0 iz0 iz1 iz2 rfl (by omega) (.slice A m c) m xs (by rfl) H1.r1 ⟨ws.heap.size, 0, none⟩ 1 1 [.string key, .int .i64 t, .int .i64 n] (by rfl) (by rfl) (cells_at ws.drew [.string key, .int .i64 t, .int .i64 n] 73 _ rfl) (by intro u hu; simp at hu; rcases hu with rfl | rfl | rfl <;> rfl) (by omega) (by unfold maxLen; omega) (by omega) (Nat.le_trans HBZ.out H1.kp.be.size) _ rfl ?_
      intro g7 q7 w7 hown hgr _ _
      have H2 := H1.grow1 HBW.out HB1.out (by decide) (by decide) (fun k hk => .inr (.inl hk)) hgr hown
      refine hK _ _ (fun _ => ⟨(block_cell H2.box 2).trans HC2.out, (block_cell H2.box 3).trans HC3.out⟩) ?_
      clear hK K hown hgr hsh
      intro hsh
      refine wpAnyC_ready (rs := [16]) (by kernel_rfl) (by simp) ?_
      refine AllC.cons (i := 16) rfl (by kernel_rfl) hsh (fun K hK => ?_) ?_
      · go_simp
        have H3 := H2.alloc HBW.out (.cells #[.bool true] 4)
        refine hK _ _ (fun _ => ⟨(block_cell H3.box 2).trans HC2.out, (block_cell H3.box 3).trans HC3.out⟩) ?_
        clear hK K hsh
        intro hsh
        refine wpAnyC_ready (rs := [17]) (by kernel_rfl) (by simp) ?_
        refine AllC.cons (i := 17) rfl (by kernel_rfl) hsh (fun K hK => ?_) ?_
        · refine step_append_lies _ (by rfl) (.tmp 54) (.tmp 55) 67 (by rfl) base 4 j0 (.bool false) 1 1 Tryd.underlying67 hj0 jz0 jz1 jz2 rfl (by omega) (.slice A2 m c2) m ys (by rfl) H3.r2 ⟨w7.heap.size, 0, none⟩ 1 1 [.bool true] (by rfl) (by rfl) (cells_at w7 [.bool true] 4 _ rfl) (by intro u hu; simp at hu; subst hu; rfl) (by omega) (by unfold maxLen; omega) (by omega) (Nat.le_trans HBZ.out H3.kp.be.size) _ rfl ?_
          intro g8 q8 w8 hown hgr _ _
          have H4 := H3.grow2 HBW.out HB1.out (by decide) (by decide) (fun k hk => .inr (.inr hk)) hgr hown
          refine hK _ _ (fun h => absurd (h.symm.trans (by kernel_rfl)) (show ¬ (false = true) by decide)) ?_
          clear hK K hown hgr hsh
          intro hsh
          refine wpAnyC_seq 18 (by kernel_rfl) (by kernel_rfl) (by kernel_rfl) ?_
          simp only [List.drop_succ_cons, List.drop_zero]
          have f2 : w8.cell? ⟨rb, 2, none⟩ = some (.slice A m c) := (block_cell H4.box 2).trans HC2.out
          have f3 : w8.cell? ⟨rb, 3, none⟩ = some (.slice A2 m c2) := (block_cell H4.box 3).trans HC3.out
          have z2 : w8.frozen? ⟨rb, 2, none⟩ = false := block_free H4.box 2
          have z3 : w8.frozen? ⟨rb, 3, none⟩ = false := block_free H4.box 3
          have HE := hide ((H4.set HBR.out (.inl rfl) (by decide) (by decide) 2 (.slice (some ⟨g7, 0, none⟩) (m + 1) q7)).set HBR.out (.inl rfl) (by decide) (by decide) 3 (.slice (some ⟨g8, 0, none⟩) (m + 1) q8))
          clear hsh
          simp only [Act.put, Act.eval]
          go_wp2_with (fail)
          go_ret
          exact ⟨rfl, _, _, HE.out.box, HE.out.r1, HE.out.r2, HE.out.kp⟩
        exact AllC.nil
      exact AllC.nil
    refine AllC.cons (i := 16) rfl (by kernel_rfl) hsh (fun K hK => ?_) ?_
    · go_simp
      have H2 := H1.alloc HBW.out (.cells #[.bool true] 4)
      refine hK _ _ (fun _ => ⟨(block_cell H2.box 2).trans HC2.out, (block_cell H2.box 3).trans HC3.out⟩) ?_
      clear hK K hsh
      intro hsh
      refine wpAnyC_ready (rs := [11]) (by kernel_rfl) (by simp) ?_
      refine AllC.cons (i := 11) rfl (by kernel_rfl) hsh (fun K hK => ?_) ?_
      · refine step_append_lies _ (by rfl) (.tmp 44) (.tmp 49) 66 (by rfl) base 73 i0 (.agg #[.string ByteArray.empty, .int .i64 0, .int .i64 0]) 3 32 Tryd.underlying66 hi0 iz0 iz1 iz2 rfl (by omega) (.slice A m c) m xs (by rfl) H2.r1 ⟨ws.heap.size, 0, none⟩ 1 1 [.string key, .int .i64 t, .int .i64 n] (by rfl) (by rfl) (News.cells (block_below (heap_alloc_new ws.drew (.cells #[.string key, .int .i64 t, .int .i64 n] 73)) ((Below.refl _ _).alloc (Nat.le_refl _) (.cells #[.bool true] 4)))) (by intro u hu; simp at hu; rcases hu with rfl | rfl | rfl <;> rfl) (by omega) (by unfold maxLen; omega) (by omega) (Nat.le_trans HBZ.out H2.kp.be.size) _ rfl ?_
        intro g7 q7 w7 hown hgr _ _
        have H3 := H2.grow1 HBW.out HB1.out (by decide) (by decide) (fun k hk => .inr (.inl hk)) hgr hown
        have HBB := grown_block hgr (show ((ws.drew.alloc (.cells #[.string key, .int .i64 t, .int .i64 n] 73)).alloc (.cells #[.bool true] 4)).heap[ws.heap.size + 1]? = some (.cells #[.bool true] 4) by have h := heap_alloc_new (ws.drew.alloc (.cells #[.string key, .int .i64 t, .int .i64 n] 73)) (.cells #[.bool true] 4); simpa using h) (fun e => by have := (HR1.out _ e).2; omega)
        refine hK _ _ (fun _ => ⟨(block_cell H3.box 2).trans HC2.out, (block_cell H3.box 3).trans HC3.out⟩) ?_
        clear hK K hown hgr hsh
        intro hsh
        refine wpAnyC_ready (rs := [17]) (by kernel_rfl) (by simp) ?_
        refine AllC.cons (i := 17) rfl (by kernel_rfl) hsh (fun K hK => ?_) ?_
        · refine step_append_lies _ (by rfl) (.tmp 54) (.tmp 55) 67 (by rfl) base 4 j0 (.bool false) 1 1 Tryd.underlying67 hj0 jz0 jz1 jz2 rfl (by omega) (.slice A2 m c2) m ys (by rfl) H3.r2 ⟨ws.heap.size + 1, 0, none⟩ 1 1 [.bool true] (by rfl) (by rfl) (News.cells HBB) (by intro u hu; simp at hu; subst hu; rfl) (by omega) (by unfold maxLen; omega) (by omega) (Nat.le_trans HBZ.out H3.kp.be.size) _ rfl ?_
          intro g8 q8 w8 hown hgr _ _
          have H4 := H3.grow2 HBW.out HB1.out (by decide) (by decide) (fun k hk => .inr (.inr hk)) hgr hown
          refine hK _ _ (fun h => absurd (h.symm.trans (by kernel_rfl)) (show ¬ (false = true) by decide)) ?_
          clear hK K hown hgr hsh
          intro hsh
          refine wpAnyC_seq 18 (by kernel_rfl) (by kernel_rfl) (by kernel_rfl) ?_
          simp only [List.drop_succ_cons, List.drop_zero]
          have f2 : w8.cell? ⟨rb, 2, none⟩ = some (.slice A m c) := (block_cell H4.box 2).trans HC2.out
          have f3 : w8.cell? ⟨rb, 3, none⟩ = some (.slice A2 m c2) := (block_cell H4.box 3).trans HC3.out
          have z2 : w8.frozen? ⟨rb, 2, none⟩ = false := block_free H4.box 2
          have z3 : w8.frozen? ⟨rb, 3, none⟩ = false := block_free H4.box 3
          have HE := hide ((H4.set HBR.out (.inl rfl) (by decide) (by decide) 2 (.slice (some ⟨g7, 0, none⟩) (m + 1) q7)).set HBR.out (.inl rfl) (by decide) (by decide) 3 (.slice (some ⟨g8, 0, none⟩) (m + 1) q8))
          clear hsh
          simp only [Act.put, Act.eval]
          go_wp2_with (fail)
          go_ret
          exact ⟨rfl, _, _, HE.out.box, HE.out.r1, HE.out.r2, HE.out.kp⟩
        exact AllC.nil
      exact AllC.nil
    exact AllC.nil
  refine AllC.cons (i := 16) rfl (by kernel_rfl) hsh (fun K hK => ?_) ?_
  · go_simp
    have H1 := H0.alloc HBW.out (.cells #[.bool true] 4)
    refine hK _ _ (fun _ => ⟨(block_cell H1.box 2).trans HC2.out, (block_cell H1.box 3).trans HC3.out⟩) ?_
    clear hK K hsh
    intro hsh
    refine wpAnyC_ready (rs := [10]) (by kernel_rfl) (by simp) ?_
    refine AllC.cons (i := 10) rfl (by kernel_rfl) hsh (fun K hK => ?_) ?_
    · go_simp
      have H2 := H1.alloc HBW.out (.cells #[.string key, .int .i64 t, .int .i64 n] 73)
      refine hK _ _ (fun _ => ⟨(block_cell H2.box 2).trans HC2.out, (block_cell H2.box 3).trans HC3.out⟩) ?_
      clear hK K hsh
      intro hsh
      refine wpAnyC_ready (rs := [11]) (by kernel_rfl) (by simp) ?_
      refine AllC.cons (i := 11) rfl (by kernel_rfl) hsh (fun K hK => ?_) ?_
      · refine step_append_lies _ (by rfl) (.tmp 44) (.tmp 49) 66 (by rfl) base 73 i0 (.agg #[.string ByteArray.empty, .int .i64 0, .int .i64 0]) 3 32 Tryd.underlying66 hi0 iz0 iz1 iz2 rfl (by omega) (.slice A m c) m xs (by rfl) H2.r1 ⟨ws.heap.size + 1, 0, none⟩ 1 1 [.string key, .int .i64 t, .int .i64 n] (by rfl) (by rfl) (News.cells (show ((ws.drew.alloc (.cells #[.bool true] 4)).alloc (.cells #[.string key, .int .i64 t, .int .i64 n] 73)).heap[ws.heap.size + 1]? = some (.cells #[.string key, .int .i64 t, .int .i64 n] 73) by have h := heap_alloc_new (ws.drew.alloc (.cells #[.bool true] 4)) (.cells #[.string key, .int .i64 t, .int .i64 n] 73); simpa using h)) (by intro u hu; simp at hu; rcases hu with rfl | rfl | rfl <;> rfl) (by omega) (by unfold maxLen; omega) (by omega) (Nat.le_trans HBZ.out H2.kp.be.size) _ rfl ?_
        intro g7 q7 w7 hown hgr _ _
        have H3 := H2.grow1 HBW.out HB1.out (by decide) (by decide) (fun k hk => .inr (.inl hk)) hgr hown
        have HBB := grown_block hgr (block_below (heap_alloc_new ws.drew (.cells #[.bool true] 4)) ((Below.refl _ _).alloc (Nat.le_refl _) (.cells #[.string key, .int .i64 t, .int .i64 n] 73))) (fun e => by have := (HR1.out _ e).2; exact absurd this (Nat.lt_irrefl _))
        refine hK _ _ (fun _ => ⟨(block_cell H3.box 2).trans HC2.out, (block_cell H3.box 3).trans HC3.out⟩) ?_
        clear hK K hown hgr hsh
        intro hsh
        refine wpAnyC_ready (rs := [17]) (by kernel_rfl) (by simp) ?_
        refine AllC.cons (i := 17) rfl (by kernel_rfl) hsh (fun K hK => ?_) ?_
        · refine step_append_lies _ (by rfl) (.tmp 54) (.tmp 55) 67 (by rfl) base 4 j0 (.bool false) 1 1 Tryd.underlying67 hj0 jz0 jz1 jz2 rfl (by omega) (.slice A2 m c2) m ys (by rfl) H3.r2 ⟨ws.heap.size, 0, none⟩ 1 1 [.bool true] (by rfl) (by rfl) (News.cells HBB) (by intro u hu; simp at hu; subst hu; rfl) (by omega) (by unfold maxLen; omega) (by omega) (Nat.le_trans HBZ.out H3.kp.be.size) _ rfl ?_
          intro g8 q8 w8 hown hgr _ _
          have H4 := H3.grow2 HBW.out HB1.out (by decide) (by decide) (fun k hk => .inr (.inr hk)) hgr hown
          refine hK _ _ (fun h => absurd (h.symm.trans (by kernel_rfl)) (show ¬ (false = true) by decide)) ?_
          clear hK K hown hgr hsh
          intro hsh
          refine wpAnyC_seq 18 (by kernel_rfl) (by kernel_rfl) (by kernel_rfl) ?_
          simp only [List.drop_succ_cons, List.drop_zero]
          have f2 : w8.cell? ⟨rb, 2, none⟩ = some (.slice A m c) := (block_cell H4.box 2).trans HC2.out
          have f3 : w8.cell? ⟨rb, 3, none⟩ = some (.slice A2 m c2) := (block_cell H4.box 3).trans HC3.out
          have z2 : w8.frozen? ⟨rb, 2, none⟩ = false := block_free H4.box 2
          have z3 : w8.frozen? ⟨rb, 3, none⟩ = false := block_free H4.box 3
          have HE := hide ((H4.set HBR.out (.inl rfl) (by decide) (by decide) 2 (.slice (some ⟨g7, 0, none⟩) (m + 1) q7)).set HBR.out (.inl rfl) (by decide) (by decide) 3 (.slice (some ⟨g8, 0, none⟩) (m + 1) q8))
          clear hsh
          simp only [Act.put, Act.eval]
          go_wp2_with (fail)
          go_ret
          exact ⟨rfl, _, _, HE.out.box, HE.out.r1, HE.out.r2, HE.out.kp⟩
        exact AllC.nil
      exact AllC.nil
    exact AllC.nil
  exact AllC.nil
end Go.Proofs.YtmakkdadhhpapaaDoor
