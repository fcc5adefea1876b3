/- NmDqA, NmDqB, NmDqC, NmDqD, NmDqF, NmDqG: texts of one's own, in one file. -/
import Derived.Test.YtocpmbpckbjepaaDoorNmGE
import Derived.Test.YtocpmbpckbjepaaDoorNmDmY
import Derived.Test.YtocpmbpckbjepaaDoorNmSymE
import Derived.BigRegion
/- Names read where something was wrong before; copies of symbols. -/
namespace Go.Proofs.YtocpmbpckbjepaaDoor
open Go.RowKit
set_option linter.unusedVariables false
set_option linter.unusedSimpArgs false
set_option maxRecDepth 100000 in
set_option maxHeartbeats 4000000 in
theorem nNam_off (B c mb : Nat) (s : ByteArray) (D : List Nd) (F : Nat → Prop) (w : World) (hB : B ≤ w.heap.size) (i : Nat) (q d : Int) (hi : i ≤ 100000) (h0 : 0 ≤ q) (h : nS B c mb s i q D F w) :
    Calls Tryd.prog 25 #[.pointer (some ⟨c, 0, none⟩), .int .i64 d] w fun e w' => e = .returned (.tuple #[.slice none 0 0, .string ⟨#[78]⟩]) ∧ nR B c mb s ((i + 2 : Nat) : Int) q D F F w w' := by
  have HTN := hide (nTake_off B c mb s D F w hB i q 78 (by omega) h0 h)
  have hq : decide (q < 0) = false := by simp; omega
  clear h
  go_enter Tryd.func25, Tryd.ntmps25
  go_wp2_with (first | (go_at_call 24; refine HTN.out.mono ?_; rintro e w0 ⟨rfl, hr⟩; have HR0 := hide hr; clear hr))
  go_loopw [6, 7] (fun vrow vk wr => vrow = .slice none 0 0 ∧ vk = .string ⟨#[78]⟩ ∧ wr = w0) (fun _ _ _ => 0)
  case atStart => exact ⟨rfl, rfl, rfl⟩
  case round =>
    obtain ⟨rfl, rfl, rfl⟩ := hrel
    have c2 := HR0.out.st.c2
    have HTK := hide (nTake_off B c mb s D F wr (Nat.le_trans hB HR0.out.size) (i + 1) q 69 (by omega) h0 HR0.out.st)
    go_wp2_with (first | (go_at_call 24; refine HTK.out.mono ?_; rintro e w2 ⟨rfl, hr⟩; have HQ2 := hide (HR0.out.trans hr); clear hr))
    go_ret2
    exact ⟨rfl, HQ2.out⟩
end Go.Proofs.YtocpmbpckbjepaaDoor

/- Walks of copySymbol and copied (printed by gen_qb.py). -/
namespace Go.Proofs.YtocpmbpckbjepaaDoor
open Go.RowKit
set_option linter.unusedVariables false
set_option linter.unusedSimpArgs false
theorem tyS_up {w : World} {F : Nat → Prop} {a : Ty} {cs : List Value} : ∀ (d k : Nat), TyS w F k a cs → TyS w F (k + d) a cs
  | 0, _, h => h
  | d + 1, k, h => (tyS_up d k h).deeper
/-- A symbol whose trees lie in F. -/
theorem symU {w : World} {F F' : Nat → Prop} {s : Sym} {A A' : Option Addr} {n c n' c' : Nat} (h1 : SlS w F 2 (PartU w F) A n s.name) (h2 : SlS w F' 3 (TyU w F') A' n' s.takes) (a1 : n ≤ c) (a2 : c ≤ maxLen) (a3 : n' ≤ c') (a4 : c' ≤ maxLen) : ∃ k, SymIn w k s [.slice A n c, .slice A' n' c'] := by
  obtain ⟨k, hk⟩ := parts_bound h1
  obtain ⟨j, hj⟩ := tys_bound h2
  refine ⟨k + j, A, n, c, A', n', c', rfl, a1, a2, a3, a4, hk.toP (fun b _ h => h) (fun p _ cs h => ?_), hj.toP (fun b _ h => h) (fun a _ cs h => ?_)⟩
  · obtain ⟨B, m, cap, e, g1, g2, g3, g4⟩ := h
    exact ⟨B, m, cap, e, g1, g2, g3, g4.toP (fun b _ h => h) (fun a _ cs h => TyS.toP (fun b _ h => h) (tyS_up j k h))⟩
  · rw [Nat.add_comm k j]; exact TyS.toP (fun b _ h => h) (tyS_up k j h)
set_option maxRecDepth 100000 in
set_option maxHeartbeats 8000000 in
theorem nSym_copy (k : Nat) (s : Sym) (cs : List Value) (w : World) (hin : SymIn w k s cs) (h0 : (symE s).1 = 0) :
    Calls Tryd.prog 29 #[.agg cs.toArray] w fun e w' => ∃ (k' : Nat) (cs' : List Value), e = .returned (.agg cs'.toArray) ∧ SymIn w' k' s cs' ∧ Below w.heap.size w w' ∧ ∀ W : World, w'.heap.size ≤ W.heap.size → (∀ j o, w.heap.size ≤ j → w'.heap[j]? = some o → W.heap[j]? = some o) → ∃ k2, SymIn W k2 s cs' := by
  obtain ⟨A, n, c, A2, n2, c2, rfl, hnc, hcm, hnc2, hcm2, hl, hl2⟩ := hin
  obtain ⟨g1, g2, g3, g4, g5, _⟩ := sym_good h0
  have hn20 : n ≤ 20 := by rw [← hl.len]; exact g3
  have hn21 : n2 ≤ 21 := by rw [← hl2.len]; omega
  have HP := hide (nCp_all 12).1
  have HT := hide (nCp_all 12).2
  have HL1 := hide hl
  have HL2 := hide hl2
  have HG1 := hide (show ∀ p ∈ s.name, p.2.length ≤ 20 ∧ ∀ x ∈ p.2, Good 12 x from fun p hp => ⟨(g1 p hp).2.1, (g1 p hp).2.2⟩)
  have HG2 := hide (show ∀ t ∈ s.takes, Good 12 t from g4)
  have HB := hide (below_drewN (Below.alloc (Below.alloc (Below.refl w.heap.size w) (Nat.le_refl _) (.cells #[.slice A n c, .slice A2 n2 c2] 25)) (by simp) (.cells #[.slice none 0 0, .slice none 0 0] 25)) 1)
  have HX := hide (show ((w.alloc (.cells #[.slice A n c, .slice A2 n2 c2] 25)).alloc (.cells #[.slice none 0 0, .slice none 0 0] 25)).drew.heap[w.heap.size]? = some (.cells #[.slice A n c, .slice A2 n2 c2] 25) from block_below (heap_alloc_new w (.cells #[.slice A n c, .slice A2 n2 c2] 25)) (below_2C _ _))
  have HRE := hide (show ((w.alloc (.cells #[.slice A n c, .slice A2 n2 c2] 25)).alloc (.cells #[.slice none 0 0, .slice none 0 0] 25)).drew.heap[w.heap.size + 1]? = some (.cells #[.slice none 0 0, .slice none 0 0] 25) from (show ((w.alloc (.cells #[.slice A n c, .slice A2 n2 c2] 25)).alloc (.cells #[.slice none 0 0, .slice none 0 0] 25)).heap[w.heap.size + 1]? = some (.cells #[.slice none 0 0, .slice none 0 0] 25) from by have := heap_alloc_new (w.alloc (.cells #[.slice A n c, .slice A2 n2 c2] 25)) (.cells #[.slice none 0 0, .slice none 0 0] 25); simpa using this))
  have HZ := hide (show w.heap.size + 2 ≤ ((w.alloc (.cells #[.slice A n c, .slice A2 n2 c2] 25)).alloc (.cells #[.slice none 0 0, .slice none 0 0] 25)).drew.heap.size by simp)
  clear hl hl2 g1 g2 g3 g4 g5
  go_enter Tryd.func29, Tryd.ntmps29
  go_wp2_with (fail)
  obtain ⟨wq, hwq⟩ : ∃ x, (w.alloc (.cells #[.slice A n c, .slice A2 n2 c2] 25)).alloc (.cells #[.slice none 0 0, .slice none 0 0] 25) = x := ⟨_, rfl⟩
  rw [hwq] at HB HX HRE HZ ⊢
  have HB : Hid (Below w.heap.size w wq.drew) := HB
  clear hwq
  refine wp_region_chain (fun W => W.cell? ⟨w.heap.size, 0, none⟩ = some (.slice A n c) ∧ W.cell? ⟨w.heap.size, 1, none⟩ = some (.slice A2 n2 c2)) 7 (by as_aux_lemma => kernel_rfl) (N := 8) (by as_aux_lemma => kernel_rfl) ?_; intro hsh
  have HS : wq.drew.cell? ⟨w.heap.size, 0, none⟩ = some (.slice A n c) ∧ wq.drew.cell? ⟨w.heap.size, 1, none⟩ = some (.slice A2 n2 c2) := ⟨block_cell HX.out 0, block_cell HX.out 1⟩
  refine wpAnyC_take0 (i := 0) (k := 7) (v := ?_) (d := some 3) rfl (by rfl) (by as_aux_lemma => kernel_rfl) (by as_aux_lemma => kernel_rfl) (by as_aux_lemma => kernel_rfl) hsh (by decide) (by intro _ _ _ h; exact h) (by assumption) (Or.inl ⟨by rfl, ?hy⟩) ?_; (case hy => (intro W _; go_simp; (try with_reducible rfl))); clear hsh; intro hsh
  refine wpAnyC_take (i := 1) (k := 7) (f := 40) (v := ?_) (d := some 4) rfl (by rfl) (by as_aux_lemma => kernel_rfl) (by as_aux_lemma => kernel_rfl) (by as_aux_lemma => kernel_rfl) hsh (by decide) (by as_aux_lemma => kernel_rfl) (by intro _ _ _ h; exact h) (by assumption) (Or.inl ⟨by rfl, ?hy⟩) ?_; (case hy => (rintro W ⟨y0, y1⟩; go_simp; (try with_reducible rfl))); clear hsh; intro hsh
  refine wpAnyC_take0 (i := 3) (k := 7) (v := ?_) (d := some 6) rfl (by rfl) (by as_aux_lemma => kernel_rfl) (by as_aux_lemma => kernel_rfl) (by as_aux_lemma => kernel_rfl) hsh (by decide) (by intro _ _ _ h; exact h) (by assumption) (Or.inl ⟨by rfl, ?hy⟩) ?_; (case hy => (intro W _; go_simp; (try with_reducible rfl))); clear hsh; intro hsh
  refine wpAnyC_take (i := 4) (k := 7) (f := 40) (v := ?_) (d := some 7) rfl (by rfl) (by as_aux_lemma => kernel_rfl) (by as_aux_lemma => kernel_rfl) (by as_aux_lemma => kernel_rfl) hsh (by decide) (by as_aux_lemma => kernel_rfl) (by intro _ _ _ h; exact h) (by assumption) (Or.inl ⟨by rfl, ?hy⟩) ?_; (case hy => (rintro W ⟨y0, y1⟩; go_simp; (try with_reducible rfl))); clear hsh; intro hsh
  refine wpAnyC_ready (rs := [2]) (by as_aux_lemma => kernel_rfl) (by simp) ?_; refine AllC.cons (i := 2) rfl (by as_aux_lemma => kernel_rfl) hsh (fun K hK => ?_) AllC.nil
  go_simp
  go_at_call 49
  refine (HP.out k A n c s.name w.heap.size wq.drew (HB.out.size) hnc hcm hn20 (parts_below HL1.out HB.out) HG1.out).mono ?_
  rintro e w1 ⟨B1, q1, G1, rfl, hq1, hm1, hs1, hn1, hb1⟩
  have HX1 := hide (block_below HX.out hb1)
  try go_simp
  refine hK _ _ (fun _ => ⟨block_cell HX1.out 0, block_cell HX1.out 1⟩) ?_
  clear hK K hsh HS
  intro hsh
  have HS : w1.cell? ⟨w.heap.size, 0, none⟩ = some (.slice A n c) ∧ w1.cell? ⟨w.heap.size, 1, none⟩ = some (.slice A2 n2 c2) := ⟨block_cell HX1.out 0, block_cell HX1.out 1⟩
  refine wpAnyC_ready (rs := [5]) (by as_aux_lemma => kernel_rfl) (by simp) ?_; refine AllC.cons (i := 5) rfl (by as_aux_lemma => kernel_rfl) hsh (fun K hK => ?_) AllC.nil
  go_simp
  go_at_call 50
  refine (HT.out k A2 n2 c2 s.takes w.heap.size w1 (Nat.le_trans HB.out.size hb1.size) hnc2 hcm2 hn21 (tys_below HL2.out (HB.out.trans (hb1.mono HB.out.size))) HG2.out).mono ?_
  rintro e w2 ⟨B2, q2, G2, rfl, hq2, hm2, hs2, hn2, hb2⟩
  have HX2 := hide (block_below HX1.out hb2)
  try go_simp
  refine hK _ _ (fun _ => ⟨block_cell HX2.out 0, block_cell HX2.out 1⟩) ?_
  clear hK K hsh HS
  intro hsh
  have HS : w2.cell? ⟨w.heap.size, 0, none⟩ = some (.slice A n c) ∧ w2.cell? ⟨w.heap.size, 1, none⟩ = some (.slice A2 n2 c2) := ⟨block_cell HX2.out 0, block_cell HX2.out 1⟩
  refine wpAnyC_take0 (i := 6) (k := 7) (v := ?_) (d := some 9) rfl (by rfl) (by as_aux_lemma => kernel_rfl) (by as_aux_lemma => kernel_rfl) (by as_aux_lemma => kernel_rfl) hsh (by decide) (by intro _ _ _ h; exact h) (by assumption) (Or.inl ⟨by rfl, ?hy⟩) ?_; (case hy => (intro W _; go_simp; (try with_reducible rfl))); clear hsh; intro hsh
  refine wpAnyC_tail (by as_aux_lemma => kernel_rfl) (by simp) (by as_aux_lemma => kernel_rfl) ?_; simp only [List.drop_succ_cons, List.drop_zero]; clear hsh
  go_simp
  have hbq := HB.out
  have hb12 : Below w.heap.size w w2 := (hbq.trans (hb1.mono hbq.size)).trans (hb2.mono (Nat.le_trans hbq.size hb1.size))
  have HB12 := hide hb12
  have hre := block_below (block_below HRE.out hb1) hb2
  have x0 := block_cell hre 0
  have x1 := block_cell hre 1
  have fx0 := block_free hre 0
  have fx1 := block_free hre 1
  have HRE2 := hide hre
  clear hre hb12
  go_wp2_with (fail)
  have hst : ∀ j, j ≠ w.heap.size + 1 → ∀ o, w2.heap[j]? = some o → ((w2.setCell ⟨w.heap.size + 1, 0, none⟩ (.slice B1 n q1)).setCell ⟨w.heap.size + 1, 1, none⟩ (.slice B2 n2 q2)).heap[j]? = some o := fun j hj o e => block_set_other (block_set_other e _ _ hj) _ _ hj
  have hz2 : wq.drew.heap.size ≤ w1.heap.size := hb1.size
  have hzz : w.heap.size + 2 ≤ wq.drew.heap.size := HZ.out
  have h1 := hs1.stay (S' := G1) (R' := PartU w2 G1) ⟨hb2.size, fun b o _ e => block_below e hb2⟩ (fun _ h _ => h) (fun a _ cs h => stay_partU _ _ _ _ a cs h ⟨hb2.size, fun b o _ e => block_below e hb2⟩ (fun _ h _ => h))
  have hS1 : StayS G1 w2 ((w2.setCell ⟨w.heap.size + 1, 0, none⟩ (.slice B1 n q1)).setCell ⟨w.heap.size + 1, 1, none⟩ (.slice B2 n2 q2)) := ⟨by simp, fun b o hb e => hst b (by have := (hn1 b hb).1; omega) o e⟩
  have hS2 : StayS G2 w2 ((w2.setCell ⟨w.heap.size + 1, 0, none⟩ (.slice B1 n q1)).setCell ⟨w.heap.size + 1, 1, none⟩ (.slice B2 n2 q2)) := ⟨by simp, fun b o hb e => hst b (by have := (hn2 b hb).1; omega) o e⟩
  have H1 := h1.stay (S' := G1) (R' := PartU _ G1) hS1 (fun _ h _ => h) (fun a _ cs h => stay_partU _ _ _ _ a cs h hS1 (fun _ h _ => h))
  have H2 := hs2.stay (S' := G2) (R' := TyU _ G2) hS2 (fun _ h _ => h) (fun a _ cs h => stay_tyU _ _ _ _ a cs h hS2 (fun _ h _ => h))
  clear hst hS1 hS2 h1
  have hbe := (HB12.out.setCell (p := ⟨w.heap.size + 1, 0, none⟩) (by simp) (.slice B1 n q1)).setCell (p := ⟨w.heap.size + 1, 1, none⟩) (by simp) (.slice B2 n2 q2)
  have hrb := block_set (i := 1) (block_set (i := 0) HRE2.out (.slice B1 n q1)) (.slice B2 n2 q2)
  generalize World.setCell _ (⟨w.heap.size + 1, 1, none⟩ : Addr) _ = wz at H1 H2 hbe hrb ⊢
  have r0 := block_cell hrb 0
  have r1 := block_cell hrb 1
  simp at r0 r1
  ((try simp only [Exit.inBlock, Exit.then]); refine bodyPost_ret (by simp [results, Tryd.results29, go_sem, r0, r1]; try rfl) rfl ?_)
  obtain ⟨k', hk'⟩ := symU (s := s) H1 H2 hq1 hm1 hq2 hm2
  refine ⟨k', _, rfl, hk', hbe, fun W hWz hW => ?_⟩
  have e1 : StayS G1 wz W := ⟨hWz, fun b o hb e => hW b o (by have := (hn1 b hb).1; omega) e⟩
  have e2 : StayS G2 wz W := ⟨hWz, fun b o hb e => hW b o (by have := (hn2 b hb).1; omega) e⟩
  exact symU (s := s) (H1.stay (S' := G1) (R' := PartU _ G1) e1 (fun _ h _ => h) (fun a _ cs h => stay_partU _ _ _ _ a cs h e1 (fun _ h _ => h))) (H2.stay (S' := G2) (R' := TyU _ G2) e2 (fun _ h _ => h) (fun a _ cs h => stay_tyU _ _ _ _ a cs h e2 (fun _ h _ => h))) hq1 hm1 hq2 hm2
end Go.Proofs.YtocpmbpckbjepaaDoor

/- Demangle of the program: the state that it begins with; what take and parts leave behind. -/
namespace Go.Proofs.YtocpmbpckbjepaaDoor
open Go.RowKit
set_option linter.unusedVariables false
set_option linter.unusedSimpArgs false
abbrev sym0 : Obj := .cells #[.slice none 0 0, .slice none 0 0] 25
/-- The world with the answer's block, the map and the reader; the symbol's block is laid behind it. -/
abbrev nWorld (w : World) (s : ByteArray) : World := ((w.alloc sym0).alloc (.map #[] 0)).alloc (.cells #[.string s, .int .i64 0, .int .i64 (-1), .map (some (w.heap.size + 1)), .slice none 0 0] 69)
abbrev noF : Nat → Prop := fun _ => False
theorem below_4 (w : World) (a b c d : Obj) : Below w.heap.size w ((((w.alloc a).alloc b).alloc c).alloc d) := Below.alloc (Below.alloc (Below.alloc (Below.alloc (Below.refl w.heap.size w) (Nat.le_refl _) a) (by simp) b) (by simp; omega) c) (by simp; omega) d
theorem nWorld_st (w : World) (s : ByteArray) : nS w.heap.size (w.heap.size + 2) (w.heap.size + 1) s ((0 : Nat) : Int) (-1) [] noF (nWorld w s) := by
  have h2 : ((w.alloc sym0).alloc (.map #[] 0)).heap.size = w.heap.size + 2 := by simp
  have hb : (nWorld w s).heap[w.heap.size + 2]? = some (.cells #[.string s, .int .i64 0, .int .i64 (-1), .map (some (w.heap.size + 1)), .slice none 0 0] 69 (0, 0)) := by
    have h := heap_alloc_new ((w.alloc sym0).alloc (.map #[] 0)) (.cells #[.string s, .int .i64 0, .int .i64 (-1), .map (some (w.heap.size + 1)), .slice none 0 0] 69)
    rw [h2] at h
    exact h
  have hm : (nWorld w s).ownsMap Tryd.prog 9 (plainElem Tryd.prog 3) (w.heap.size + 1) 0 (.map [] : DataW Unit) := by
    have h1 : (w.alloc sym0).heap.size = w.heap.size + 1 := by simp
    have h := World.ownsMap_made (H := Unit) (w.alloc sym0) Tryd.prog 9 (plainElem Tryd.prog 3)
    rw [h1] at h
    exact map_stay h (fun o e => block_below e ((Below.refl _ _).alloc (Nat.le_refl _) _))
  exact ⟨⟨.slice none 0 0, [], hb, World.ownsRow_nil _ _ _ _, RowsU.nil _ _ _, fun g h => by cases h⟩, hm, ⟨by omega, by omega, by omega⟩, fun b h => h.elim, ⟨List.nodup_nil, by simp⟩, by simp⟩
/-- What the name leaves behind: where the reader is on, the name's trees; else what is wrong. -/
def nHead (B c mb : Nat) (s : ByteArray) (w0 w : World) (A : Option Addr) (n q : Nat) : Prop :=
  (∃ (j : Nat) (l : List Part) (sh : List (ByteArray × List Nat)) (D : List Nd) (F : Nat → Prop), s.data.toList[0]? = some 81 ∧ dName s (dOne s 12) [] 1 = .ok j (l, sh, D) ∧ n ≤ q ∧ q ≤ maxLen ∧ SlS w F 2 (PartU w F) A n l ∧ nR B c mb s j (-1) D noF F w0 w) ∨
  (∃ (e j : Nat) (D : List Nd) (F : Nat → Prop), dSym s = .bad e ∧ j ≤ 20000 ∧ nR B c mb s j e D noF F w0 w)
/-- Behind the first byte. -/
def nPre (B c mb : Nat) (s : ByteArray) (w0 w : World) : Prop := (s.data.toList[0]? = some 81 ∧ nR B c mb s ((1 : Nat) : Int) (-1) [] noF noF w0 w) ∨ (¬ s.data.toList[0]? = some 81 ∧ ∃ j : Nat, j ≤ s.size + 1 ∧ nR B c mb s j ((0 : Nat) : Int) [] noF noF w0 w)
theorem nPre_any (B c mb : Nat) (s : ByteArray) (w0 w : World) (hB : B ≤ w0.heap.size) (hs : s.size ≤ 8000) (h : nR B c mb s ((0 : Nat) : Int) (-1) [] noF noF w0 w) :
    Calls Tryd.prog 24 #[.pointer (some ⟨c, 0, none⟩), .int .u8 81] w fun e w' => e = .returned (.tuple #[]) ∧ nPre B c mb s w0 w' := by
  by_cases hq : s.data.toList[0]? = some 81
  · exact (nTake_ok B c mb s [] noF w (Nat.le_trans hB h.size) 0 81 hs hq h.st).mono fun e w' ⟨h1, h2⟩ => ⟨h1, .inl ⟨hq, h.trans h2⟩⟩
  · exact (nTake_bad B c mb s [] noF w (Nat.le_trans hB h.size) 0 81 hs (Nat.zero_le _) hq h.st).mono fun e w' ⟨h1, j, hj, h2⟩ => ⟨h1, .inr ⟨hq, j, hj, h.trans h2⟩⟩
theorem dSym_q {s : ByteArray} (h : ¬ s.data.toList[0]? = some 81) : dSym s = .bad 0 := by rw [dSym, if_neg h]
theorem dSym_n {s : ByteArray} {e : Nat} (h : s.data.toList[0]? = some 81) (hn : dName s (dOne s 12) [] 1 = .bad e) : dSym s = .bad e := by rw [dSym, if_pos h, hn]; rfl
theorem dSym_ok {s : ByteArray} {j : Nat} {l : List Part} {sh : List (ByteArray × List Nat)} {D : List Nd} (h : s.data.toList[0]? = some 81) (hn : dName s (dOne s 12) [] 1 = .ok j (l, sh, D)) : dSym s = (dTk s (s.size + 1) [] D j).bind fun j t => .ok j ⟨l, t⟩ := by rw [dSym, if_pos h, hn]; rfl
theorem nHead_any (B c mb : Nat) (s : ByteArray) (w0 w : World) (hB : B ≤ w0.heap.size) (htb : Tab10 B w0) (hs : s.size ≤ 8000) (h : nPre B c mb s w0 w) :
    Calls Tryd.prog 25 #[.pointer (some ⟨c, 0, none⟩), .int .i64 0] w fun e w' => ∃ (A : Option Addr) (n q : Nat) (kb : ByteArray), e = .returned (.tuple #[.slice A n q, .string kb]) ∧ nHead B c mb s w0 w' A n q := by
  rcases h with ⟨hq, h⟩ | ⟨hq, j, hj, h⟩
  · have hBw := Nat.le_trans hB h.size
    refine (nNam_all s B c mb [] noF 1 0 w hBw (htb.below h.be) hs (get_lt hq) (by simp) (by omega) h.st).mono fun e w' hr => ?_
    cases hn : dName s (dOne s 12) [] 1 with
    | bad e0 =>
      obtain ⟨A, n, q, kb, rfl, j, D', F', hj, h2⟩ := hr.of_bad hn
      exact ⟨A, n, q, kb, rfl, .inr ⟨e0, j, D', F', dSym_n hq hn, by omega, h.trans h2⟩⟩
    | ok j x =>
      obtain ⟨F', A, n, q, kb, rfl, hkb, hkz, hnq, hqm, hsl, h2⟩ := hr.of_ok hn
      exact ⟨A, n, q, kb, rfl, .inl ⟨j, x.1, x.2.1, x.2.2, F', hq, hn, hnq, hqm, hsl, h.trans h2⟩⟩
  · have hBw := Nat.le_trans hB h.size
    exact (nNam_off B c mb s [] noF w hBw j ((0 : Nat) : Int) 0 (by omega) (by omega) h.st).mono fun e w' ⟨h1, h2⟩ => ⟨none, 0, 0, _, h1, .inr ⟨0, j + 2, [], noF, dSym_q hq, by omega, h.trans h2⟩⟩
theorem nWorld_row (w : World) (s : ByteArray) (j : Nat) (hr : nRow (w.heap.size + 2) (w.heap.size + 1) (nWorld w s) j) : False := by
  have h2 : ((w.alloc sym0).alloc (.map #[] 0)).heap.size = w.heap.size + 2 := by simp
  have hb : (nWorld w s).heap[w.heap.size + 2]? = some (.cells #[.string s, .int .i64 0, .int .i64 (-1), .map (some (w.heap.size + 1)), .slice none 0 0] 69 (0, 0)) := by
    have h := heap_alloc_new ((w.alloc sym0).alloc (.map #[] 0)) (.cells #[.string s, .int .i64 0, .int .i64 (-1), .map (some (w.heap.size + 1)), .slice none 0 0] 69)
    rw [h2] at h
    exact h
  obtain ⟨s', i', q', v', g1, g2⟩ := hr
  obtain rfl := nbox_inj hb g1
  cases g2
theorem nWorld_rb (w : World) (s : ByteArray) : nBk (w.heap.size + 2) (w.heap.size + 1) (nWorld w s) noF w.heap.size sym0 := by
  have hb : (nWorld w s).heap[w.heap.size]? = some sym0 := block_below (block_below (heap_alloc_new w sym0) ((Below.refl _ _).alloc (Nat.le_refl _) _)) ((Below.refl _ _).alloc (Nat.le_refl _) _)
  refine ⟨hb, by omega, by omega, fun hr => ?_, fun h => h.elim, lt_of_block hb⟩
  exact nWorld_row w s _ hr
theorem nHead.any {B c mb : Nat} {s : ByteArray} {w0 w : World} {A : Option Addr} {n q : Nat} (h : nHead B c mb s w0 w A n q) : ∃ (i q : Int) (D : List Nd) (F : Nat → Prop), nR B c mb s i q D noF F w0 w := by
  rcases h with ⟨j, l, sh, D, F, _, _, _, _, _, h⟩ | ⟨e, j, D, F, _, _, h⟩
  · exact ⟨_, _, _, _, h⟩
  · exact ⟨_, _, _, _, h⟩
end Go.Proofs.YtocpmbpckbjepaaDoor

/- Walk of Demangle of the program (printed by gen_qd.py). -/
namespace Go.Proofs.YtocpmbpckbjepaaDoor
open Go.RowKit
set_option linter.unusedVariables false
set_option linter.unusedSimpArgs false
theorem dTk_z1 {s : ByteArray} {g : Nat} {acc : List Ty} {D : List Nd} {x : Nat} (h : s.data.toList[x]? = some 90) (h2 : x + 1 < s.size) : dTk s (g + 1) acc D x = .bad (x + 1) := by rw [dTk, if_pos h, if_pos h2]
theorem dTk_z0 {s : ByteArray} {g : Nat} {acc : List Ty} {D : List Nd} {x : Nat} (h : s.data.toList[x]? = some 90) (h2 : ¬ x + 1 < s.size) : dTk s (g + 1) acc D x = .ok (x + 1) acc := by rw [dTk, if_pos h, if_neg h2]
theorem dTk_bad {s : ByteArray} {g e : Nat} {acc : List Ty} {D : List Nd} {x : Nat} (h : ¬ s.data.toList[x]? = some 90) (h2 : dOne s 12 D x = .bad e) : dTk s (g + 1) acc D x = .bad e := by rw [dTk, if_neg h, h2]; rfl
theorem dTk_go {s : ByteArray} {g j : Nat} {acc : List Ty} {D : List Nd} {x : Nat} {y : Nat × Ty × List Nd} (h : ¬ s.data.toList[x]? = some 90) (h2 : dOne s 12 D x = .ok j y) : dTk s (g + 1) acc D x = dTk s g (acc ++ [y.2.1]) y.2.2 j := by rw [dTk, if_neg h, h2]; rfl
section
variable {B c mb : Nat} {s : ByteArray} {i q : Int} {D : List Nd} {F F0 : Nat → Prop} {w w1 w2 wx : World} {α : Type} {e : TypeId} {sz n : Nat} {R : World → (Nat → Prop) → α → List Value → Prop} {v : Value} {l : List α}
theorem nBk.pushed {j : Nat} {o : Obj} (h : nBk c mb w1 F j o) (hJ : nJ B c mb s e sz R F0 w i q D F w1 v n l) (hx : Below w1.heap.size w1 wx) (hg : wx.grownBy w2 v.ownBlock) (hne : v.ownBlock ≠ some j) : nBk c mb w2 F j o := by
  have hk : ∀ k o, w1.heap[k]? = some o → v.ownBlock ≠ some k → w2.heap[k]? = some o := fun k o e hk => (hg.block k (by have := lt_of_block e; have := hx.size; omega) (fun e2 => hk e2.symm)).trans (block_below e hx)
  exact ⟨hk j o h.1 hne, h.2.1, h.2.2.1, fun hr => h.2.2.2.1 (nRow_keep hJ.r.st (fun o e => hk c o e (fun e2 => (hJ.l.out c e2).1 rfl)) hr), h.2.2.2.2.1, lt_of_block (hk j o h.1 hne)⟩
theorem stay_pushed (hJ : nJ B c mb s e sz R F0 w i q D F w1 v n l) (hx : Below w1.heap.size w1 wx) (hg : wx.grownBy w2 v.ownBlock) : StayS F w1 w2 :=
  ⟨by have := hg.size; have := hx.size; omega, fun b o hf e => (hg.block b (by have := lt_of_block e; have := hx.size; omega) (fun e2 => hJ.l.own.nf b e2.symm hf)).trans (block_below e hx)⟩
end
abbrev agg0 : Value := .agg #[.slice none 0 0, .slice none 0 0]
/-- What Demangle answers. -/
def DemP (s : ByteArray) (w : World) (e : Ending) (w' : World) : Prop :=
  RP (dSym s) (fun e0 => e = .returned (.tuple #[agg0, .int .i64 (e0 : Nat), .int .i64 8]))
    (fun j y => ((symE y).1 ≠ 0 ∧ e = .returned (.tuple #[agg0, .int .i64 0, .int .i64 (symE y).1])) ∨ ((symE y).1 = 0 ∧ ∃ (k : Nat) (cs : List Value), e = .returned (.tuple #[.agg cs.toArray, .int .i64 0, .int .i64 0]) ∧ SymIn w' k y cs)) ∧ Below w.heap.size w w'
set_option maxRecDepth 100000 in
set_option maxHeartbeats 16000000 in
theorem Demangle_in (s : ByteArray) (w : World) (hs : s.size ≤ 8000) (htb : Tab10 w.heap.size w) :
    Calls Tryd.prog 12 #[.string s] w fun e w' => DemP s w e w' := by
  obtain ⟨i0, hi0, iz0, iz1, iz2⟩ := info_parts info_ty
  have hmm := @run_makeMap Tryd.prog
  have HBX := hide (show Below w.heap.size w (nWorld w s) from Below.alloc (Below.alloc (Below.alloc (Below.refl w.heap.size w) (Nat.le_refl _) _) (by simp) _) (by simp; omega) _)
  have hzX : (nWorld w s).heap.size = w.heap.size + 3 := by simp
  have hBX : w.heap.size ≤ (nWorld w s).heap.size := by omega
  have HST := hide (nWorld_st w s)
  have HRB0 := hide (nWorld_rb w s)
  have hra := (nR.refl HST.out).alloc hBX sym0
  have HR0 := hide hra
  have HRB1 := hide (HRB0.out.step hra)
  have HSB1 := hide (show nBk (w.heap.size + 2) (w.heap.size + 1) ((nWorld w s).alloc sym0) noF (w.heap.size + 3) sym0 from by have := nBk.new HST.out sym0; rwa [hzX] at this)
  have HTX := hide (htb.below HBX.out)
  have HTK := hide (nPre_any w.heap.size (w.heap.size + 2) (w.heap.size + 1) s ((nWorld w s).alloc sym0) _ (Nat.le_trans hBX HR0.out.size) hs (nR.refl HR0.out.st))
  have hs8 : decide ((8000 : Int) < (s.size : Int)) = false := by simp; omega
  clear htb hra
  go_enter Tryd.func12, Tryd.ntmps12
  have h112 : w.heap.size + 1 + 1 = w.heap.size + 2 := rfl
  go_wp2_with (first | (go_at_call 24; refine HTK.out.mono ?_; rintro e w1 ⟨rfl, hp⟩; have HHD := hide (nHead_any w.heap.size (w.heap.size + 2) (w.heap.size + 1) s ((nWorld w s).alloc sym0) w1 (Nat.le_trans hBX HR0.out.size) (HTX.out.below HR0.out.be) hs hp); clear hp HTK) | (go_at_call 25; refine HHD.out.mono ?_; rintro e w2 ⟨A, nn, nq, kb, rfl, hh⟩; obtain ⟨ia, qa, Da, Fa, hra⟩ := hh.any; have HSB2 := hide (HSB1.out.step hra); have u0 := block_cell HSB2.out.1 0; have fu0 := block_free HSB2.out.1 0; have HH := hide hh; clear hh hra HHD))
  go_loopw [] (fun wr => (∃ (n g x : Nat) (acc : List Ty) (D1 : List Nd) (F1 : Nat → Prop) (l : List Part) (A0 : Option Addr) (q0 : Nat), nJ w.heap.size (w.heap.size + 2) (w.heap.size + 1) s 75 3 TyU noF (nWorld w s) (x : Nat) (-1) D1 F1 wr (.slice A0 n q0) n acc ∧ nBk (w.heap.size + 2) (w.heap.size + 1) wr F1 (w.heap.size + 3) (.cells #[.slice A nn nq, .slice A0 n q0] 25) ∧ nBk (w.heap.size + 2) (w.heap.size + 1) wr F1 w.heap.size sym0 ∧ SlS wr F1 2 (PartU wr F1) A nn l ∧ nn ≤ nq ∧ nq ≤ maxLen ∧ x ≤ s.size ∧ n ≤ x ∧ s.size < x + g ∧ D1.length ≤ x ∧ dSym s = (dTk s g acc D1 x).bind (fun j t => .ok j ⟨l, t⟩)) ∨ (∃ (v2 : Value) (e x : Nat) (D1 : List Nd) (F1 : Nat → Prop), nR w.heap.size (w.heap.size + 2) (w.heap.size + 1) s x e D1 noF F1 (nWorld w s) wr ∧ nBk (w.heap.size + 2) (w.heap.size + 1) wr F1 (w.heap.size + 3) (.cells #[.slice A nn nq, v2] 25) ∧ nBk (w.heap.size + 2) (w.heap.size + 1) wr F1 w.heap.size sym0 ∧ dSym s = .bad e ∧ x ≤ 20000)) (fun wr => msD (w.heap.size + 2) s wr)
  case atStart =>
    rcases HH.out with ⟨j, l, sh, D, F, hq, hn, hnq, hqm, hsl, hr⟩ | ⟨e, j, D, F, hE, hj, hr⟩
    · have hgo := nam_go (get_lt hq) (show NOk [] from ⟨List.nodup_nil, by simp⟩) hn
      have h1 := hgo.lt
      have h2 := hgo.le
      have h3 := hgo.ext.len
      simp only [List.length_nil] at h3
      have hsb := HSB1.out.step hr
      have hrr := (HR0.out.trans hr).other (k := 0) hBX (by omega) hsb.2 (.slice A nn nq)
      refine .inl ⟨0, s.size + 1, j, [], D, F, l, none, 0, ⟨hrr, nLoc.nil _ _ _ _ _ _ _ _⟩, hsb.set (k := 0) hr.st (.slice A nn nq), (HRB1.out.step hr).other (k := 0) hr.st (by omega) (by omega) (.slice A nn nq), ?_, hnq, hqm, h2, by omega, by omega, by omega, dSym_ok hq hn⟩
      exact hsl.stay (S' := F) (R' := PartU _ F) (stay_own hsb.2) (fun _ h _ => h) (fun a _ cs h => stay_partU _ _ _ _ a cs h (stay_own hsb.2) (fun _ h _ => h))
    · have hsb := HSB1.out.step hr
      exact .inr ⟨.slice none 0 0, e, j, D, F, (HR0.out.trans hr).other (k := 0) hBX (by omega) hsb.2 (.slice A nn nq), hsb.set (k := 0) hr.st (.slice A nn nq), (HRB1.out.step hr).other (k := 0) hr.st (by omega) (by omega) (.slice A nn nq), hE, hj⟩
  case round =>
    rcases hrel with ⟨n, g, x, acc, D1, F1, l, A0, q0, hJ, hSB, hRB, hsl, hnq, hqm, hx, hnx, hg, hDx, hE⟩ | ⟨v2, e, x, D1, F1, hR, hSB, hRB, hE, hx⟩
    · obtain ⟨g, rfl⟩ : ∃ g', g = g' + 1 := ⟨g - 1, by omega⟩
      have c2 := hJ.r.st.c2
      have hBz := Nat.le_trans hBX hJ.r.size
      have HPK := hide (nPeek w.heap.size (w.heap.size + 2) (w.heap.size + 1) s D1 F1 wr hBz x hs hJ.r.st)
      have HJ := hide hJ
      have HSX := hide hSB
      have HRX := hide hRB
      have HSL := hide hsl
      have HE0 := hide hE
      clear hJ hSB hRB hsl hE
      by_cases hZ : s.data.toList[x]? = some 90
      · have HPE := hide (pkB_is hZ)
        rw [HPE.out] at HPK
        have hxs := get_lt hZ
        have HTZ := hide (fun (W : World) (h : nR w.heap.size (w.heap.size + 2) (w.heap.size + 1) s (x : Nat) (-1) D1 noF F1 (nWorld w s) W) => nTake_ok w.heap.size (w.heap.size + 2) (w.heap.size + 1) s D1 F1 W (Nat.le_trans hBX h.size) x 90 hs hZ h.st)
        by_cases hend : x + 1 < s.size
        · have HE := hide (show dSym s = .bad (x + 1) by rw [HE0.out, dTk_z1 hZ hend]; rfl)
          have hend' : (x : Int) + 1 < (s.size : Int) := by omega
          have he0 : (0 : Int) ≤ (x : Int) + 1 := by omega
          clear hZ hend HE0
          go_wp2_with (first | (go_at_call 26; refine HPK.out.mono ?_; rintro e' w1 ⟨rfl, hr⟩; have HJ1 := hide (HJ.out.adv stay_tyU hr); have HSX1 := hide (HSX.out.step hr); have HRX1 := hide (HRX.out.step hr); have HSL1 := hide (HSL.out.stay (S' := F1) (R' := PartU w1 F1) hr.stayF (fun _ h _ => h) (fun a _ cs h => stay_partU _ _ _ _ a cs h hr.stayF (fun _ h _ => h))); clear hr HPK) | (go_at_call 24; refine (HTZ.out _ HJ1.out.r).mono ?_; rintro e' w3 ⟨rfl, hr⟩; have HJ3 := hide (HJ1.out.adv stay_tyU hr); have HSB3 := hide (HSX1.out.step hr); have HRB3 := hide (HRX1.out.step hr); have c1' := hr.st.c1; have c2' := hr.st.c2; clear hr HTZ) | (go_at_call 28; refine (nFail_new w.heap.size (w.heap.size + 2) (w.heap.size + 1) s D1 F1 _ (Nat.le_trans hBX HJ3.out.r.size) ((x + 1 : Nat) : Int) ((x : Int) + 1) HJ3.out.r.st).mono ?_; rintro e' w4 ⟨rfl, hr⟩; have HR3 := hide (HJ3.out.r.trans hr); have HRB4 := hide (HRB3.out.step hr); have c2'' := hr.st.c2; have r0 := block_cell HRB4.out.1 0; have r1 := block_cell HRB4.out.1 1; have fr0 := block_free HRB4.out.1 0; have fr1 := block_free HRB4.out.1 1; clear hr))
          go_region
          have hb2 := ((HBX.out.trans HR3.out.be).setCell (p := ⟨w.heap.size, 0, none⟩) (Nat.le_refl _) (.slice none 0 0)).setCell (p := ⟨w.heap.size, 1, none⟩) (Nat.le_refl _) (.slice none 0 0)
          have hrz := block_set (i := 1) (block_set (i := 0) HRB4.out.1 (.slice none 0 0)) (.slice none 0 0)
          clear r0 r1
          generalize World.setCell _ (⟨w.heap.size, 1, none⟩ : Addr) _ = wy at hb2 hrz ⊢
          have hb3 : Below w.heap.size w wy.drew := below_drewN hb2 1
          have hrz2 : wy.drew.heap[w.heap.size]? = _ := hrz
          go_wp2_with (fail)
          have r0 := block_cell hrz2 0
          have r1 := block_cell hrz2 1
          simp at r0 r1
          ((try simp only [Exit.inBlock, Exit.then]); refine bodyPost_ret (by simp [results, Tryd.results12, go_sem, r0, r1]; try rfl) rfl ?_)
          exact ⟨RP.bad HE.out (by rw [show ((x + 1 : Nat) : Int) = (x : Int) + 1 by omega]), hb3⟩
        · have HE := hide (show dSym s = .ok (x + 1) ⟨l, acc⟩ by rw [HE0.out, dTk_z0 hZ hend]; rfl)
          have hend' : decide ((x : Int) + 1 < (s.size : Int)) = false := by simp; omega
          clear hZ hend HE0
          obtain ⟨v, hv⟩ : ∃ v, (symE ⟨l, acc⟩).1 = v := ⟨_, rfl⟩
          by_cases hv0 : v = 0
          · subst hv0
            have HV := hide hv
            go_wp2_with (first | (go_at_call 26; refine HPK.out.mono ?_; rintro e' w1 ⟨rfl, hr⟩; have HJ1 := hide (HJ.out.adv stay_tyU hr); have HSX1 := hide (HSX.out.step hr); have HRX1 := hide (HRX.out.step hr); have HSL1 := hide (HSL.out.stay (S' := F1) (R' := PartU w1 F1) hr.stayF (fun _ h _ => h) (fun a _ cs h => stay_partU _ _ _ _ a cs h hr.stayF (fun _ h _ => h))); clear hr HPK) | (go_at_call 24; refine (HTZ.out _ HJ1.out.r).mono ?_; rintro e' w3 ⟨rfl, hr⟩; have HJ3 := hide (HJ1.out.adv stay_tyU hr); have HSB3 := hide (HSX1.out.step hr); have HRB3 := hide (HRX1.out.step hr); have c1' := hr.st.c1; have c2' := hr.st.c2; have s0 := block_cell HSB3.out.1 0; have s1 := block_cell HSB3.out.1 1; obtain ⟨F2, hr2, hFF, A9, q9, hv9, hq1, hq2, hq3⟩ := HJ3.out.done stay_tyU; injection hv9 with hv91 hv92 hv93; subst hv91 hv93; obtain ⟨kk, hin⟩ := symU (s := ⟨l, acc⟩) (HSL1.out.stay (S' := F1) (R' := PartU w3 F1) hr.stayF (fun _ h _ => h) (fun a _ cs h => stay_partU _ _ _ _ a cs h hr.stayF (fun _ h _ => h))) hq3 hnq hqm hq1 hq2; have HIN := hide hin; have CK := hide (Check_any kk ⟨l, acc⟩ _ w3 hin); rw [HV.out] at CK; clear hr2 hFF hq3 hin; clear hr HTZ) | (go_at_call 16; refine CK.out.mono ?_; rintro e' w4 ⟨rfl, hb⟩; have HRB4 := hide (block_below HRB3.out.1 hb); have HSB4 := hide (block_below HSB3.out.1 hb); have HBE := hide ((HBX.out.trans HJ3.out.r.be).trans (hb.mono (Nat.le_trans hBX HJ3.out.r.size))); have s0' := block_cell HSB4.out 0; have s1' := block_cell HSB4.out 1; have CC := hide (nSym_copy kk ⟨l, acc⟩ _ w4 (HIN.out.up hb) HV.out); have hz4 := hb.size; clear hb CK) | (go_at_call 29; refine CC.out.mono ?_; rintro e' w5 ⟨k', cs', rfl, hin5, hb5, hst5⟩; obtain ⟨A5, n5, q5, A6, n6, q6, rfl, _⟩ := hin5; have HRB5 := hide (block_below HRB4.out hb5); have HBE5 := hide (HBE.out.trans (hb5.mono HBE.out.size)); have HST5 := hide hst5; have r0 := block_cell HRB5.out 0; have r1 := block_cell HRB5.out 1; have fr0 := block_free HRB5.out 0; have fr1 := block_free HRB5.out 1; clear hb5 hst5 CC))
            have hkp : ∀ j o, w4.heap.size ≤ j → w5.heap[j]? = some o → ((w5.setCell ⟨w.heap.size, 0, none⟩ (.slice A5 n5 q5)).setCell ⟨w.heap.size, 1, none⟩ (.slice A6 n6 q6)).heap[j]? = some o := fun j o hj e => by
              have hlt := lt_of_block HRB4.out
              have hne : j ≠ w.heap.size := by omega
              exact block_set_other (block_set_other e _ _ hne) _ _ hne
            obtain ⟨k2, hk2⟩ := HST5.out _ (by simp) hkp
            have hb2 := (HBE5.out.setCell (p := ⟨w.heap.size, 0, none⟩) (Nat.le_refl _) (.slice A5 n5 q5)).setCell (p := ⟨w.heap.size, 1, none⟩) (Nat.le_refl _) (.slice A6 n6 q6)
            have hrz := block_set (i := 1) (block_set (i := 0) HRB5.out (.slice A5 n5 q5)) (.slice A6 n6 q6)
            clear r0 r1 hkp
            generalize World.setCell _ (⟨w.heap.size, 1, none⟩ : Addr) _ = wy at hb2 hrz hk2 ⊢
            have r0 := block_cell hrz 0
            have r1 := block_cell hrz 1
            simp at r0 r1
            ((try simp only [Exit.inBlock, Exit.then]); refine bodyPost_ret (by simp [results, Tryd.results12, go_sem, r0, r1]; try rfl) rfl ?_)
            exact ⟨RP.ok HE.out (.inr ⟨HV.out, k2, _, rfl, hk2⟩), hb2⟩
          · have HV := hide hv
            have hv0' : (v == 0) = false := by simpa using hv0
            go_wp2_with (first | (go_at_call 26; refine HPK.out.mono ?_; rintro e' w1 ⟨rfl, hr⟩; have HJ1 := hide (HJ.out.adv stay_tyU hr); have HSX1 := hide (HSX.out.step hr); have HRX1 := hide (HRX.out.step hr); have HSL1 := hide (HSL.out.stay (S' := F1) (R' := PartU w1 F1) hr.stayF (fun _ h _ => h) (fun a _ cs h => stay_partU _ _ _ _ a cs h hr.stayF (fun _ h _ => h))); clear hr HPK) | (go_at_call 24; refine (HTZ.out _ HJ1.out.r).mono ?_; rintro e' w3 ⟨rfl, hr⟩; have HJ3 := hide (HJ1.out.adv stay_tyU hr); have HSB3 := hide (HSX1.out.step hr); have HRB3 := hide (HRX1.out.step hr); have c1' := hr.st.c1; have c2' := hr.st.c2; have s0 := block_cell HSB3.out.1 0; have s1 := block_cell HSB3.out.1 1; obtain ⟨F2, hr2, hFF, A9, q9, hv9, hq1, hq2, hq3⟩ := HJ3.out.done stay_tyU; injection hv9 with hv91 hv92 hv93; subst hv91 hv93; obtain ⟨kk, hin⟩ := symU (s := ⟨l, acc⟩) (HSL1.out.stay (S' := F1) (R' := PartU w3 F1) hr.stayF (fun _ h _ => h) (fun a _ cs h => stay_partU _ _ _ _ a cs h hr.stayF (fun _ h _ => h))) hq3 hnq hqm hq1 hq2; have HIN := hide hin; have CK := hide (Check_any kk ⟨l, acc⟩ _ w3 hin); rw [HV.out] at CK; clear hr2 hFF hq3 hin; clear hr HTZ) | (go_at_call 16; refine CK.out.mono ?_; rintro e' w4 ⟨rfl, hb⟩; have HRB4 := hide (block_below HRB3.out.1 hb); have HBE := hide ((HBX.out.trans HJ3.out.r.be).trans (hb.mono (Nat.le_trans hBX HJ3.out.r.size))); have r0 := block_cell HRB4.out 0; have r1 := block_cell HRB4.out 1; have fr0 := block_free HRB4.out 0; have fr1 := block_free HRB4.out 1; clear hb CK))
            have hb2 := (HBE.out.setCell (p := ⟨w.heap.size, 0, none⟩) (Nat.le_refl _) (.slice none 0 0)).setCell (p := ⟨w.heap.size, 1, none⟩) (Nat.le_refl _) (.slice none 0 0)
            have hrz := block_set (i := 1) (block_set (i := 0) HRB4.out (.slice none 0 0)) (.slice none 0 0)
            clear r0 r1
            generalize World.setCell _ (⟨w.heap.size, 1, none⟩ : Addr) _ = wy at hb2 hrz ⊢
            have r0 := block_cell hrz 0
            have r1 := block_cell hrz 1
            simp at r0 r1
            ((try simp only [Exit.inBlock, Exit.then]); refine bodyPost_ret (by simp [results, Tryd.results12, go_sem, r0, r1]; try rfl) rfl ?_)
            exact ⟨RP.ok HE.out (.inl ⟨by rw [HV.out]; exact hv0, by rw [HV.out]⟩), hb2⟩
      · have hne := pk_ne (by decide) hZ
        have hne' : (((pkB s x).toNat : Int) == 90) = false := by simpa using hne
        have HC := hide (fun (W : World) (h : nR w.heap.size (w.heap.size + 2) (w.heap.size + 1) s (x : Nat) (-1) D1 noF F1 (nWorld w s) W) => nOne_all s 12 (Nat.le_refl _) w.heap.size (w.heap.size + 2) (w.heap.size + 1) D1 F1 x 0 W (Nat.le_trans hBX h.size) (HTX.out.below h.be) hs hx hDx (by omega) h.st)
        have hokD := HJ.out.r.st.ok
        cases hr1 : dOne s 12 D1 x with
        | bad e0 =>
          have HE := hide (show dSym s = .bad e0 by rw [HE0.out, dTk_bad hZ hr1]; rfl)
          have HND := hide hr1
          clear hr1 hZ HE0 hokD
          go_wp2_with (first | (go_at_call 26; refine HPK.out.mono ?_; rintro e' w1 ⟨rfl, hr⟩; have HJ1 := hide (HJ.out.adv stay_tyU hr); have HSX1 := hide (HSX.out.step hr); have HRX1 := hide (HRX.out.step hr); have HSL1 := hide (HSL.out.stay (S' := F1) (R' := PartU w1 F1) hr.stayF (fun _ h _ => h) (fun a _ cs h => stay_partU _ _ _ _ a cs h hr.stayF (fun _ h _ => h))); clear hr HPK) | (go_at_call 27; refine (HC.out _ HJ1.out.r).mono ?_; intro e' w5 hrp; obtain ⟨rfl, y, D2, F2, hy, hr⟩ := hrp.of_bad HND.out; have HJ2 := hide (HJ1.out.adv stay_tyU hr); have hra := (nR.refl HJ2.out.r.st).alloc (Nat.le_trans hBX HJ2.out.r.size) (.cells #[.int .i64 0, .int .i64 0, .slice none 0 0, .slice none 0 0] 77); have HJ3 := hide (HJ2.out.adv stay_tyU hra); have HS3 := hide ((HSX1.out.step hr).step hra); have HX3 := hide ((HRX1.out.step hr).step hra); have HNA := hide (heap_alloc_new w5 (.cells #[.int .i64 0, .int .i64 0, .slice none 0 0, .slice none 0 0] 77)); have m1 := block_cell HNA.out 1; have m2 := block_cell HNA.out 2; have m3 := block_cell HNA.out 3; have u1' := block_cell HS3.out.1 1; have fu1' := block_free HS3.out.1 1; have hst3 := (hr.trans hra).stayF; have HSL3 := hide (HSL1.out.stay (S' := F2) (R' := PartU _ F2) hst3 (fun b h _ => (hr.trans hra).grow b h) (fun a _ cs h => stay_partU _ _ _ _ a cs h hst3 (fun b h _ => (hr.trans hra).grow b h))); clear hr hra hrp hst3) | (at_builtin; refine wpList_append_own_at _ rfl (.tmp 38) (.tmp 41) 23 rfl (nWorld w s).heap.size 75 i0 (.agg #[.int .i64 0, .slice none 0 0, .slice none 0 0]) 3 56 Tryd.underlying23 hi0 iz0 iz1 iz2 rfl (by decide) _ n _ rfl (HJ3.out.l.own.choose_spec.1.alloc _) ⟨w5.heap.size + 1, 0, none⟩ 1 1 [.int .i64 0, .slice none 0 0, .slice none 0 0] rfl rfl (cells_new2 w5 (.cells #[.int .i64 0, .int .i64 0, .slice none 0 0, .slice none 0 0] 77) [.int .i64 0, .slice none 0 0, .slice none 0 0] _) (by intro u hu; simp at hu; rcases hu with rfl | rfl | rfl <;> rfl) (by unfold maxLen; omega) (by omega) (by have := HJ3.out.r.size; simp at this ⊢; omega) ?_; intro v2 w8 hown2 hg2 _ hv2; obtain ⟨ao, cp, rfl⟩ := own_sl hown2; have hbl := Below.alloc (Below.refl _ _) (Nat.le_refl _) (.cells #[.int .i64 0, .slice none 0 0, .slice none 0 0] 75) (w := w5.alloc (.cells #[.int .i64 0, .int .i64 0, .slice none 0 0, .slice none 0 0] 77)); have HS8 := hide (HS3.out.pushed HJ3.out hbl hg2 (own_other' HJ3.out.l.own.choose_spec.1 HS3.out.1 (by decide))); have HX8 := hide (HX3.out.pushed HJ3.out hbl hg2 (own_other' HJ3.out.l.own.choose_spec.1 HX3.out.1 (by decide))); have v1' := block_cell HS8.out.1 1; have fv1' := block_free HS8.out.1 1; have HR8 := hide (HJ3.out.grow hBX hbl hg2); clear hown2 hg2 hv2 hbl m1 m2 m3 u1' fu1'))
          go_roundw
          case rel => exact .inr ⟨_, e0, y, D2, F2, HR8.out.other (k := 1) hBX (by omega) HS8.out.2 _, HS8.out.set (k := 1) HR8.out.st _, HX8.out.other (k := 1) HR8.out.st HS8.out.2.1 (by omega) _, HE.out, by omega⟩
          case measure => rw [show msD (w.heap.size + 2) s wr = s.size - x + 1 from msD_on HJ.out.r.st, msD_off (by omega) (HR8.out.other (k := 1) hBX (by omega) HS8.out.2 _).st]; omega
        | ok y z =>
          have hgo := one_go hx hokD hr1
          have HE := hide (show dSym s = (dTk s g (acc ++ [z.2.1]) z.2.2 y).bind (fun j t => .ok j ⟨l, t⟩) by rw [HE0.out, dTk_go hZ hr1])
          have HND := hide hr1
          clear hr1 hZ HE0 hokD
          obtain ⟨m, t, D2⟩ := z
          have hxy := hgo.lt
          have hys := hgo.le
          have hle := hgo.ext.len
          simp only at hle
          go_wp2_with (first | (go_at_call 26; refine HPK.out.mono ?_; rintro e' w1 ⟨rfl, hr⟩; have HJ1 := hide (HJ.out.adv stay_tyU hr); have HSX1 := hide (HSX.out.step hr); have HRX1 := hide (HRX.out.step hr); have HSL1 := hide (HSL.out.stay (S' := F1) (R' := PartU w1 F1) hr.stayF (fun _ h _ => h) (fun a _ cs h => stay_partU _ _ _ _ a cs h hr.stayF (fun _ h _ => h))); clear hr HPK) | (go_at_call 27; refine (HC.out _ HJ1.out.r).mono ?_; intro e' w5 hrp; obtain ⟨F2, k, A1, n1, q1, A2, n2, q2, rfl, hty, hr⟩ := hrp.of_ok HND.out; have HJ2 := hide (HJ1.out.adv stay_tyU hr); have hra := (nR.refl HJ2.out.r.st).alloc (Nat.le_trans hBX HJ2.out.r.size) (.cells #[.int .i64 (m : Nat), .int .i64 k, .slice A1 n1 q1, .slice A2 n2 q2] 77); have HJ3 := hide (HJ2.out.adv stay_tyU hra); have HS3 := hide ((HSX1.out.step hr).step hra); have HX3 := hide ((HRX1.out.step hr).step hra); have HNA := hide (heap_alloc_new w5 (.cells #[.int .i64 (m : Nat), .int .i64 k, .slice A1 n1 q1, .slice A2 n2 q2] 77)); have m1 := block_cell HNA.out 1; have m2 := block_cell HNA.out 2; have m3 := block_cell HNA.out 3; have u1' := block_cell HS3.out.1 1; have fu1' := block_free HS3.out.1 1; have hst3 := (hr.trans hra).stayF; have HSL3 := hide (HSL1.out.stay (S' := F2) (R' := PartU _ F2) hst3 (fun b h _ => (hr.trans hra).grow b h) (fun a _ cs h => stay_partU _ _ _ _ a cs h hst3 (fun b h _ => (hr.trans hra).grow b h))); have HTY3 := hide (stay_tyU _ _ _ _ _ _ hty hra.stayF (fun _ h _ => h)); clear hty; clear hr hra hrp hst3) | (at_builtin; refine wpList_append_own_at _ rfl (.tmp 38) (.tmp 41) 23 rfl (nWorld w s).heap.size 75 i0 (.agg #[.int .i64 0, .slice none 0 0, .slice none 0 0]) 3 56 Tryd.underlying23 hi0 iz0 iz1 iz2 rfl (by decide) _ n _ rfl (HJ3.out.l.own.choose_spec.1.alloc _) ⟨w5.heap.size + 1, 0, none⟩ 1 1 [.int .i64 k, .slice A1 n1 q1, .slice A2 n2 q2] rfl rfl (cells_new2 w5 (.cells #[.int .i64 (m : Nat), .int .i64 k, .slice A1 n1 q1, .slice A2 n2 q2] 77) [.int .i64 k, .slice A1 n1 q1, .slice A2 n2 q2] _) (by intro u hu; simp at hu; rcases hu with rfl | rfl | rfl <;> rfl) (by unfold maxLen; omega) (by omega) (by have := HJ3.out.r.size; simp at this ⊢; omega) ?_; intro v2 w8 hown2 hg2 _ hv2; obtain ⟨ao, cp, rfl⟩ := own_sl hown2; have hbl := Below.alloc (Below.refl _ _) (Nat.le_refl _) (.cells #[.int .i64 k, .slice A1 n1 q1, .slice A2 n2 q2] 75) (w := w5.alloc (.cells #[.int .i64 (m : Nat), .int .i64 k, .slice A1 n1 q1, .slice A2 n2 q2] 77)); have HS8 := hide (HS3.out.pushed HJ3.out hbl hg2 (own_other' HJ3.out.l.own.choose_spec.1 HS3.out.1 (by decide))); have HX8 := hide (HX3.out.pushed HJ3.out hbl hg2 (own_other' HJ3.out.l.own.choose_spec.1 HX3.out.1 (by decide))); have v1' := block_cell HS8.out.1 1; have fv1' := block_free HS8.out.1 1; have HJ8 := hide (HJ3.out.push stay_tyU hBX rfl HTY3.out hbl hown2 hg2 hv2); have HJ9 := hide (HJ8.out.other (k := 1) stay_tyU hBX (by omega) HS8.out.2 (own_other' HJ8.out.l.own.choose_spec.1 HS8.out.1 (by decide)) (.slice ao (n + 1) cp)); have hst8 := stay_pushed HJ3.out hbl hg2; have hst9 := stay_own (k := 1) (x := .slice ao (n + 1) cp) HS8.out.2; have HSL9 := hide ((HSL3.out.stay (S' := F2) (R' := PartU _ F2) hst8 (fun _ h _ => h) (fun a _ cs h => stay_partU _ _ _ _ a cs h hst8 (fun _ h _ => h))).stay (S' := F2) (R' := PartU _ F2) hst9 (fun _ h _ => h) (fun a _ cs h => stay_partU _ _ _ _ a cs h hst9 (fun _ h _ => h))); clear hst8 hst9; clear hown2 hg2 hv2 hbl m1 m2 m3 u1' fu1'))
          go_roundw
          case rel => exact .inl ⟨n + 1, g, y, acc ++ [t], D2, F2, l, ao, cp, HJ9.out, HS8.out.set (k := 1) HJ8.out.r.st _, HX8.out.other (k := 1) HJ8.out.r.st HS8.out.2.1 (by omega) _, HSL9.out, hnq, hqm, hys, by omega, by omega, by omega, HE.out⟩
          case measure => rw [show msD (w.heap.size + 2) s wr = s.size - x + 1 from msD_on HJ.out.r.st, msD_on HJ9.out.r.st]; omega
    · have c2 := hR.st.c2
      have hoff : decide (((e : Nat) : Int) < 0) = false := by simp
      have he0 : (0 : Int) ≤ ((e : Nat) : Int) := by omega
      have HTZ := hide (nTake_off w.heap.size (w.heap.size + 2) (w.heap.size + 1) s D1 F1 wr (Nat.le_trans hBX hR.size) x e 90 (by omega) he0 hR.st)
      have HR := hide hR
      have HRB := hide hRB
      have HE := hide hE
      clear hR hSB hRB hE
      go_wp2_with (first | (go_at_call 24; refine HTZ.out.mono ?_; rintro e' w3 ⟨rfl, hr⟩; have HR3 := hide (HR.out.trans hr); have HRB3 := hide (HRB.out.step hr); have c2' := hr.st.c2; have r0 := block_cell HRB3.out.1 0; have r1 := block_cell HRB3.out.1 1; have fr0 := block_free HRB3.out.1 0; have fr1 := block_free HRB3.out.1 1; clear hr HTZ))
      go_region
      have hb2 := ((HBX.out.trans HR3.out.be).setCell (p := ⟨w.heap.size, 0, none⟩) (Nat.le_refl _) (.slice none 0 0)).setCell (p := ⟨w.heap.size, 1, none⟩) (Nat.le_refl _) (.slice none 0 0)
      have hrz := block_set (i := 1) (block_set (i := 0) HRB3.out.1 (.slice none 0 0)) (.slice none 0 0)
      clear r0 r1
      generalize World.setCell _ (⟨w.heap.size, 1, none⟩ : Addr) _ = wy at hb2 hrz ⊢
      have hb3 : Below w.heap.size w wy.drew := below_drewN hb2 1
      have hrz2 : wy.drew.heap[w.heap.size]? = _ := hrz
      go_wp2_with (fail)
      have r0 := block_cell hrz2 0
      have r1 := block_cell hrz2 1
      simp at r0 r1
      ((try simp only [Exit.inBlock, Exit.then]); refine bodyPost_ret (by simp [results, Tryd.results12, go_sem, r0, r1]; try rfl) rfl ?_)
      exact ⟨RP.bad HE.out rfl, hb3⟩
end Go.Proofs.YtocpmbpckbjepaaDoor

/- Demangle and Demangled of strings that are too long. -/
namespace Go.Proofs.YtocpmbpckbjepaaDoor
open Go.RowKit
set_option linter.unusedVariables false
set_option linter.unusedSimpArgs false
set_option maxRecDepth 100000 in
set_option maxHeartbeats 4000000 in
theorem Demangle_long (s : ByteArray) (w : World) (hs : 8000 < s.size) (hm : s.size ≤ maxLen) :
    Calls Tryd.prog 12 #[.string s] w fun e w' => e = .returned (.tuple #[agg0, .int .i64 0, .int .i64 4]) ∧ Below w.heap.size w w' := by
  unfold maxLen at hm
  have h1 : (8000 : Int) < (s.size : Int) := by omega
  have HB := hide ((Below.refl w.heap.size w).alloc (Nat.le_refl _) sym0)
  have HX := hide (heap_alloc_new w sym0)
  have r0 := block_cell HX.out 0
  have r1 := block_cell HX.out 1
  have fr0 := block_free HX.out 0
  have fr1 := block_free HX.out 1
  go_enter Tryd.func12, Tryd.ntmps12
  go_wp2_with (fail)
  simp at r0 r1
  ((try simp only [Exit.inBlock, Exit.then]); refine bodyPost_ret (by simp [results, Tryd.results12, go_sem, r0, r1]; try rfl) rfl ?_)
  exact ⟨rfl, HB.out⟩
end Go.Proofs.YtocpmbpckbjepaaDoor

/- What Demangle and Demangled answer, of all strings. -/
namespace Go.Proofs.YtocpmbpckbjepaaDoor
open Go.RowKit
set_option linter.unusedVariables false
set_option linter.unusedSimpArgs false
def sym00 : Sym := ⟨[], []⟩
/-- The error of a mangled name. -/
def dmE (s : ByteArray) : Int := if 8000 < s.size then 4 else match dSym s with
  | .bad _ => 8
  | .ok _ y => (symE y).1
/-- Where it is wrong. -/
def dmN (s : ByteArray) : Int := if 8000 < s.size then 0 else match dSym s with
  | .bad e => (e : Int)
  | .ok _ _ => 0
/-- The symbol. -/
def dmY (s : ByteArray) : Sym := if 8000 < s.size then sym00 else match dSym s with
  | .bad _ => sym00
  | .ok _ y => if (symE y).1 = 0 then y else sym00
theorem sym00_in (w : World) : SymIn w 1 sym00 [.slice none 0 0, .slice none 0 0] := ⟨none, 0, 0, none, 0, 0, rfl, Nat.le_refl _, Nat.zero_le _, Nat.le_refl _, Nat.zero_le _, SlP.nil _ _ _ _ _, SlP.nil _ _ _ _ _⟩
theorem DemP.all {s : ByteArray} {w w' : World} {e : Ending} (hs : ¬ 8000 < s.size) (h : DemP s w e w') : ∃ (k : Nat) (cs : List Value), e = .returned (.tuple #[.agg cs.toArray, .int .i64 (dmN s), .int .i64 (dmE s)]) ∧ SymIn w' k (dmY s) cs ∧ Below w.heap.size w w' := by
  obtain ⟨h, hb⟩ := h
  unfold dmN dmE dmY
  rw [if_neg hs, if_neg hs, if_neg hs]
  cases hd : dSym s with
  | bad e0 =>
    have := h.of_bad hd
    exact ⟨1, _, this, sym00_in w', hb⟩
  | ok j y =>
    rcases h.of_ok hd with ⟨h1, h2⟩ | ⟨h1, k, cs, h2, h3⟩
    · refine ⟨1, _, h2, ?_, hb⟩
      simp only [if_neg h1]
      exact sym00_in w'
    · refine ⟨k, cs, by rw [h2]; simp only [h1], ?_, hb⟩
      simp only [if_pos h1]
      exact h3
theorem Demangle_any (s : ByteArray) (w : World) (hm : s.size ≤ maxLen) (htb : Tab10 w.heap.size w) :
    Calls Tryd.prog 12 #[.string s] w fun e w' => ∃ (k : Nat) (cs : List Value), e = .returned (.tuple #[.agg cs.toArray, .int .i64 (dmN s), .int .i64 (dmE s)]) ∧ SymIn w' k (dmY s) cs ∧ Below w.heap.size w w' := by
  by_cases hs : 8000 < s.size
  · refine (Demangle_long s w hs hm).mono fun e w' ⟨h1, h2⟩ => ⟨1, [.slice none 0 0, .slice none 0 0], ?_, ?_, h2⟩
    · rw [h1, dmN, dmE, if_pos hs, if_pos hs]
    · rw [dmY, if_pos hs]; exact sym00_in w'
  · exact (Demangle_in s w (by omega) htb).mono fun e w' h => DemP.all hs h
end Go.Proofs.YtocpmbpckbjepaaDoor
