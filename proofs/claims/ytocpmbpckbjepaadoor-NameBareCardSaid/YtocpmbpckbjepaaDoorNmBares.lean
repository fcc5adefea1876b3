/- Walk of Bare. -/
import Derived.Test.YtocpmbpckbjepaaDoorNmBare
namespace Go.Proofs.YtocpmbpckbjepaaDoor
open Go.RowKit
set_option linter.unusedVariables false
theorem symE_pos {s : Sym} (h : (symE s).1 = 0) : 1 ≤ s.name.length := by
  unfold symE at h
  by_cases h1 : (chkName (chkTy 12) s.name 0).1 = 0
  · unfold chkName at h1
    split at h1
    · cases h1
    · omega
  · rw [if_pos h1] at h; exact absurd h h1
/-- The symbol without name and arguments. -/
def noSym : Sym := ⟨[], []⟩
theorem noSym_in (w : World) (k : Nat) : SymIn w k noSym [.slice none 0 0, .slice none 0 0] := ⟨none, 0, 0, none, 0, 0, rfl, Nat.le_refl _, Nat.zero_le _, Nat.le_refl _, Nat.zero_le _, SlP.nil _ _ _ _ _, SlP.nil _ _ _ _ _⟩
set_option maxRecDepth 100000 in
set_option maxHeartbeats 4000000 in
theorem Bare_bad (k : Nat) (s : Sym) (cs : List Value) (w : World) (hin : SymIn w k s cs) (h0 : (symE s).1 ≠ 0) :
    Calls Tryd.prog 7 #[.agg cs.toArray] w fun e w' => e = .returned (.tuple #[.agg #[.slice none 0 0, .slice none 0 0], .int .i64 (symE s).1]) ∧ Below w.heap.size w w' := by
  have HB := hide (fun o o' : Obj => show Below w.heap.size w ((w.alloc o).alloc o') from ((Below.refl _ _).alloc (Nat.le_refl _) _).alloc (by simp) _)
  have HC := hide (fun o o' : Obj => Check_any k s cs ((w.alloc o).alloc o') (hin.up (HB.out o o')))
  obtain ⟨A, n, c, A2, n2, c2, rfl, hn, hm, hn2, hm2, hl, hl2⟩ := hin
  obtain ⟨E, hE⟩ : ∃ E, (symE s).1 = E := ⟨_, rfl⟩
  rw [hE] at HC h0 ⊢
  have h0' : (E == 0) = false := by simpa using h0
  have HX := hide (heap_alloc_new (w.alloc (.cells #[.slice A n c, .slice A2 n2 c2] 25)) (.cells #[.slice none 0 0, .slice none 0 0] 25))
  clear hl hl2 hE
  go_enter Tryd.func7, Tryd.ntmps7
  go_wp2_with (go_at_call 16; refine (HC.out _ _).mono ?_; rintro r w1 ⟨rfl, hw1⟩; have hB1 : Below w.heap.size w w1 := (HB.out _ _).trans (hw1.mono (by simp; omega)); have hx := block_below HX.out hw1; simp only [World.size_alloc] at hx; have HX1 := hide hx; have x0 : w1.cell? ⟨w.heap.size + 1, 0, none⟩ = some (.slice none 0 0) := (block_cell hx 0).trans rfl; have x1 : w1.cell? ⟨w.heap.size + 1, 1, none⟩ = some (.slice none 0 0) := (block_cell hx 1).trans rfl; have xf0 : w1.frozen? ⟨w.heap.size + 1, 0, none⟩ = false := block_free hx 0; have xf1 : w1.frozen? ⟨w.heap.size + 1, 1, none⟩ = false := block_free hx 1; clear hx hw1)
  have hb1 := block_set HX1.out (i := 0) (.slice none 0 0)
  have hb2 := block_set hb1 (i := 1) (.slice none 0 0)
  have hbz := (hB1.setCell (p := ⟨w.heap.size + 1, 0, none⟩) (by simp) (.slice none 0 0)).setCell (p := ⟨w.heap.size + 1, 1, none⟩) (by simp) (.slice none 0 0)
  generalize ((w1.setCell ⟨w.heap.size + 1, 0, none⟩ (.slice none 0 0)).setCell ⟨w.heap.size + 1, 1, none⟩ (.slice none 0 0)) = wf at hb2 hbz ⊢
  have r0 : wf.cell? ⟨w.heap.size + 1, 0, none⟩ = some (.slice none 0 0) := (block_cell hb2 0).trans rfl
  have r1 : wf.cell? ⟨w.heap.size + 1, 1, none⟩ = some (.slice none 0 0) := (block_cell hb2 1).trans rfl
  refine bodyPost_ret (by simp [results, Tryd.results7, go_sem, r0, r1]; try rfl) rfl ?_
  exact ⟨rfl, hbz⟩
set_option maxRecDepth 100000 in
set_option maxHeartbeats 4000000 in
theorem Bare_ok (k : Nat) (s : Sym) (cs : List Value) (w : World) (hin : SymIn w k s cs) (h0 : (symE s).1 = 0) :
    Calls Tryd.prog 7 #[.agg cs.toArray] w fun e w' => (∃ A n c, e = .returned (.tuple #[.agg #[.slice A n c, .slice none 0 0], .int .i64 0]) ∧ SymIn w' k (bareS s) [.slice A n c, .slice none 0 0]) ∧ Below w.heap.size w w' := by
  have HB := hide (fun o o' : Obj => show Below w.heap.size w ((w.alloc o).alloc o') from ((Below.refl _ _).alloc (Nat.le_refl _) _).alloc (by simp) _)
  have HC := hide (fun o o' : Obj => h0 ▸ Check_any k s cs ((w.alloc o).alloc o') (hin.up (HB.out o o')))
  have HR := hide (fun W h => bare_any k s cs W h (symE_len h0) (symE_pos h0))
  have HIN := hide hin
  have HSZ := hide (sym_sizes hin)
  have HP1 := hide (symE_pos h0)
  obtain ⟨A, n, c, A2, n2, c2, rfl, hn, hm, hn2, hm2, hl, hl2⟩ := hin
  have HY := hide (heap_alloc_new w (.cells #[.slice A n c, .slice A2 n2 c2] 25))
  have HY2 := hide (block_below HY.out ((Below.refl _ _).alloc (Nat.le_refl _) (.cells #[.slice none 0 0, .slice none 0 0] 25)))
  have HX := hide (heap_alloc_new (w.alloc (.cells #[.slice A n c, .slice A2 n2 c2] 25)) (.cells #[.slice none 0 0, .slice none 0 0] 25))
  clear hl hl2 h0
  go_enter Tryd.func7, Tryd.ntmps7
  go_wp2_with (first | (go_at_call 16; refine (HC.out _ _).mono ?_; rintro r w1 ⟨rfl, hw1⟩; have hB1 : Below w.heap.size w w1 := (HB.out _ _).trans (hw1.mono (by simp; omega)); have hx := block_below HX.out hw1; simp only [World.size_alloc] at hx; have HX1 := hide hx; have hy := block_below HY2.out hw1; have y0 : w1.cell? ⟨w.heap.size, 0, none⟩ = some (.slice A n c) := (block_cell hy 0).trans rfl; have y1 : w1.cell? ⟨w.heap.size, 1, none⟩ = some (.slice A2 n2 c2) := (block_cell hy 1).trans rfl; clear hx hy hw1) | (go_at_call 22; refine (HR.out _ (HIN.out.up hB1)).mono ?_; rintro r w2 ⟨⟨A9, n9, c9, rfl, hln9, hs9⟩, hw2⟩; have hB2 := hB1.trans (hw2.mono hB1.size); have hx := block_below HX1.out hw2; have HX2 := hide hx; have HS9 := hide hs9; have HL9 := hide hln9; have hz1 := hB1.size; have hlt1 := lt_of_block HX1.out; have x0 : w2.cell? ⟨w.heap.size + 1, 0, none⟩ = some (.slice none 0 0) := (block_cell hx 0).trans rfl; have x1 : w2.cell? ⟨w.heap.size + 1, 1, none⟩ = some (.slice none 0 0) := (block_cell hx 1).trans rfl; have xf0 : w2.frozen? ⟨w.heap.size + 1, 0, none⟩ = false := block_free hx 0; have xf1 : w2.frozen? ⟨w.heap.size + 1, 1, none⟩ = false := block_free hx 1; clear hx hs9 hln9))
  have hb1 := block_set HX2.out (i := 0) (.slice A9 n9 c9)
  have hb2 := block_set hb1 (i := 1) (.slice none 0 0)
  have ho2 := ownsRow_setCell_below (ownsRow_setCell_below HS9.out (a := ⟨w.heap.size + 1, 0, none⟩) hlt1 (.slice A9 n9 c9)) (a := ⟨w.heap.size + 1, 1, none⟩) hlt1 (.slice none 0 0)
  have hbz := (hB2.setCell (p := ⟨w.heap.size + 1, 0, none⟩) (by simp) (.slice A9 n9 c9)).setCell (p := ⟨w.heap.size + 1, 1, none⟩) (by simp) (.slice none 0 0)
  generalize ((w2.setCell ⟨w.heap.size + 1, 0, none⟩ (.slice A9 n9 c9)).setCell ⟨w.heap.size + 1, 1, none⟩ (.slice none 0 0)) = wf at hb2 hbz ho2 ⊢
  have r0 : wf.cell? ⟨w.heap.size + 1, 0, none⟩ = some (.slice A9 n9 c9) := (block_cell hb2 0).trans rfl
  have r1 : wf.cell? ⟨w.heap.size + 1, 1, none⟩ = some (.slice none 0 0) := (block_cell hb2 1).trans rfl
  refine bodyPost_ret (by simp [results, Tryd.results7, go_sem, r0, r1]; try rfl) rfl ?_
  exact ⟨⟨A9, n9, c9, rfl, bare_sym ho2 HL9.out (by have := HP1.out; have := HL9.out; omega) HSZ.out⟩, hbz⟩
end Go.Proofs.YtocpmbpckbjepaaDoor
