/- Walks of both watches' Silences (printed by gen_a8.py). -/
import Derived.Test.YtmakkdadhhpapaaDoorAlEq
import Derived.Test.YtmakkdadhhpapaaDoorAlGo
import Derived.Test.YtmakkdadhhpapaaDoorRowSet
namespace Go.Proofs.YtmakkdadhhpapaaDoor
open Go.RowKit
set_option linter.unusedVariables false
set_option linter.unusedSimpArgs false
theorem nSilences_bad (pw : Nat) (A : Option Addr) (n c : Nat) (l : List Sil) (w : World) (hn : n ≤ maxLen) (hl : Sl w w.heap.size Sil.cs 3 A n l) (hf : SilFit l) (E : Int) (hE : silsErr l = E) (h0 : E ≠ 0) :
    Calls Tryd.prog 13 #[.pointer (some ⟨pw, 0, none⟩), .slice A n c] w fun e w' => e = .returned (.int .i64 E) ∧ Below w.heap.size w w' := by
  have HC := hide (hE ▸ nSils_any A n c l w hn hl hf)
  have h0' : (E == 0) = false := by simpa using h0
  clear hl hf hE
  go_enter Tryd.func13, Tryd.ntmps13
  go_wp2_with (go_at_call 40; refine HC.out.mono ?_; rintro e w1 ⟨rfl, hw1⟩)
  go_ret
  exact ⟨rfl, hw1⟩
set_option maxHeartbeats 2000000 in
theorem nSilences_ok (pw : Nat) (cur : Array Value) (old : Value) (A : Option Addr) (n c : Nat) (l : List Sil) (w : World) (hl : Sl w w.heap.size Sil.cs 3 A n l) (hf : SilFit l) (hE : silsErr l = 0)
    (hb : w.heap[pw]? = some (.cells cur 53 (0, 0))) (ho : cur[2]? = some old) :
    Calls Tryd.prog 13 #[.pointer (some ⟨pw, 0, none⟩), .slice A n c] w fun e w' => ∃ v, e = .returned (.int .i64 0) ∧ w'.heap[pw]? = some (.cells (cur.setIfInBounds 2 v) 53 (0, 0)) ∧ w'.ownsRow w.heap.size 87 3 v n (l.flatMap Sil.cs) ∧ ButAt pw w w' := by
  have hn : n ≤ 50 := by
    have := hl.len
    by_cases h : 50 < l.length
    · rw [silsErr, if_pos h] at hE; cases hE
    · omega
  have HC := hide (hE ▸ nSils_any A n c l w (by unfold maxLen; omega) hl hf)
  have HL := hide (fun (W : World) (h : Below w.heap.size w W) => CloneSil_any A n c l W (by omega) (Sl.up hl h))
  have HB := hide hb
  have hlt := lt_of_block hb
  clear hl hf hE hb
  go_enter Tryd.func13, Tryd.ntmps13
  go_wp2_with (first | (go_at_call 40; refine HC.out.mono ?_; rintro e w1 ⟨rfl, hw1⟩; have HW1 := hide hw1; have HB1 := hide (block_below HB.out hw1); clear hw1) | (go_at_call 41; refine (HL.out _ HW1.out).mono ?_; rintro e w2 ⟨v, rfl, hown, hw2⟩; obtain ⟨ao, co, rfl⟩ := own_sl hown; have HW2 := hide (HW1.out.trans (hw2.mono HW1.out.size)); have HB2 := hide (block_below HB1.out hw2); have HO := hide hown; have z : w2.cell? ⟨pw, 2, none⟩ = some old := (block_cell HB2.out _).trans ho; have zf : w2.frozen? ⟨pw, 2, none⟩ = false := block_free HB2.out _; have hz1 := HW1.out.size; clear hw2 hown))
  go_ret
  have hv : ∀ g, (Value.slice ao n co).ownBlock = some g → w1.heap.size ≤ g := fun g hg => (HO.out.lt g hg).1
  refine ⟨_, rfl, block_set HB2.out _, ?_, (ButAt.of_below HW2.out (by omega)).trans (ButAt.set _ _ _)⟩
  have h3 := ownsRow_setCell_other HO.out (a := ⟨pw, 2, none⟩) (fun e => by have := hv _ e; simp at this; omega) (.slice ao n co)
  exact ⟨h3.1, h3.2.imp id fun ⟨g, cap, cur, h1, h2, h4⟩ => ⟨g, cap, cur, h1, by omega, h4⟩⟩
theorem rSilences_bad (pw : Nat) (A : Option Addr) (n c : Nat) (l : List Sil) (w : World) (hn : n ≤ maxLen) (hl : Sl w w.heap.size Sil.cs 3 A n l) (hf : SilFit l) (E : Int) (hE : silsErr l = E) (h0 : E ≠ 0) :
    Calls Tryd.prog 14 #[.pointer (some ⟨pw, 0, none⟩), .slice A n c] w fun e w' => e = .returned (.int .i64 E) ∧ Below w.heap.size w w' := by
  have HC := hide (hE ▸ rSils_any A n c l w hn hl hf)
  have h0' : (E == 0) = false := by simpa using h0
  clear hl hf hE
  go_enter Tryd.func14, Tryd.ntmps14
  go_wp2_with (go_at_call 42; refine HC.out.mono ?_; rintro e w1 ⟨rfl, hw1⟩)
  go_ret
  exact ⟨rfl, hw1⟩
set_option maxHeartbeats 2000000 in
theorem rSilences_ok (pw : Nat) (cur : Array Value) (old : Value) (A : Option Addr) (n c : Nat) (l : List Sil) (w : World) (hl : Sl w w.heap.size Sil.cs 3 A n l) (hf : SilFit l) (hE : silsErr l = 0)
    (hb : w.heap[pw]? = some (.cells cur 69 (0, 0))) (ho : cur[4]? = some old) :
    Calls Tryd.prog 14 #[.pointer (some ⟨pw, 0, none⟩), .slice A n c] w fun e w' => ∃ v, e = .returned (.int .i64 0) ∧ w'.heap[pw]? = some (.cells (cur.setIfInBounds 4 v) 69 (0, 0)) ∧ w'.ownsRow w.heap.size 87 3 v n (l.flatMap Sil.cs) ∧ ButAt pw w w' := by
  have hn : n ≤ 50 := by
    have := hl.len
    by_cases h : 50 < l.length
    · rw [silsErr, if_pos h] at hE; cases hE
    · omega
  have HC := hide (hE ▸ rSils_any A n c l w (by unfold maxLen; omega) hl hf)
  have HL := hide (fun (W : World) (h : Below w.heap.size w W) => CloneSil_any A n c l W (by omega) (Sl.up hl h))
  have HB := hide hb
  have hlt := lt_of_block hb
  clear hl hf hE hb
  go_enter Tryd.func14, Tryd.ntmps14
  go_wp2_with (first | (go_at_call 42; refine HC.out.mono ?_; rintro e w1 ⟨rfl, hw1⟩; have HW1 := hide hw1; have HB1 := hide (block_below HB.out hw1); clear hw1) | (go_at_call 41; refine (HL.out _ HW1.out).mono ?_; rintro e w2 ⟨v, rfl, hown, hw2⟩; obtain ⟨ao, co, rfl⟩ := own_sl hown; have HW2 := hide (HW1.out.trans (hw2.mono HW1.out.size)); have HB2 := hide (block_below HB1.out hw2); have HO := hide hown; have z : w2.cell? ⟨pw, 4, none⟩ = some old := (block_cell HB2.out _).trans ho; have zf : w2.frozen? ⟨pw, 4, none⟩ = false := block_free HB2.out _; have hz1 := HW1.out.size; clear hw2 hown))
  go_ret
  have hv : ∀ g, (Value.slice ao n co).ownBlock = some g → w1.heap.size ≤ g := fun g hg => (HO.out.lt g hg).1
  refine ⟨_, rfl, block_set HB2.out _, ?_, (ButAt.of_below HW2.out (by omega)).trans (ButAt.set _ _ _)⟩
  have h3 := ownsRow_setCell_other HO.out (a := ⟨pw, 4, none⟩) (fun e => by have := hv _ e; simp at this; omega) (.slice ao n co)
  exact ⟨h3.1, h3.2.imp id fun ⟨g, cap, cur, h1, h2, h4⟩ => ⟨g, cap, cur, h1, by omega, h4⟩⟩
end Go.Proofs.YtmakkdadhhpapaaDoor
