/- checkBoth, Align and Near (as in StAligns), for the door seat. -/
import Derived.Test.YtbfhicimjijdeaaDoorStAl
import Derived.Test.YtbfhicimjijdeaaDoorStFrV
import Derived.BigQuiet
namespace Go.Proofs.YtbfhicimjijdeaaDoor
open Go.RowKit
set_option linter.unusedVariables false
theorem pr_len : ∀ (l : List Frame) (i : Nat) (bs : List Frame) (k : Nat), (pr l i bs k).length ≤ l.length := by
  intro l
  induction l with
  | nil => intro i bs k; exact Nat.le_refl _
  | cons x xs ih =>
    intro i bs k
    have h1 := ih (i + 1) bs k
    rw [pr]
    split
    · simp only [List.length_cons]; omega
    · rename_i d _
      have h2 := ih (i + 1) (bs.drop (d + 1)) (k + d + 1)
      split <;> simp only [List.length_cons] <;> omega
def errB (a b : List Frame) : Int := if frsErr a = 0 then frsErr b else frsErr a
/-- How near two rows are. -/
def nearN (a b : List Frame) : Nat := if a.length + b.length = 0 then 1000 else 2000 * (pairsL a b).length / (a.length + b.length)
structure NearNum (n m N s p q : Nat) : Prop where
  a1 : (n : Int) + (m : Int) = (s : Int)
  a2 : IntKind.i64.wrap ((n : Int) + (m : Int)) = (s : Int)
  a3 : IntKind.i64.wrap (s : Int) = (s : Int)
  a4 : (2000 : Int) * (N : Int) = (p : Int)
  a5 : IntKind.i64.wrap ((2000 : Int) * (N : Int)) = (p : Int)
  a6 : IntKind.i64.wrap (p : Int) = (p : Int)
  a7 : Int.tdiv (p : Int) (s : Int) = (q : Int)
  a8 : IntKind.i64.wrap (Int.tdiv (p : Int) (s : Int)) = (q : Int)
  a9 : IntKind.i64.wrap (q : Int) = (q : Int)
  b1 : ((s : Int) == 0) = false
  b2 : decide ((s : Int) = 0) = false
theorem nearNum {n m N : Nat} (hn : n ≤ 200) (hm : m ≤ 200) (hN : N ≤ 200) (h0 : n + m ≠ 0) : ∃ s p q, q = 2000 * N / (n + m) ∧ s ≠ 0 ∧ q ≤ 400000 ∧ NearNum n m N s p q := by
  have hq : 2000 * N / (n + m) ≤ 400000 := Nat.le_trans (Nat.div_le_self _ _) (by omega)
  have e1 : (n : Int) + (m : Int) = ((n + m : Nat) : Int) := by omega
  have e2 : (2000 : Int) * (N : Int) = ((2000 * N : Nat) : Int) := by omega
  have e3 : Int.tdiv ((2000 * N : Nat) : Int) ((n + m : Nat) : Int) = ((2000 * N / (n + m) : Nat) : Int) := rfl
  obtain ⟨q, hq2⟩ : ∃ q, q = 2000 * N / (n + m) := ⟨_, rfl⟩
  rw [← hq2] at hq e3
  refine ⟨n + m, 2000 * N, q, hq2, h0, hq, e1, ?_, ?_, e2, ?_, ?_, e3, ?_, ?_, ?_, ?_⟩
  · rw [e1]; exact IntWalk.i64_in _ (by omega)
  · exact IntWalk.i64_in _ (by omega)
  · rw [e2]; exact IntWalk.i64_in _ (by omega)
  · exact IntWalk.i64_in _ (by omega)
  · rw [e3]; exact IntWalk.i64_in _ (by omega)
  · exact IntWalk.i64_in _ (by omega)
  · simp; omega
  · simp; omega
section
variable (A : Option Addr) (n c : Nat) (A' : Option Addr) (m c' : Nat) (a b : List Frame) (w : World) (hn : n ≤ maxLen) (hm : m ≤ maxLen) (hl : Sl w w.heap.size Frame.cs 6 A n a) (hl' : Sl w w.heap.size Frame.cs 6 A' m b) (hf : FramesFit a) (hf' : FramesFit b)
include hn hm hl hl' hf hf'
set_option maxHeartbeats 1000000 in
theorem checkBoth_any : Calls Tryd.prog 33 #[.slice A n c, .slice A' m c'] w fun e w' => e = .returned (.int .i64 (errB a b)) ∧ Below w.heap.size w w' := by
  obtain ⟨E, hE⟩ : ∃ E, frsErr a = E := ⟨_, rfl⟩
  have K1 := hide (checkFrames_v (A := A) (n := n) (cap := c) hE w hn hl hf)
  have K2 := hide (fun W h => checkFrames_any A' m c' b W hm h hf')
  by_cases h0 : E = 0
  · subst h0
    have HE := hide (show errB a b = frsErr b by rw [errB, if_pos hE])
    clear hE
    go_enter Tryd.func33, Tryd.ntmps33
    go_wp2_with (first | (go_at_call 35; (with_reducible refine K1.out.mono ?_); rintro r w0 ⟨rfl, hB0⟩) | (go_at_call 35; (with_reducible refine (K2.out _ (hl'.up hB0)).mono ?_); rintro r w1 ⟨rfl, hw1⟩; have hB1 := hB0.trans (hw1.mono hB0.size)))
    go_ret
    exact ⟨by rw [HE.out]; rfl, hB1⟩
  · have HE := hide (show errB a b = E by rw [errB, if_neg (by rw [hE]; exact h0), hE])
    have h0' : (E == 0) = false := by simpa using h0
    clear hE h0
    go_enter Tryd.func33, Tryd.ntmps33
    go_wp2_with (go_at_call 35; refine K1.out.mono ?_; rintro r w0 ⟨rfl, hB0⟩)
    go_ret
    exact ⟨by rw [HE.out]; rfl, hB0⟩
theorem checkBoth_v {v : Int} (hv : errB a b = v) : Calls Tryd.prog 33 #[.slice A n c, .slice A' m c'] w fun e w' => e = .returned (.int .i64 v) ∧ Below w.heap.size w w' := by
  subst hv; exact checkBoth_any A n c A' m c' a b w hn hm hl hl' hf hf'
set_option maxHeartbeats 1000000 in
theorem Align_err {E : Int} (hE : errB a b = E) (h0 : E ≠ 0) : Calls Tryd.prog 11 #[.slice A n c, .slice A' m c'] w fun e w' => e = .returned (.tuple #[.slice none 0 0, .int .i64 E]) ∧ Below w.heap.size w w' := by
  have C := hide (checkBoth_v A n c A' m c' a b w hn hm hl hl' hf hf' hE)
  have h0' : (E == 0) = false := by simpa using h0
  clear hE
  go_enter Tryd.func11, Tryd.ntmps11
  go_wp2_with (go_at_call 33; refine C.out.mono ?_; rintro r w0 ⟨rfl, hB0⟩)
  go_ret2
  exact ⟨rfl, hB0⟩
set_option maxHeartbeats 1000000 in
theorem Near_err {E : Int} (hE : errB a b = E) (h0 : E ≠ 0) : Calls Tryd.prog 12 #[.slice A n c, .slice A' m c'] w fun e w' => e = .returned (.tuple #[.int .i64 0, .int .i64 E]) ∧ Below w.heap.size w w' := by
  have C := hide (checkBoth_v A n c A' m c' a b w hn hm hl hl' hf hf' hE)
  have h0' : (E == 0) = false := by simpa using h0
  clear hE
  go_enter Tryd.func12, Tryd.ntmps12
  go_wp2_with (go_at_call 33; refine C.out.mono ?_; rintro r w0 ⟨rfl, hB0⟩)
  go_ret2
  exact ⟨rfl, hB0⟩
set_option maxHeartbeats 1000000 in
theorem Align_ok (hn2 : n ≤ 200) (hm2 : m ≤ 200) (hE : errB a b = 0) : Calls Tryd.prog 11 #[.slice A n c, .slice A' m c'] w (GivesPairs (fun v => .tuple #[v, .int .i64 0]) (pairsL a b) w) := by
  have C := hide (checkBoth_v A n c A' m c' a b w hn hm hl hl' hf hf' hE)
  have K := hide (fun W h h' => aligned_any A n c A' m c' a b W hn2 hm2 h h')
  clear hE
  go_enter Tryd.func11, Tryd.ntmps11
  go_wp2_with (first | (go_at_call 33; refine C.out.mono ?_; rintro r w0 ⟨rfl, hB0⟩) | (go_at_call 34; refine (K.out _ (hl.up hB0) (hl'.up hB0)).mono ?_; rintro r w1 ⟨A1, N1, c1, rfl, hR1, hw1⟩; have hB1 := hB0.trans (hw1.mono hB0.size)))
  go_ret2
  exact ⟨A1, N1, c1, rfl, hR1, hB1⟩
set_option maxHeartbeats 2000000 in
theorem Near_ok (hn2 : n ≤ 200) (hm2 : m ≤ 200) (hE : errB a b = 0) : Calls Tryd.prog 12 #[.slice A n c, .slice A' m c'] w fun e w' => e = .returned (.tuple #[.int .i64 (nearN a b : Nat), .int .i64 0]) ∧ Below w.heap.size w w' := by
  have C := hide (checkBoth_v A n c A' m c' a b w hn hm hl hl' hf hf' hE)
  have K := hide (fun W h h' => aligned_any A n c A' m c' a b W hn2 hm2 h h')
  have HL := hide hl.len
  have HL' := hide hl'.len
  have HP := hide (pr_len a 0 b 0)
  clear hE
  by_cases h0 : n + m = 0
  · obtain ⟨rfl, rfl⟩ : n = 0 ∧ m = 0 := by omega
    have HN := hide (show nearN a b = 1000 by rw [nearN, if_pos (by rw [HL.out, HL'.out])])
    go_enter Tryd.func12, Tryd.ntmps12
    go_wp2_with (go_at_call 33; refine C.out.mono ?_; rintro r w0 ⟨rfl, hB0⟩)
    go_ret2
    exact ⟨by rw [HN.out]; rfl, hB0⟩
  · obtain ⟨N, hN⟩ : ∃ N, (pairsL a b).length = N := ⟨_, rfl⟩
    have hN2 : N ≤ 200 := by have h := HP.out; have := HL.out; rw [pairsL] at hN; omega
    obtain ⟨s, p, q, hq, hs0, hq4, ⟨a1, a2, a3, a4, a5, a6, a7, a8, a9, b1, b2⟩⟩ := nearNum hn2 hm2 hN2 h0
    have HN := hide (show nearN a b = q by rw [nearN, if_neg (by rw [HL.out, HL'.out]; exact h0), hN, HL.out, HL'.out, hq])
    have HNL := hide hN
    clear h0 hq hN
    go_enter Tryd.func12, Tryd.ntmps12
    go_wp2_with (first | (go_at_call 33; refine C.out.mono ?_; rintro r w0 ⟨rfl, hB0⟩) | (go_at_call 34; refine (K.out _ (hl.up hB0) (hl'.up hB0)).mono ?_; rintro r w1 ⟨A1, N1, c1, rfl, hR1, hw1⟩; obtain rfl : N1 = N := hR1.len.symm.trans HNL.out; have hB1 := hB0.trans (hw1.mono hB0.size)))
    go_ret2
    exact ⟨by rw [HN.out]; rfl, hB1⟩
end
end Go.Proofs.YtbfhicimjijdeaaDoor
