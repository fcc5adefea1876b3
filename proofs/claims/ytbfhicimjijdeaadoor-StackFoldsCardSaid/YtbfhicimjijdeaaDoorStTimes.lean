/- How often the first frames come: the plain law, and the walk of times. -/
import Derived.Test.YtbfhicimjijdeaaDoorStEqB
import Derived.Test.YtbfhicimjijdeaaDoorFam
namespace Go.Proofs.YtbfhicimjijdeaaDoor
open Go.RowKit
set_option linter.unusedVariables false
/-- The first g frames come once more behind j times. -/
def stepOk (l : List Frame) (g j : Nat) : Prop := (j + 1) * g ≤ l.length ∧ l.take g = (l.drop (j * g)).take g
instance (l : List Frame) (g j : Nat) : Decidable (stepOk l g j) := by unfold stepOk; exact inferInstance
def tmFrom (l : List Frame) (g : Nat) : Nat → Nat → Nat
  | 0, j => j
  | f + 1, j => if stepOk l g j then tmFrom l g f (j + 1) else j
def timesOf (l : List Frame) (g : Nat) : Nat := tmFrom l g l.length 1
theorem tmFrom_stop {l : List Frame} {g f j : Nat} (h : ¬ stepOk l g j) : tmFrom l g f j = j := by
  cases f with
  | zero => rfl
  | succ f => rw [tmFrom, if_neg h]
theorem tmFrom_step {l : List Frame} {g j : Nat} (h : stepOk l g j) (hg : 1 ≤ g) : tmFrom l g (l.length + 1 - j) j = tmFrom l g (l.length + 1 - (j + 1)) (j + 1) := by
  have h1 : (j + 1) * 1 ≤ (j + 1) * g := Nat.mul_le_mul_left _ hg
  have h2 := h.1
  rw [show l.length + 1 - j = (l.length + 1 - (j + 1)) + 1 by omega, tmFrom, if_pos h]
theorem tmFrom_bd {l : List Frame} {g : Nat} (hg : 1 ≤ g) : ∀ (f j : Nat), 1 ≤ j → j * g ≤ l.length → 1 ≤ tmFrom l g f j ∧ tmFrom l g f j * g ≤ l.length := by
  intro f
  induction f with
  | zero => intro j h1 h2; exact ⟨h1, h2⟩
  | succ f ih =>
    intro j h1 h2
    rw [tmFrom]
    split
    · rename_i h; exact ih (j + 1) (by omega) h.1
    · exact ⟨h1, h2⟩
theorem timesOf_bd {l : List Frame} {g : Nat} (hg : 1 ≤ g) (hl : g ≤ l.length) : 1 ≤ timesOf l g ∧ timesOf l g * g ≤ l.length := tmFrom_bd hg _ _ (Nat.le_refl _) (by omega)
/-- What a step of the count computes, as the walk has it. -/
structure StepNums (j g n c : Nat) where
  j1 : Nat
  p : Nat
  p1 : Nat
  e1 : (j : Int) + 1 = (j1 : Int)
  e2 : (j1 : Int) * (g : Int) = (p1 : Int)
  e3 : (j : Int) * (g : Int) = (p : Int)
  w1 : IntKind.i64.wrap ((j : Int) + 1) = (j1 : Int)
  w2 : IntKind.i64.wrap ((j1 : Int) * (g : Int)) = (p1 : Int)
  w3 : IntKind.i64.wrap ((j : Int) * (g : Int)) = (p : Int)
  v1 : IntKind.i64.wrap (j1 : Int) = (j1 : Int)
  v2 : IntKind.i64.wrap (p1 : Int) = (p1 : Int)
  v3 : IntKind.i64.wrap (p : Int) = (p : Int)
  hp1 : p1 = (j + 1) * g
  hp : p = j * g
  hpp : p1 - p = g
theorem stepNums (j g n c : Nat) (hj : j ≤ 1000) (hg : g ≤ 1000) : Nonempty (StepNums j g n c) := by
  have h1 : j * g ≤ 1000 * 1000 := Nat.mul_le_mul hj hg
  have h2 : (j + 1) * g = j * g + g := Nat.succ_mul j g
  have i2 : ((j + 1 : Nat) : Int) * (g : Int) = (((j + 1) * g : Nat) : Int) := by rw [Int.natCast_mul]
  have i3 : (j : Int) * (g : Int) = ((j * g : Nat) : Int) := by rw [Int.natCast_mul]
  refine ⟨⟨j + 1, j * g, (j + 1) * g, by omega, i2, i3, ?_, ?_, ?_, IntWalk.i64_in _ (by omega), IntWalk.i64_in _ (by omega), IntWalk.i64_in _ (by omega), rfl, rfl, by omega⟩⟩
  · exact (IntWalk.i64_in _ (by omega)).trans (by omega)
  · rw [i2]; exact IntWalk.i64_in _ (by omega)
  · rw [i3]; exact IntWalk.i64_in _ (by omega)
set_option maxRecDepth 100000 in
set_option maxHeartbeats 4000000 in
theorem times_any (A : Option Addr) (n c : Nat) (l : List Frame) (g : Nat) (w : World) (hn : n ≤ 200) (hnc : n ≤ c) (hcm : c ≤ maxLen) (hg1 : 1 ≤ g) (hgn : g ≤ n) (hl : Sl w w.heap.size Frame.cs 6 A n l) :
    Calls Tryd.prog 38 #[.slice A n c, .int .i64 g] w fun e w' => e = .returned (.int .i64 (timesOf l g : Nat)) ∧ Below w.heap.size w w' := by
  have HL := hide hl.len
  unfold maxLen at hcm
  obtain ⟨b, o, rfl, _⟩ := hl.cells (by omega)
  go_enter Tryd.func38, Tryd.ntmps38
  go_wp2_with (fail)
  go_loopw [5] (fun i wr => ∃ j : Nat, 1 ≤ j ∧ j ≤ n ∧ i = .int .i64 j ∧ timesOf l g = tmFrom l g (l.length + 1 - j) j ∧ Below w.heap.size w wr) (fun i _ => n + 1 - (intOf i).toNat)
  case atStart => exact ⟨1, Nat.le_refl _, by omega, rfl, rfl, Below.refl _ _⟩
  case round =>
    obtain ⟨j, hj1, hj, rfl, htm, hB⟩ := hrel
    have HTM := hide htm
    clear htm
    obtain ⟨⟨j1, p, p1, e1, e2, e3, w1, w2, w3, v1, v2, v3, hp1, hp, hpp⟩⟩ := stepNums j g n c (by omega) (by omega)
    have HP1 := hide hp1
    have HP := hide hp
    by_cases hle : p1 ≤ n
    · have hle' : decide (p1 ≤ n) = true := by simpa using hle
      have q0 : (p : Int) ≤ (p1 : Int) := by omega
      have q1 : (p1 : Int) ≤ (c : Int) := by omega
      have q2 : (0 : Int) ≤ (p : Int) := by omega
      have q3 : (g : Int) ≤ (c : Int) := by omega
      have q4 : (0 : Int) ≤ (g : Int) := by omega
      have q5 : ¬ c = p := by omega
      have q6 : g ≤ n - p := by omega
      have q7 : p ≤ n := by omega
      obtain ⟨I1, F1, hi1, hC1, hFB1, hJ1⟩ := fam [] w wr (Cells.nil _) (by assumption); have hJ1 := hide hJ1; haveI : Nonempty I1 := ⟨hi1.choose⟩
      have HF := hide hFB1
      have HEQ := hide (fun i c1 c2 => Equal_any (some ⟨b, o, none⟩) g c1 (some ⟨b, o + p * 6, none⟩) g c2 (l.take g) ((l.drop p).take g) (F1 i) (by unfold maxLen; omega) (by unfold maxLen; omega) (((hl.first hgn).below (HF.out i)).more (HF.out i).size) ((((hl.drop q7).first q6).below (HF.out i)).more (HF.out i).size))
      clear hC1 hFB1
      by_cases heq : l.take g = (l.drop p).take g
      · have HST := hide (show stepOk l g j from ⟨by rw [HL.out, ← HP1.out]; exact hle, by rw [← HP.out]; exact heq⟩)
        have HEQ := hide (fun i c1 c2 => by have h := HEQ.out i c1 c2; rw [decide_eq_true heq] at h; exact h)
        have hj1n : j1 ≤ n := by
          have h0 := Nat.mul_le_mul_left (j + 1) hg1
          rw [← HP1.out] at h0
          omega
        clear hp1 hp heq
        go_wp2_with (fail)
        refine wp_region_fam F1 hi1 (by kernel_rfl) (by kernel_rfl) ?_; (repeat (go_big_quiet_step ((go_at_call 14; refine (HEQ.out _ _ _).mono ?_; rintro r w' ⟨rfl, hw'⟩; exact ⟨rfl, hJ1.out _ _ hw'⟩)))); refine wpQuiet_nil ?_; rintro _ ⟨i1, rfl⟩
        have hBi := HF.out i1
        go_wp2_with (fail)
        go_roundw
        case rel => exact ⟨j + 1, by omega, by omega, by go_num, by rw [HTM.out, tmFrom_step HST.out hg1], hBi⟩
        case measure => simp [intOf]; omega
      · have HST := hide (show ¬ stepOk l g j from fun h => heq (by rw [HP.out]; exact h.2))
        have HEQ := hide (fun i c1 c2 => by have h := HEQ.out i c1 c2; rw [decide_eq_false heq] at h; exact h)
        clear hp1 hp heq
        go_wp2_with (fail)
        refine wp_region_fam F1 hi1 (by kernel_rfl) (by kernel_rfl) ?_; (repeat (go_big_quiet_step ((go_at_call 14; refine (HEQ.out _ _ _).mono ?_; rintro r w' ⟨rfl, hw'⟩; exact ⟨rfl, hJ1.out _ _ hw'⟩)))); refine wpQuiet_nil ?_; rintro _ ⟨i1, rfl⟩
        have hBi := HF.out i1
        go_wp2_with (fail)
        go_ret
        exact ⟨by rw [HTM.out, tmFrom_stop HST.out]; rfl, hBi⟩
    · have hle' : decide (p1 ≤ n) = false := by simpa using hle
      have HST := hide (show ¬ stepOk l g j from fun h => hle (by rw [HP1.out, ← HL.out]; exact h.1))
      clear hp1 hp hle
      go_wp2_with (go_quiet (fail))
      go_ret
      exact ⟨by rw [HTM.out, tmFrom_stop HST.out]; rfl, by first | exact hB | exact below_drewN hB _⟩
end Go.Proofs.YtbfhicimjijdeaaDoor
