/- GtBk2: RateBkt2 over Names (printed by gen_gt0.py). -/
import Derived.Test.YtkoijhecahebgaaDoorGtBkt
namespace Go.Proofs.YtkoijhecahebgaaDoor
open Go.RowKit
def fullE (s a e at_ : Int) : Int := if bkErr s a e = 0 then (if outsideB at_ 0 3155759999 then 2 else 0) else bkErr s a e
def fullA (s a e at_ x : Int) : Int := if fullE s a e at_ = 0 then x else 0
theorem full_any (s a e at_ : Int) (w : World) :
    Calls Tryd.prog 23 #[v3 s a e, .int .i64 at_] w fun x w' => x = .returned (v3 s at_ 0) ∧ Below w.heap.size w w' := by
  unfold v3
  go_enter Tryd.func23, Tryd.ntmps23
  go_wp2
  go_returns
  exact ⟨rfl, by go_grown⟩
/-- The error of Pour. -/
def pourE (s a e h t r at_ : Int) : Int := if lvErr s a e h t r = 0 then (if outsideB at_ 0 3155759999 then 2 else if at_ < t then 5 else 0) else lvErr s a e h t r
def pour1 (s a e h t r at_ : Int) : Int := if pourE s a e h t r at_ = 0 then pH s a e h t r at_ else 0
def pour2 (s a e h t r at_ : Int) : Int := if pourE s a e h t r at_ = 0 then at_ else 0
def pour3 (s a e h t r at_ : Int) : Int := if pourE s a e h t r at_ = 0 then pR e t r at_ else 0
theorem pour_vals {s a e h t r at_ : Int} (H : pourE s a e h t r at_ = 0) : pour1 s a e h t r at_ = pH s a e h t r at_ ∧ pour2 s a e h t r at_ = at_ ∧ pour3 s a e h t r at_ = pR e t r at_ :=
  ⟨by rw [pour1, if_pos H], by rw [pour2, if_pos H], by rw [pour3, if_pos H]⟩
theorem pour_zeros {s a e h t r at_ : Int} (H : pourE s a e h t r at_ ≠ 0) : pour1 s a e h t r at_ = 0 ∧ pour2 s a e h t r at_ = 0 ∧ pour3 s a e h t r at_ = 0 :=
  ⟨by rw [pour1, if_neg H], by rw [pour2, if_neg H], by rw [pour3, if_neg H]⟩
theorem pourOk {s a e h t r at_ : Int} (H : pourE s a e h t r at_ = 0) : lvErr s a e h t r = 0 ∧ 0 ≤ at_ ∧ at_ ≤ 3155759999 ∧ t ≤ at_ := by
  unfold pourE at H
  split at H
  · rename_i hl
    split at H
    · omega
    · rename_i h2
      simp [outsideB] at h2
      split at H
      · omega
      · exact ⟨hl, by omega, by omega, by omega⟩
  · omega
end Go.Proofs.YtkoijhecahebgaaDoor
