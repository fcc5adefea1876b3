/- Walks of cmp.Compare at strings, cmp.Or, the closure that Tallies sorts by. -/
import Derived.Test.YtkoijhecahebgaaDoorGtLev2
import Derived.Test.YtkoijhecahebgaaDoorShelf
namespace Go.Proofs.YtkoijhecahebgaaDoor
open Go.RowKit
set_option linter.unusedVariables false
set_option linter.unusedSimpArgs false
/-- Strings, compared byte by byte. -/
def cmpS (a b : ByteArray) : Int := if Op.bytesLess a.toList b.toList then -1 else if a.toList == b.toList then 0 else 1
theorem isNaN_str (a : ByteArray) (w : World) : Calls Tryd.prog 61 #[.string a] w fun e w' => e = .returned (.bool false) ∧ w = w' := by
  go_enter Tryd.func61, Tryd.ntmps61
  go_wp2
  go_ret
  exact ⟨by simp, rfl⟩
theorem Compare_str (a b : ByteArray) (w : World) : Calls Tryd.prog 46 #[.string a, .string b] w fun e w' => e = .returned (.int .i64 (cmpS a b)) ∧ w = w' := by
  have C := hide (fun x W => isNaN_str x W)
  cases h1 : Op.bytesLess a.toList b.toList
  · cases h2 : (a.toList == b.toList)
    · skip
      have h3 : (!a.toList == b.toList) = true := by rw [h2]; rfl
      have E := hide (show cmpS a b = 1 by rw [cmpS, h1, h2]; rfl)
      go_enter Tryd.func46, Tryd.ntmps46
      go_wp2_with (go_at_call 61; refine (C.out _ _).mono ?_; rintro e w' ⟨rfl, rfl⟩)
      go_ret
      exact ⟨by rw [E.out]; rfl, rfl⟩
    · skip
      have h3 : (!a.toList == b.toList) = false := by rw [h2]; rfl
      have E := hide (show cmpS a b = 0 by rw [cmpS, h1, h2]; rfl)
      go_enter Tryd.func46, Tryd.ntmps46
      go_wp2_with (go_at_call 61; refine (C.out _ _).mono ?_; rintro e w' ⟨rfl, rfl⟩)
      go_ret
      exact ⟨by rw [E.out]; rfl, rfl⟩
  · skip
    have E := hide (show cmpS a b = -1 by rw [cmpS, h1]; rfl)
    go_enter Tryd.func46, Tryd.ntmps46
    go_wp2_with (go_at_call 61; refine (C.out _ _).mono ?_; rintro e w' ⟨rfl, rfl⟩)
    go_ret
    exact ⟨by rw [E.out]; rfl, rfl⟩
/-- The first number that is not 0. -/
def orI (x y z : Int) : Int := if x ≠ 0 then x else if y ≠ 0 then y else z
set_option maxHeartbeats 1000000 in
theorem Or_three (b : Nat) (c : Nat) (x y z : Int) (w : World) (c0 : w.cell? ⟨b, 0, none⟩ = some (.int .i64 x)) (c1 : w.cell? ⟨b, 1, none⟩ = some (.int .i64 y)) (c2 : w.cell? ⟨b, 2, none⟩ = some (.int .i64 z)) :
    Calls Tryd.prog 45 #[.slice (some ⟨b, 0, none⟩) 3 c] w fun e w' => e = .returned (.int .i64 (orI x y z)) ∧ w = w' := by
  by_cases hx : x = 0
  · subst hx
    by_cases hy : y = 0
    · subst hy
      by_cases hz : z = 0
      · subst hz
        go_enter Tryd.func45, Tryd.ntmps45
        go_wp2_with (fail)
        refine wp_loop_rounds 4 ?_
        rw [rounds_succ]
        go_wp2_with (fail)
        rw [rounds_succ]
        go_wp2_with (fail)
        rw [rounds_succ]
        go_wp2_with (fail)
        rw [rounds_succ]
        go_wp2_with (fail)
        go_ret
        exact ⟨rfl, rfl⟩
      · have hzb : (z == 0) = false := by simpa using hz
        have hzc : (!(z == 0)) = true := by rw [hzb]; rfl
        have E := hide (show orI 0 0 z = z by simp [orI])
        go_enter Tryd.func45, Tryd.ntmps45
        go_wp2_with (fail)
        refine wp_loop_rounds 4 ?_
        rw [rounds_succ]
        go_wp2_with (fail)
        rw [rounds_succ]
        go_wp2_with (fail)
        rw [rounds_succ]
        go_wp2_with (fail)
        go_ret
        exact ⟨by rw [E.out]; rfl, rfl⟩
    · have hyb : (y == 0) = false := by simpa using hy
      have hyc : (!(y == 0)) = true := by rw [hyb]; rfl
      have E := hide (show orI 0 y z = y by simp [orI, hy])
      go_enter Tryd.func45, Tryd.ntmps45
      go_wp2_with (fail)
      refine wp_loop_rounds 4 ?_
      rw [rounds_succ]
      go_wp2_with (fail)
      rw [rounds_succ]
      go_wp2_with (fail)
      go_ret
      exact ⟨by rw [E.out]; rfl, rfl⟩
  · have hxb : (x == 0) = false := by simpa using hx
    have hxc : (!(x == 0)) = true := by rw [hxb]; rfl
    have E := hide (show orI x y z = x by simp [orI, hx])
    go_enter Tryd.func45, Tryd.ntmps45
    go_wp2_with (fail)
    refine wp_loop_rounds 4 ?_
    rw [rounds_succ]
    go_wp2_with (fail)
    go_ret
    exact ⟨by rw [E.out]; rfl, rfl⟩
end Go.Proofs.YtkoijhecahebgaaDoor
