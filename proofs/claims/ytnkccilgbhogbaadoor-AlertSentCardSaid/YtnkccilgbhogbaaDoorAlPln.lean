/- Walks of CheckPlan and PlanError (printed by gen_ah.py). -/
import Derived.Test.YtnkccilgbhogbaaDoorAlErr
namespace Go.Proofs.YtnkccilgbhogbaaDoor
open Go.RowKit
set_option linter.unusedVariables false
set_option linter.unusedSimpArgs false
def planErr (mo wa ag tr : Int) : Int := if outsideB mo 1 100 || (outsideB wa 0 604800 || (outsideB ag 1 604800 || outsideB tr 1 20)) then 2 else 0
set_option maxRecDepth 100000 in
set_option maxHeartbeats 4000000 in
theorem CheckPlan_any (mo wa ag tr : Int) (w : World) :
    Calls Tryd.prog 24 #[.agg #[.int .i64 mo, .int .i64 wa, .int .i64 ag, .int .i64 tr]] w fun e w' => e = .returned (.int .i64 (planErr mo wa ag tr)) ∧ Below w.heap.size w w' := by
  have C0 := hide (fun W => outside_any mo 1 100 W)
  have C1 := hide (fun W => outside_any wa 0 604800 W)
  have C2 := hide (fun W => outside_any ag 1 604800 W)
  have C3 := hide (fun W => outside_any tr 1 20 W)
  cases h0 : outsideB mo 1 100
  · rw [h0] at C0
    cases h1 : outsideB wa 0 604800
    · rw [h1] at C1
      cases h2 : outsideB ag 1 604800
      · rw [h2] at C2
        cases h3 : outsideB tr 1 20
        · rw [h3] at C3
          have E := hide (show planErr mo wa ag tr = 0 by simp [planErr, h0, h1, h2, h3])
          rw [E.out]
          clear h0 h1 h2 h3
          go_enter Tryd.func24, Tryd.ntmps24
          go_wp2_with (first | (go_at_call 43; ((with_reducible refine (C0.out _).mono ?_)); rintro e w' ⟨rfl, rfl⟩) | (go_at_call 43; ((with_reducible refine (C1.out _).mono ?_)); rintro e w' ⟨rfl, rfl⟩) | (go_at_call 43; ((with_reducible refine (C2.out _).mono ?_)); rintro e w' ⟨rfl, rfl⟩) | (go_at_call 43; ((with_reducible refine (C3.out _).mono ?_)); rintro e w' ⟨rfl, rfl⟩))
          go_ret
          exact ⟨rfl, by go_grown⟩
        · rw [h3] at C3
          have E := hide (show planErr mo wa ag tr = 2 by simp [planErr, h0, h1, h2, h3])
          rw [E.out]
          clear h0 h1 h2 h3
          go_enter Tryd.func24, Tryd.ntmps24
          go_wp2_with (first | (go_at_call 43; ((with_reducible refine (C0.out _).mono ?_)); rintro e w' ⟨rfl, rfl⟩) | (go_at_call 43; ((with_reducible refine (C1.out _).mono ?_)); rintro e w' ⟨rfl, rfl⟩) | (go_at_call 43; ((with_reducible refine (C2.out _).mono ?_)); rintro e w' ⟨rfl, rfl⟩) | (go_at_call 43; ((with_reducible refine (C3.out _).mono ?_)); rintro e w' ⟨rfl, rfl⟩))
          go_ret
          exact ⟨rfl, by go_grown⟩
      · rw [h2] at C2
        have E := hide (show planErr mo wa ag tr = 2 by simp [planErr, h0, h1, h2])
        rw [E.out]
        clear h0 h1 h2
        go_enter Tryd.func24, Tryd.ntmps24
        go_wp2_with (first | (go_at_call 43; ((with_reducible refine (C0.out _).mono ?_)); rintro e w' ⟨rfl, rfl⟩) | (go_at_call 43; ((with_reducible refine (C1.out _).mono ?_)); rintro e w' ⟨rfl, rfl⟩) | (go_at_call 43; ((with_reducible refine (C2.out _).mono ?_)); rintro e w' ⟨rfl, rfl⟩))
        go_ret
        exact ⟨rfl, by go_grown⟩
    · rw [h1] at C1
      have E := hide (show planErr mo wa ag tr = 2 by simp [planErr, h0, h1])
      rw [E.out]
      clear h0 h1
      go_enter Tryd.func24, Tryd.ntmps24
      go_wp2_with (first | (go_at_call 43; ((with_reducible refine (C0.out _).mono ?_)); rintro e w' ⟨rfl, rfl⟩) | (go_at_call 43; ((with_reducible refine (C1.out _).mono ?_)); rintro e w' ⟨rfl, rfl⟩))
      go_ret
      exact ⟨rfl, by go_grown⟩
  · rw [h0] at C0
    have E := hide (show planErr mo wa ag tr = 2 by simp [planErr, h0])
    rw [E.out]
    clear h0
    go_enter Tryd.func24, Tryd.ntmps24
    go_wp2_with (first | (go_at_call 43; ((with_reducible refine (C0.out _).mono ?_)); rintro e w' ⟨rfl, rfl⟩))
    go_ret
    exact ⟨rfl, by go_grown⟩
set_option maxRecDepth 100000 in
set_option maxHeartbeats 4000000 in
theorem PlanError_any (mo wa ag tr : Int) (w : World) :
    Calls Tryd.prog 6 #[.agg #[.int .i64 mo, .int .i64 wa, .int .i64 ag, .int .i64 tr]] w fun e w' => e = .returned (.int .i64 (planErr mo wa ag tr)) ∧ Below w.heap.size w w' := by
  have C0 := hide (fun W => in_any mo 1 100 W)
  have C1 := hide (fun W => in_any wa 0 604800 W)
  have C2 := hide (fun W => in_any ag 1 604800 W)
  have C3 := hide (fun W => in_any tr 1 20 W)
  cases h0 : outsideB mo 1 100
  · rw [h0] at C0
    cases h1 : outsideB wa 0 604800
    · rw [h1] at C1
      cases h2 : outsideB ag 1 604800
      · rw [h2] at C2
        cases h3 : outsideB tr 1 20
        · rw [h3] at C3
          have E := hide (show planErr mo wa ag tr = 0 by simp [planErr, h0, h1, h2, h3])
          rw [E.out]
          clear h0 h1 h2 h3
          go_enter Tryd.func6, Tryd.ntmps6
          go_wp2_with (first | (go_at_call 25; ((with_reducible refine (C0.out _).mono ?_)); rintro e w' ⟨rfl, rfl⟩) | (go_at_call 25; ((with_reducible refine (C1.out _).mono ?_)); rintro e w' ⟨rfl, rfl⟩) | (go_at_call 25; ((with_reducible refine (C2.out _).mono ?_)); rintro e w' ⟨rfl, rfl⟩) | (go_at_call 25; ((with_reducible refine (C3.out _).mono ?_)); rintro e w' ⟨rfl, rfl⟩))
          go_ret
          exact ⟨rfl, by go_grown⟩
        · rw [h3] at C3
          have E := hide (show planErr mo wa ag tr = 2 by simp [planErr, h0, h1, h2, h3])
          rw [E.out]
          clear h0 h1 h2 h3
          go_enter Tryd.func6, Tryd.ntmps6
          go_wp2_with (first | (go_at_call 25; ((with_reducible refine (C0.out _).mono ?_)); rintro e w' ⟨rfl, rfl⟩) | (go_at_call 25; ((with_reducible refine (C1.out _).mono ?_)); rintro e w' ⟨rfl, rfl⟩) | (go_at_call 25; ((with_reducible refine (C2.out _).mono ?_)); rintro e w' ⟨rfl, rfl⟩) | (go_at_call 25; ((with_reducible refine (C3.out _).mono ?_)); rintro e w' ⟨rfl, rfl⟩))
          go_ret
          exact ⟨rfl, by go_grown⟩
      · rw [h2] at C2
        have E := hide (show planErr mo wa ag tr = 2 by simp [planErr, h0, h1, h2])
        rw [E.out]
        clear h0 h1 h2
        go_enter Tryd.func6, Tryd.ntmps6
        go_wp2_with (first | (go_at_call 25; ((with_reducible refine (C0.out _).mono ?_)); rintro e w' ⟨rfl, rfl⟩) | (go_at_call 25; ((with_reducible refine (C1.out _).mono ?_)); rintro e w' ⟨rfl, rfl⟩) | (go_at_call 25; ((with_reducible refine (C2.out _).mono ?_)); rintro e w' ⟨rfl, rfl⟩))
        go_ret
        exact ⟨rfl, by go_grown⟩
    · rw [h1] at C1
      have E := hide (show planErr mo wa ag tr = 2 by simp [planErr, h0, h1])
      rw [E.out]
      clear h0 h1
      go_enter Tryd.func6, Tryd.ntmps6
      go_wp2_with (first | (go_at_call 25; ((with_reducible refine (C0.out _).mono ?_)); rintro e w' ⟨rfl, rfl⟩) | (go_at_call 25; ((with_reducible refine (C1.out _).mono ?_)); rintro e w' ⟨rfl, rfl⟩))
      go_ret
      exact ⟨rfl, by go_grown⟩
  · rw [h0] at C0
    have E := hide (show planErr mo wa ag tr = 2 by simp [planErr, h0])
    rw [E.out]
    clear h0
    go_enter Tryd.func6, Tryd.ntmps6
    go_wp2_with (first | (go_at_call 25; ((with_reducible refine (C0.out _).mono ?_)); rintro e w' ⟨rfl, rfl⟩))
    go_ret
    exact ⟨rfl, by go_grown⟩
end Go.Proofs.YtnkccilgbhogbaaDoor
