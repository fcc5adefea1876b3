/- Walks of Tick where it refuses, both sides. -/
import Derived.Test.YtkkhjlomicokgaaGreatDoorAlTik
namespace Go.Proofs.YtkkhjlomicokgaaGreatDoor.al
open Go.RowKit
set_option linter.unusedVariables false
set_option linter.unusedSimpArgs false
def tkErr (t wat : Int) : Int := if momB t = false then 2 else if t < wat then 5 else 0
set_option maxRecDepth 100000 in
set_option maxHeartbeats 4000000 in
theorem nTick_bad (pw : Nat) (t wat : Int) (w : World) (c3 : w.cell? ⟨pw, 3, none⟩ = some (.int .i64 wat)) (E : Int) (hE : tkErr t wat = E) (h0 : E ≠ 0) :
    Calls Tryz.prog 13 #[.pointer (some ⟨pw, 0, none⟩), .int .i64 t] w fun e w' => e = .returned (.tuple #[.slice none 0 0, .int .i64 E]) ∧ Below w.heap.size w w' := by
  have hpw := World.block_lt_of_cell? w _ c3
  simp only at hpw
  have HB := hide (((Below.refl w.heap.size w).alloc (Nat.le_refl _) (.cells #[.pointer (some ⟨pw, 0, none⟩)] 30)).alloc (by simp) (.cells #[.int .i64 t] 3))
  cases hm : momB t
  · have hE2 : E = 2 := by rw [← hE, tkErr, if_pos hm]
    subst hE2
    have CM := hide (show ∀ W, Calls Tryz.prog 22 #[.int .i64 t] W fun e w' => e = .returned (.bool false) ∧ W = w' from fun W => hm ▸ isMoment_any t W)
    clear hE hm h0
    go_enter Tryz.func13, Tryz.ntmps13
    go_wp2_with (first | (go_at_call 22; refine (CM.out _).mono ?_; rintro e w' ⟨rfl, rfl⟩))
    go_ret2
    exact ⟨rfl, HB.out⟩
  · have CM := hide (show ∀ W, Calls Tryz.prog 22 #[.int .i64 t] W fun e w' => e = .returned (.bool true) ∧ W = w' from fun W => hm ▸ isMoment_any t W)
    by_cases hlt : t < wat
    · have hE2 : E = 5 := by rw [← hE, tkErr, if_neg (by rw [hm]; decide), if_pos hlt]
      subst hE2
      clear hE hm h0
      go_enter Tryz.func13, Tryz.ntmps13
      go_wp2_with (first | (go_at_call 22; refine (CM.out _).mono ?_; rintro e w' ⟨rfl, rfl⟩) | go_quiet (fail))
      go_ret2
      exact ⟨rfl, below_drewN HB.out _⟩
    · exact absurd (by rw [← hE, tkErr, if_neg (by rw [hm]; decide), if_neg hlt]) h0
end Go.Proofs.YtkkhjlomicokgaaGreatDoor.al