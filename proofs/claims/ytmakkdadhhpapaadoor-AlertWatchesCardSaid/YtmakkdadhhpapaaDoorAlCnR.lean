/- Walk of the reference's Count where it refuses (printed by gen_ab.py). -/
import Derived.Test.YtmakkdadhhpapaaDoorAlCnt
namespace Go.Proofs.YtmakkdadhhpapaaDoor
open Go.RowKit
set_option linter.unusedVariables false
set_option linter.unusedSimpArgs false
set_option maxRecDepth 100000 in
set_option maxHeartbeats 4000000 in
theorem rCount_bad (rw_ : Nat) (key : ByteArray) (t n wat : Int) (w : World) (hk : key.size ≤ maxLen) (c1 : w.cell? ⟨rw_, 1, none⟩ = some (.int .i64 wat)) (E : Int) (hE : cntErr key t n wat = E) (h0 : E ≠ 0) :
    Calls Tryd.prog 9 #[.pointer (some ⟨rw_, 0, none⟩), .string key, .int .i64 t, .int .i64 n] w fun e w' => e = .returned (.int .i64 E) ∧ w' = w := by
  have CW := hide (fun W => WordError_any key W hk)
  subst hE
  by_cases hke : keyErr key = 0
  · rw [hke] at CW
    cases hm : momB t
    · have CM := hide (show ∀ W, Calls Tryd.prog 6 #[.int .i64 t] W fun e w' => e = .returned (.bool false) ∧ W = w' from fun W => hm ▸ Moment_any t W)
      have E := hide (show cntErr key t n wat = 2 by rw [cntErr, if_pos hke, if_pos (.inl hm)])
      rw [E.out]
      clear hm hke h0
      go_enter Tryd.func9, Tryd.ntmps9
      go_wp2_with (first | (go_at_call 29; refine (CW.out _).mono ?_; rintro e w' ⟨rfl, rfl⟩) | (go_at_call 6; refine (CM.out _).mono ?_; rintro e w' ⟨rfl, rfl⟩))
      go_ret
      exact ⟨rfl, rfl⟩
    have CM := hide (show ∀ W, Calls Tryd.prog 6 #[.int .i64 t] W fun e w' => e = .returned (.bool true) ∧ W = w' from fun W => hm ▸ Moment_any t W)
    cases ho : outsideB n 1 1000000
    · have CO := hide (show ∀ W, Calls Tryd.prog 30 #[.int .i64 n, .int .i64 1, .int .i64 1000000] W fun e w' => e = .returned (.bool true) ∧ W = w' from fun W => by have := in_any n 1 1000000 W; rw [ho] at this; exact this)
      by_cases hlt : t < wat
      · have E := hide (show cntErr key t n wat = 5 by rw [cntErr, if_pos hke, if_neg (by simp [hm, ho]), if_pos hlt])
        rw [E.out]
        clear hm hke ho h0
        go_enter Tryd.func9, Tryd.ntmps9
        go_wp2_with (first | (go_at_call 29; refine (CW.out _).mono ?_; rintro e w' ⟨rfl, rfl⟩) | (go_at_call 6; refine (CM.out _).mono ?_; rintro e w' ⟨rfl, rfl⟩) | (go_at_call 30; refine (CO.out _).mono ?_; rintro e w' ⟨rfl, rfl⟩))
        go_ret
        exact ⟨rfl, rfl⟩
      · exact absurd (show cntErr key t n wat = 0 by rw [cntErr, if_pos hke, if_neg (by simp [hm, ho]), if_neg hlt]) h0
    · have CO := hide (show ∀ W, Calls Tryd.prog 30 #[.int .i64 n, .int .i64 1, .int .i64 1000000] W fun e w' => e = .returned (.bool false) ∧ W = w' from fun W => by have := in_any n 1 1000000 W; rw [ho] at this; exact this)
      have E := hide (show cntErr key t n wat = 2 by rw [cntErr, if_pos hke, if_pos (.inr ho)])
      rw [E.out]
      clear hm hke ho h0
      go_enter Tryd.func9, Tryd.ntmps9
      go_wp2_with (first | (go_at_call 29; refine (CW.out _).mono ?_; rintro e w' ⟨rfl, rfl⟩) | (go_at_call 6; refine (CM.out _).mono ?_; rintro e w' ⟨rfl, rfl⟩) | (go_at_call 30; refine (CO.out _).mono ?_; rintro e w' ⟨rfl, rfl⟩))
      go_ret
      exact ⟨rfl, rfl⟩
  · have E := hide (show cntErr key t n wat = keyErr key by rw [cntErr, if_neg hke])
    rw [E.out]
    have hne : (keyErr key == 0) = false := by simpa using hke
    clear h0
    go_enter Tryd.func9, Tryd.ntmps9
    go_wp2_with (first | (go_at_call 29; refine (CW.out _).mono ?_; rintro e w' ⟨rfl, rfl⟩))
    go_ret
    exact ⟨rfl, rfl⟩
end Go.Proofs.YtmakkdadhhpapaaDoor
