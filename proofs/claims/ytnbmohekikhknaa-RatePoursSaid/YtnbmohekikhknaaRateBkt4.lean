/- Walks of Wait and Waited, and of PourError. -/
import Derived.Test.YtnbmohekikhknaaRateBkt3
namespace Go.Proofs.Ytnbmohekikhknaa
open Go.RowKit
/-- How many seconds until there are n. -/
def waitT (a e h r n : Int) : Int := if n ≤ h then 0 else (n - h + a - 1) / a * e - r
def waitE (s a e h t r n : Int) : Int := if lvErr s a e h t r = 0 then (if outsideB n 0 1000000000 then 2 else if s < n then 7 else if 3155759999 < t + waitT a e h r n then 12 else 0) else lvErr s a e h t r
def waitS (s a e h t r n : Int) : Int := if waitE s a e h t r n = 0 then waitT a e h r n else 0
theorem wait_bd {s a e h t r n : Int} (H : lvErr s a e h t r = 0) (hn : n ≤ s) (hk : h < n) :
    0 ≤ (n - h + a - 1) / a ∧ (n - h + a - 1) / a ≤ 1000000000 ∧ 0 ≤ (n - h + a - 1) / a * e ∧ (n - h + a - 1) / a * e ≤ 86400000000000 := by
  obtain ⟨hb, l1, l2, l3, l4, l5, l6⟩ := lvOk H
  obtain ⟨b1, b2, b3, b4, b5, b6⟩ := bkOk hb
  have q0 : 0 ≤ (n - h + a - 1) / a := Int.ediv_nonneg (by omega) (by omega)
  have q1 : (n - h + a - 1) / a ≤ 1000000000 := by
    have : (n - h + a - 1) / a = (n - h - 1) / a + 1 := by
      rw [show n - h + a - 1 = (n - h - 1) + 1 * a by omega, Int.add_mul_ediv_right _ _ (by omega)]
    rw [this]
    have := Int.ediv_le_self a (a := n - h - 1) (by omega)
    omega
  refine ⟨q0, q1, Int.mul_nonneg q0 (by omega), ?_⟩
  calc (n - h + a - 1) / a * e ≤ 1000000000 * e := Int.mul_le_mul_of_nonneg_right q1 (by omega)
    _ ≤ 1000000000 * 86400 := Int.mul_le_mul_of_nonneg_left b6 (by omega)
    _ = 86400000000000 := by decide
theorem waitT_bd {s a e h t r n : Int} (H : lvErr s a e h t r = 0) (hn : n ≤ s) : -86400 ≤ waitT a e h r n ∧ waitT a e h r n ≤ 86400000000000 := by
  obtain ⟨hb, l1, l2, l3, l4, l5, l6⟩ := lvOk H
  obtain ⟨b1, b2, b3, b4, b5, b6⟩ := bkOk hb
  unfold waitT
  split
  · omega
  · have := wait_bd (n := n) H hn (by omega)
    omega
set_option maxHeartbeats 2000000 in
theorem Waited_any (s a e h t r n : Int) (w : World) (H : lvErr s a e h t r = 0) (_n0 : 0 ≤ n) (hn : n ≤ s) :
    Calls Try.prog 23 #[v3 s a e, v3 h t r, .int .i64 n] w fun x w' => x = .returned (.int .i64 (waitT a e h r n)) ∧ Below w.heap.size w w' := by
  obtain ⟨hb, l1, l2, l3, l4, l5, l6⟩ := lvOk H
  obtain ⟨b1, b2, b3, b4, b5, b6⟩ := bkOk hb
  by_cases hk : n ≤ h
  · have E := hide (show waitT a e h r n = 0 by rw [waitT, if_pos hk])
    unfold v3
    clear H hb
    go_enter Try.func23, Try.ntmps23
    go_wp2
    all_goals go_ret
    all_goals (exact ⟨by rw [E.out]; rfl, by go_grown⟩)
  · obtain ⟨c1, c2, c3, c4⟩ := wait_bd (n := n) H hn (by omega)
    have E := hide (show waitT a e h r n = (n - h + a - 1) / a * e - r by rw [waitT, if_neg hk])
    unfold v3
    clear H hb
    go_enter Try.func23, Try.ntmps23
    go_wp2
    all_goals go_ret
    all_goals (exact ⟨by rw [E.out]; rfl, by go_grown⟩)
set_option maxHeartbeats 4000000 in
theorem Wait_any (s a e h t r n : Int) (w : World) :
    Calls Try.prog 16 #[v3 s a e, v3 h t r, .int .i64 n] w fun x w' => x = .returned (.tuple #[.int .i64 (waitS s a e h t r n), .int .i64 (waitE s a e h t r n)]) ∧ Below w.heap.size w w' := by
  have C := hide (check_any s a e h t r)
  by_cases hl : lvErr s a e h t r = 0
  · obtain ⟨hb, l1, l2, l3, l4, l5, l6⟩ := lvOk hl
    obtain ⟨b1, b2, b3, b4, b5, b6⟩ := bkOk hb
    rw [hl] at C
    cases hm : outsideB n 0 1000000000
    · have hn0 : 0 ≤ n ∧ n ≤ 1000000000 := by simpa [outsideB] using hm
      obtain ⟨n0, n1⟩ := hn0
      by_cases hs : s < n
      · have E0 : waitE s a e h t r n = 7 := by rw [waitE, if_pos hl, hm, if_neg (by simp), if_pos hs]
        have E1 := hide (show waitS s a e h t r n = 0 by rw [waitS, E0]; rfl)
        have E0 := hide E0
        unfold v3 at C ⊢
        clear hl hb
        go_enter Try.func16, Try.ntmps16
        go_wp2_with (first | (go_at_call 33; refine (outside_any _ _ _ _).mono ?_; rintro e w' ⟨rfl, rfl⟩) | (go_at_call 38; go_must (refine (C.out _).mono ?_; rintro r w1 ⟨rfl, hw1⟩; obtain ⟨hc, hf⟩ := bcell hw1; have hz := hw1.size; (try simp at hz); have hB := bthen (w := w) hw1 (by go_grown) (by go_size); clear hw1)))
        go_ret2
        exact ⟨by rw [E0.out, E1.out]; rfl, by go_grown⟩
      · by_cases hk : n ≤ h
        · have hT : waitT a e h r n = 0 := by rw [waitT, if_pos hk]
          have E0 : waitE s a e h t r n = 0 := by rw [waitE, if_pos hl, hm, if_neg (by simp), if_neg hs, hT, if_neg (by omega)]
          have E1 := hide (show waitS s a e h t r n = 0 by rw [waitS, E0, hT]; rfl)
          have E0 := hide E0
          unfold v3 at C ⊢
          clear hl hb hT
          go_enter Try.func16, Try.ntmps16
          go_wp2_with (first | (go_at_call 33; refine (outside_any _ _ _ _).mono ?_; rintro e w' ⟨rfl, rfl⟩) | (go_at_call 38; go_must (refine (C.out _).mono ?_; rintro r w1 ⟨rfl, hw1⟩; obtain ⟨hc, hf⟩ := bcell hw1; have hz := hw1.size; (try simp at hz); have hB := bthen (w := w) hw1 (by go_grown) (by go_size); clear hw1)))
          go_ret2
          exact ⟨by rw [E0.out, E1.out]; rfl, by go_grown⟩
        · obtain ⟨c1, c2, c3, c4⟩ := wait_bd (n := n) hl (by omega) (by omega)
          have hT : waitT a e h r n = (n - h + a - 1) / a * e - r := by rw [waitT, if_neg hk]
          by_cases hf : 3155759999 < t + ((n - h + a - 1) / a * e - r)
          · have E0 : waitE s a e h t r n = 12 := by rw [waitE, if_pos hl, hm, if_neg (by simp), if_neg hs, hT, if_pos hf]
            have E1 := hide (show waitS s a e h t r n = 0 by rw [waitS, E0]; rfl)
            have E0 := hide E0
            unfold v3 at C ⊢
            clear hl hb hT
            go_enter Try.func16, Try.ntmps16
            go_wp2_with (first | (go_at_call 33; refine (outside_any _ _ _ _).mono ?_; rintro e w' ⟨rfl, rfl⟩) | (go_at_call 38; go_must (refine (C.out _).mono ?_; rintro r w1 ⟨rfl, hw1⟩; obtain ⟨hc, hf⟩ := bcell hw1; have hz := hw1.size; (try simp at hz); have hB := bthen (w := w) hw1 (by go_grown) (by go_size); clear hw1)))
            go_ret2
            exact ⟨by rw [E0.out, E1.out]; rfl, by go_grown⟩
          · have E0 : waitE s a e h t r n = 0 := by rw [waitE, if_pos hl, hm, if_neg (by simp), if_neg hs, hT, if_neg hf]
            have E1 := hide (show waitS s a e h t r n = (n - h + a - 1) / a * e - r by rw [waitS, E0, hT]; rfl)
            have E0 := hide E0
            unfold v3 at C ⊢
            clear hl hb hT
            go_enter Try.func16, Try.ntmps16
            go_wp2_with (first | (go_at_call 33; refine (outside_any _ _ _ _).mono ?_; rintro e w' ⟨rfl, rfl⟩) | (go_at_call 38; go_must (refine (C.out _).mono ?_; rintro r w1 ⟨rfl, hw1⟩; obtain ⟨hc, hf⟩ := bcell hw1; have hz := hw1.size; (try simp at hz); have hB := bthen (w := w) hw1 (by go_grown) (by go_size); clear hw1)))
            go_ret2
            exact ⟨by rw [E0.out, E1.out]; rfl, by go_grown⟩
    · have E0 : waitE s a e h t r n = 2 := by rw [waitE, if_pos hl, hm]; rfl
      have E1 := hide (show waitS s a e h t r n = 0 by rw [waitS, E0]; rfl)
      have E0 := hide E0
      unfold v3 at C ⊢
      clear hl hb
      go_enter Try.func16, Try.ntmps16
      go_wp2_with (first | (go_at_call 33; refine (outside_any _ _ _ _).mono ?_; rintro e w' ⟨rfl, rfl⟩) | (go_at_call 38; go_must (refine (C.out _).mono ?_; rintro r w1 ⟨rfl, hw1⟩; obtain ⟨hc, hf⟩ := bcell hw1; have hz := hw1.size; (try simp at hz); have hB := bthen (w := w) hw1 (by go_grown) (by go_size); clear hw1)))
      go_ret2
      exact ⟨by rw [E0.out, E1.out]; rfl, by go_grown⟩
  · have E0 : waitE s a e h t r n = lvErr s a e h t r := by rw [waitE, if_neg hl]
    have E1 := hide (show waitS s a e h t r n = 0 by rw [waitS, E0, if_neg hl])
    have E0 := hide E0
    unfold v3 at C ⊢
    go_enter Try.func16, Try.ntmps16
    go_wp2_with (first | (go_at_call 33; refine (outside_any _ _ _ _).mono ?_; rintro e w' ⟨rfl, rfl⟩) | (go_at_call 38; go_must (refine (C.out _).mono ?_; rintro r w1 ⟨rfl, hw1⟩; obtain ⟨hc, hf⟩ := bcell hw1; have hz := hw1.size; (try simp at hz); have hB := bthen (w := w) hw1 (by go_grown) (by go_size); clear hw1)))
    go_ret2
    exact ⟨by rw [E0.out, E1.out]; rfl, by go_grown⟩
set_option maxHeartbeats 2000000 in
theorem PourError_any (s a e h t r at_ : Int) (w : World) :
    Calls Try.prog 20 #[v3 s a e, v3 h t r, .int .i64 at_] w fun x w' => x = .returned (.int .i64 (pourE s a e h t r at_)) ∧ Below w.heap.size w w' := by
  have C := hide (LevelError_any s a e h t r)
  by_cases hl : lvErr s a e h t r = 0
  · have E := hide (show pourE s a e h t r at_ = (if outsideB at_ 0 3155759999 then 2 else if at_ < t then 5 else 0) by rw [pourE, if_pos hl])
    rw [hl] at C
    unfold v3 at C ⊢
    clear hl
    go_enter Try.func20, Try.ntmps20
    go_wp2_with (first | (go_at_call 19; refine (Moment_any _ _).mono ?_; rintro e w' ⟨rfl, rfl⟩) | (go_at_call 22; go_must (refine (C.out _).mono ?_; rintro r w1 ⟨rfl, hw1⟩; obtain ⟨hc, hf⟩ := bcell hw1; have hz := hw1.size; (try simp at hz); have hB := bthen (w := w) hw1 (by go_grown) (by go_size); clear hw1)))
    all_goals go_ret
    all_goals (exact ⟨by rw [E.out]; simp_all, by go_grown⟩)
  · have E := hide (show pourE s a e h t r at_ = lvErr s a e h t r by rw [pourE, if_neg hl])
    unfold v3 at C ⊢
    go_enter Try.func20, Try.ntmps20
    go_wp2_with (first | (go_at_call 19; refine (Moment_any _ _).mono ?_; rintro e w' ⟨rfl, rfl⟩) | (go_at_call 22; go_must (refine (C.out _).mono ?_; rintro r w1 ⟨rfl, hw1⟩; obtain ⟨hc, hf⟩ := bcell hw1; have hz := hw1.size; (try simp at hz); have hB := bthen (w := w) hw1 (by go_grown) (by go_size); clear hw1)))
    all_goals go_ret
    all_goals (exact ⟨by rw [E.out]; rfl, by go_grown⟩)
end Go.Proofs.Ytnbmohekikhknaa
