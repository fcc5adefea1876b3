/- Walks of the functions on buckets and levels, program and reference. -/
import Derived.Test.YtnbmohekikhknaaRateStands
import Derived.RegionTactic
import Derived.BigRegion
import Derived.BigQuiet
namespace Go.Proofs.Ytnbmohekikhknaa
open Go.RowKit
/-- What stands in the blocks below a call's own is as it was. -/
theorem bcell {W w1 : World} (hb : Below W.heap.size W w1) : (∀ b o, b < W.heap.size → w1.cell? ⟨b, o, none⟩ = W.cell? ⟨b, o, none⟩) ∧ (∀ b o, b < W.heap.size → w1.frozen? ⟨b, o, none⟩ = W.frozen? ⟨b, o, none⟩) :=
  ⟨fun b o h => hb.cell (p := ⟨b, o, none⟩) h, fun b o h => hb.frozen (p := ⟨b, o, none⟩) h⟩
theorem bthen {W w w1 : World} (hw : Below W.heap.size W w1) (h : Below w.heap.size w W) (hB : w.heap.size ≤ W.heap.size) : Below w.heap.size w w1 := h.trans (hw.mono hB)
theorem not_lt_bool (a b : Int) : (!decide (a < b)) = decide (b ≤ a) := by rw [Bool.eq_iff_iff]; simp
/-- A value of three integers. -/
def v3 (a b c : Int) : Value := .agg #[.int .i64 a, .int .i64 b, .int .i64 c]
theorem isMoment_any (n : Int) (w : World) :
    Calls Try.prog 36 #[.int .i64 n] w fun e w' => e = .returned (.bool (!outsideB n 0 3155759999)) ∧ w = w' := by
  go_enter Try.func36, Try.ntmps36
  go_wp2_with (go_at_call 33; refine (outside_any _ _ _ _).mono ?_; rintro e w' ⟨rfl, rfl⟩)
  go_ret
  exact ⟨rfl, rfl⟩
theorem in_any (n lo hi : Int) (w : World) :
    Calls Try.prog 40 #[.int .i64 n, .int .i64 lo, .int .i64 hi] w fun e w' => e = .returned (.bool (!outsideB n lo hi)) ∧ w = w' := by
  go_enter Try.func40, Try.ntmps40
  go_wp2
  all_goals go_ret
  all_goals (exact ⟨ret_bool (by simp [outsideB, not_lt_bool, *]), rfl⟩)
theorem Moment_any (n : Int) (w : World) :
    Calls Try.prog 19 #[.int .i64 n] w fun e w' => e = .returned (.bool (!outsideB n 0 3155759999)) ∧ w = w' := by
  go_enter Try.func19, Try.ntmps19
  go_wp2_with (go_at_call 40; refine (in_any _ _ _ _).mono ?_; rintro e w' ⟨rfl, rfl⟩)
  go_ret
  exact ⟨rfl, rfl⟩
def bkErr (s a e : Int) : Int := if outsideB s 1 1000000000 || outsideB a 1 1000000000 || outsideB e 1 86400 then 2 else 0
set_option maxHeartbeats 400000 in
theorem CheckBucket_any (s a e : Int) (w : World) :
    Calls Try.prog 18 #[v3 s a e] w fun r w' => r = .returned (.int .i64 (bkErr s a e)) ∧ Below w.heap.size w w' := by
  unfold v3
  go_enter Try.func18, Try.ntmps18
  go_wp2_with (go_at_call 33; refine (outside_any _ _ _ _).mono ?_; rintro r w' ⟨rfl, rfl⟩)
  all_goals go_ret
  all_goals (exact ⟨by simp [bkErr, *], by go_grown⟩)
set_option maxHeartbeats 400000 in
theorem BucketError_any (s a e : Int) (w : World) :
    Calls Try.prog 17 #[v3 s a e] w fun r w' => r = .returned (.int .i64 (bkErr s a e)) ∧ Below w.heap.size w w' := by
  unfold v3
  go_enter Try.func17, Try.ntmps17
  go_wp2_with (go_at_call 40; refine (in_any _ _ _ _).mono ?_; rintro r w' ⟨rfl, rfl⟩)
  all_goals go_ret
  all_goals (exact ⟨by simp_all [bkErr], by go_grown⟩)
/-- The error of a bucket and a level. -/
def lvErr (s a e h t r : Int) : Int := if bkErr s a e = 0 then (if outsideB h 0 s || outsideB t 0 3155759999 || outsideB r 0 (e - 1) then 1 else 0) else bkErr s a e
theorem bkOk {s a e : Int} (h : bkErr s a e = 0) : 1 ≤ s ∧ s ≤ 1000000000 ∧ 1 ≤ a ∧ a ≤ 1000000000 ∧ 1 ≤ e ∧ e ≤ 86400 := by
  unfold bkErr outsideB at h; split at h
  · omega
  · rename_i h2; simp at h2; omega
set_option maxHeartbeats 1000000 in
theorem check_any (s a e h t r : Int) (w : World) :
    Calls Try.prog 38 #[v3 s a e, v3 h t r] w fun x w' => x = .returned (.int .i64 (lvErr s a e h t r)) ∧ Below w.heap.size w w' := by
  by_cases hb : bkErr s a e = 0
  · obtain ⟨b1, b2, b3, b4, b5, b6⟩ := bkOk hb
    have E := hide (show lvErr s a e h t r = _ by rw [lvErr, if_pos hb])
    unfold v3
    have C := hide (CheckBucket_any s a e)
    unfold v3 at C
    go_enter Try.func38, Try.ntmps38
    go_wp2_with (first | (go_at_call 33; refine (outside_any _ _ _ _).mono ?_; rintro r w' ⟨rfl, rfl⟩) | (go_at_call 36; refine (isMoment_any _ _).mono ?_; rintro r w' ⟨rfl, rfl⟩) | (go_at_call 18; refine (C.out _).mono ?_; rintro r w1 ⟨rfl, hw1⟩; obtain ⟨hc, hf⟩ := bcell hw1; have hz := hw1.size; simp at hz; have hB := bthen (w := w) hw1 (by go_grown) (by go_size); clear hw1))
    all_goals go_ret
    all_goals (exact ⟨by rw [E.out]; simp_all, by go_grown⟩)
  · have E := hide (show lvErr s a e h t r = bkErr s a e by rw [lvErr, if_neg hb])
    unfold v3
    have C := hide (CheckBucket_any s a e)
    unfold v3 at C
    go_enter Try.func38, Try.ntmps38
    go_wp2_with (go_at_call 18; refine (C.out _).mono ?_; rintro r w1 ⟨rfl, hw1⟩; obtain ⟨hc, hf⟩ := bcell hw1; have hz := hw1.size; simp at hz; have hB := bthen (w := w) hw1 (by go_grown) (by go_size); clear hw1)
    all_goals go_ret
    all_goals (exact ⟨by rw [E.out]; rfl, by go_grown⟩)
theorem lvOk {s a e h t r : Int} (H : lvErr s a e h t r = 0) : bkErr s a e = 0 ∧ 0 ≤ h ∧ h ≤ s ∧ 0 ≤ t ∧ t ≤ 3155759999 ∧ 0 ≤ r ∧ r ≤ e - 1 := by
  unfold lvErr at H
  split at H
  · rename_i hb
    split at H
    · omega
    · rename_i h2
      simp [outsideB] at h2
      exact ⟨hb, by omega, by omega, by omega, by omega, by omega, by omega⟩
  · omega
set_option maxHeartbeats 1000000 in
theorem LevelError_any (s a e h t r : Int) (w : World) :
    Calls Try.prog 22 #[v3 s a e, v3 h t r] w fun x w' => x = .returned (.int .i64 (lvErr s a e h t r)) ∧ Below w.heap.size w w' := by
  have C := hide (BucketError_any s a e)
  unfold v3 at C ⊢
  by_cases hb : bkErr s a e = 0
  · obtain ⟨b1, b2, b3, b4, b5, b6⟩ := bkOk hb
    have E := hide (show lvErr s a e h t r = _ by rw [lvErr, if_pos hb])
    go_enter Try.func22, Try.ntmps22
    go_wp2_with (first | (go_at_call 40; refine (in_any _ _ _ _).mono ?_; rintro r w' ⟨rfl, rfl⟩) | (go_at_call 19; refine (Moment_any _ _).mono ?_; rintro r w' ⟨rfl, rfl⟩) | (go_at_call 17; refine (C.out _).mono ?_; rintro r w1 ⟨rfl, hw1⟩; obtain ⟨hc, hf⟩ := bcell hw1; have hz := hw1.size; simp at hz; have hB := bthen (w := w) hw1 (by go_grown) (by go_size); clear hw1))
    all_goals go_ret
    all_goals (exact ⟨by rw [E.out]; simp_all, by go_grown⟩)
  · have E := hide (show lvErr s a e h t r = bkErr s a e by rw [lvErr, if_neg hb])
    go_enter Try.func22, Try.ntmps22
    go_wp2_with (go_at_call 17; refine (C.out _).mono ?_; rintro r w1 ⟨rfl, hw1⟩; obtain ⟨hc, hf⟩ := bcell hw1; have hz := hw1.size; simp at hz; have hB := bthen (w := w) hw1 (by go_grown) (by go_size); clear hw1)
    all_goals go_ret
    all_goals (exact ⟨by rw [E.out]; rfl, by go_grown⟩)
/-- The numbers of a level that is poured. -/
def pH (s a e h t r at_ : Int) : Int := if h + (at_ - t + r) / e * a < s then h + (at_ - t + r) / e * a else s
def pR (e t r at_ : Int) : Int := (at_ - t + r) % e
def pourV (s a e h t r at_ : Int) : Value := v3 (pH s a e h t r at_) at_ (pR e t r at_)
theorem mul_bd (x a e : Int) (h0 : 0 ≤ x) (h1 : x ≤ 3155846399) (he : 1 ≤ e) (ha : 0 ≤ a) (ha1 : a ≤ 1000000000) : 0 ≤ x / e * a ∧ x / e * a ≤ 3155846399000000000 := by
  have q0 : 0 ≤ x / e := Int.ediv_nonneg h0 (by omega)
  have q1 : x / e ≤ x := Int.ediv_le_self _ h0
  refine ⟨Int.mul_nonneg q0 ha, ?_⟩
  calc x / e * a ≤ 3155846399 * a := Int.mul_le_mul_of_nonneg_right (by omega) ha
    _ ≤ 3155846399 * 1000000000 := Int.mul_le_mul_of_nonneg_left ha1 (by omega)
    _ = 3155846399000000000 := by decide
set_option maxHeartbeats 1000000 in
theorem pour_any (s a e h t r at_ : Int) (w : World) (H : lvErr s a e h t r = 0) (hx : t ≤ at_) (hx1 : at_ ≤ 3155759999) :
    Calls Try.prog 39 #[v3 s a e, v3 h t r, .int .i64 at_] w fun x w' => x = .returned (pourV s a e h t r at_) ∧ Below w.heap.size w w' := by
  obtain ⟨hb, l1, l2, l3, l4, l5, l6⟩ := lvOk H
  obtain ⟨b1, b2, b3, b4, b5, b6⟩ := bkOk hb
  obtain ⟨m1, m2⟩ := mul_bd (at_ - t + r) a e (by omega) (by omega) b5 (by omega) b4
  have E := hide (show pourV s a e h t r at_ = v3 (if h + (at_ - t + r) / e * a < s then h + (at_ - t + r) / e * a else s) at_ ((at_ - t + r) % e) from rfl)
  unfold v3 at E ⊢
  clear H hb
  by_cases hlt : h + (at_ - t + r) / e * a < s
  all_goals
    go_enter Try.func39, Try.ntmps39
    go_wp2
    go_region
    all_goals go_wp2
    all_goals go_returns
    all_goals (exact ⟨by rw [E.out]; simp; omega, by go_grown⟩)
set_option maxHeartbeats 1000000 in
theorem Poured_any (s a e h t r at_ : Int) (w : World) (H : lvErr s a e h t r = 0) (hx : t ≤ at_) (hx1 : at_ ≤ 3155759999) :
    Calls Try.prog 21 #[v3 s a e, v3 h t r, .int .i64 at_] w fun x w' => x = .returned (pourV s a e h t r at_) ∧ Below w.heap.size w w' := by
  obtain ⟨hb, l1, l2, l3, l4, l5, l6⟩ := lvOk H
  obtain ⟨b1, b2, b3, b4, b5, b6⟩ := bkOk hb
  obtain ⟨m1, m2⟩ := mul_bd (at_ - t + r) a e (by omega) (by omega) b5 (by omega) b4
  have E := hide (show pourV s a e h t r at_ = v3 (if h + (at_ - t + r) / e * a < s then h + (at_ - t + r) / e * a else s) at_ ((at_ - t + r) % e) from rfl)
  unfold v3 at E ⊢
  clear H hb
  by_cases hlt : h + (at_ - t + r) / e * a < s
  all_goals
    go_enter Try.func21, Try.ntmps21
    go_wp2
    go_region
    all_goals go_wp2
    all_goals go_returns
    all_goals (exact ⟨by rw [E.out]; simp; omega, by go_grown⟩)
end Go.Proofs.Ytnbmohekikhknaa
