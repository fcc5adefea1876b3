/- GtBkt: RateBkt over Names (printed by gen_gt0.py). -/
import Derived.Test.YtkoijhecahebgaaDoorGtStd
import Derived.RegionTactic
import Derived.BigRegion
import Derived.BigQuiet
namespace Go.Proofs.YtkoijhecahebgaaDoor
open Go.RowKit
/-- A value of three integers. -/
def v3 (a b c : Int) : Value := .agg #[.int .i64 a, .int .i64 b, .int .i64 c]
theorem isMoment_any (n : Int) (w : World) :
    Calls Tryd.prog 22 #[.int .i64 n] w fun e w' => e = .returned (.bool (!outsideB n 0 3155759999)) ∧ w = w' := by
  go_enter Tryd.func22, Tryd.ntmps22
  go_wp2_with (go_at_call 50; refine (outside_any _ _ _ _).mono ?_; rintro e w' ⟨rfl, rfl⟩)
  go_ret
  exact ⟨rfl, rfl⟩
def bkErr (s a e : Int) : Int := if outsideB s 1 1000000000 || outsideB a 1 1000000000 || outsideB e 1 86400 then 2 else 0
set_option maxHeartbeats 400000 in
theorem CheckBucket_any (s a e : Int) (w : World) :
    Calls Tryd.prog 31 #[v3 s a e] w fun r w' => r = .returned (.int .i64 (bkErr s a e)) ∧ Below w.heap.size w w' := by
  unfold v3
  go_enter Tryd.func31, Tryd.ntmps31
  go_wp2_with (go_at_call 50; refine (outside_any _ _ _ _).mono ?_; rintro r w' ⟨rfl, rfl⟩)
  all_goals go_ret
  all_goals (exact ⟨by simp [bkErr, *], by go_grown⟩)
set_option maxHeartbeats 400000 in
theorem BucketError_any (s a e : Int) (w : World) :
    Calls Tryd.prog 28 #[v3 s a e] w fun r w' => r = .returned (.int .i64 (bkErr s a e)) ∧ Below w.heap.size w w' := by
  unfold v3
  go_enter Tryd.func28, Tryd.ntmps28
  go_wp2_with (go_at_call 34; refine (in_any _ _ _ _).mono ?_; rintro r w' ⟨rfl, rfl⟩)
  all_goals go_ret
  all_goals (exact ⟨by simp_all [bkErr], by go_grown⟩)
/-- The error of a bucket and a level. -/
def lvErr (s a e h t r : Int) : Int := if bkErr s a e = 0 then (if outsideB h 0 s || outsideB t 0 3155759999 || outsideB r 0 (e - 1) then 1 else 0) else bkErr s a e
theorem bkOk {s a e : Int} (h : bkErr s a e = 0) : 1 ≤ s ∧ s ≤ 1000000000 ∧ 1 ≤ a ∧ a ≤ 1000000000 ∧ 1 ≤ e ∧ e ≤ 86400 := by
  unfold bkErr outsideB at h; split at h
  · omega
  · rename_i h2; simp at h2; omega
theorem lvOk {s a e h t r : Int} (H : lvErr s a e h t r = 0) : bkErr s a e = 0 ∧ 0 ≤ h ∧ h ≤ s ∧ 0 ≤ t ∧ t ≤ 3155759999 ∧ 0 ≤ r ∧ r ≤ e - 1 := by
  unfold lvErr at H
  split at H
  · rename_i hb
    split at H
    · omega
    · rename_i h2
      simp [outsideB] at h2
      exact ⟨hb, by omega, by omega, by omega, by omega, by omega, by omega⟩
  · omega
/-- The numbers of a level that is poured. -/
def pH (s a e h t r at_ : Int) : Int := if h + (at_ - t + r) / e * a < s then h + (at_ - t + r) / e * a else s
def pR (e t r at_ : Int) : Int := (at_ - t + r) % e
def pourV (s a e h t r at_ : Int) : Value := v3 (pH s a e h t r at_) at_ (pR e t r at_)
theorem mul_bd (x a e : Int) (h0 : 0 ≤ x) (h1 : x ≤ 3155846399) (he : 1 ≤ e) (ha : 0 ≤ a) (ha1 : a ≤ 1000000000) : 0 ≤ x / e * a ∧ x / e * a ≤ 3155846399000000000 := by
  have q0 : 0 ≤ x / e := Int.ediv_nonneg h0 (by omega)
  have q1 : x / e ≤ x := Int.ediv_le_self _ h0
  refine ⟨Int.mul_nonneg q0 ha, ?_⟩
  calc x / e * a ≤ 3155846399 * a := Int.mul_le_mul_of_nonneg_right (by omega) ha
    _ ≤ 3155846399 * 1000000000 := Int.mul_le_mul_of_nonneg_left ha1 (by omega)
    _ = 3155846399000000000 := by decide
set_option maxHeartbeats 1000000 in
theorem pour_any (s a e h t r at_ : Int) (w : World) (H : lvErr s a e h t r = 0) (hx : t ≤ at_) (hx1 : at_ ≤ 3155759999) :
    Calls Tryd.prog 41 #[v3 s a e, v3 h t r, .int .i64 at_] w fun x w' => x = .returned (pourV s a e h t r at_) ∧ Below w.heap.size w w' := by
  obtain ⟨hb, l1, l2, l3, l4, l5, l6⟩ := lvOk H
  obtain ⟨b1, b2, b3, b4, b5, b6⟩ := bkOk hb
  obtain ⟨m1, m2⟩ := mul_bd (at_ - t + r) a e (by omega) (by omega) b5 (by omega) b4
  have E := hide (show pourV s a e h t r at_ = v3 (if h + (at_ - t + r) / e * a < s then h + (at_ - t + r) / e * a else s) at_ ((at_ - t + r) % e) from rfl)
  unfold v3 at E ⊢
  clear H hb
  by_cases hlt : h + (at_ - t + r) / e * a < s
  all_goals
    go_enter Tryd.func41, Tryd.ntmps41
    go_wp2
    go_region
    all_goals go_wp2
    all_goals go_returns
    all_goals (exact ⟨by rw [E.out]; simp; omega, by go_grown⟩)
set_option maxHeartbeats 1000000 in
theorem Poured_any (s a e h t r at_ : Int) (w : World) (H : lvErr s a e h t r = 0) (hx : t ≤ at_) (hx1 : at_ ≤ 3155759999) :
    Calls Tryd.prog 42 #[v3 s a e, v3 h t r, .int .i64 at_] w fun x w' => x = .returned (pourV s a e h t r at_) ∧ Below w.heap.size w w' := by
  obtain ⟨hb, l1, l2, l3, l4, l5, l6⟩ := lvOk H
  obtain ⟨b1, b2, b3, b4, b5, b6⟩ := bkOk hb
  obtain ⟨m1, m2⟩ := mul_bd (at_ - t + r) a e (by omega) (by omega) b5 (by omega) b4
  have E := hide (show pourV s a e h t r at_ = v3 (if h + (at_ - t + r) / e * a < s then h + (at_ - t + r) / e * a else s) at_ ((at_ - t + r) % e) from rfl)
  unfold v3 at E ⊢
  clear H hb
  by_cases hlt : h + (at_ - t + r) / e * a < s
  all_goals
    go_enter Tryd.func42, Tryd.ntmps42
    go_wp2
    go_region
    all_goals go_wp2
    all_goals go_returns
    all_goals (exact ⟨by rw [E.out]; simp; omega, by go_grown⟩)
end Go.Proofs.YtkoijhecahebgaaDoor
