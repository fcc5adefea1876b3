/- The law RatePours: pouring twice is pouring once; after the wait there is enough, a second earlier not. -/
import Derived.Test.YtnbmohekikhknaaRatePoursW
import Derived.Test.YtnbmohekikhknaaRateOpen
namespace Go.Proofs.Ytnbmohekikhknaa
open Go.RowKit
theorem pH_le {s a e h t r at_ : Int} : pH s a e h t r at_ ≤ s := by unfold pH; split <;> omega
theorem pour_comp {s a e h t r at_ later : Int} (h0 : pourE s a e h t r at_ = 0) (h1 : pourE s a e (pH s a e h t r at_) at_ (pR e t r at_) later = 0) :
    pourE s a e h t r later = 0 ∧ pH s a e h t r later = pH s a e (pH s a e h t r at_) at_ (pR e t r at_) later ∧ pR e t r later = pR e at_ (pR e t r at_) later := by
  obtain ⟨hl, m0, m1, hx⟩ := pourOk h0
  obtain ⟨_, n0, n1, hy⟩ := pourOk h1
  obtain ⟨hb, l1, l2, l3, l4, l5, l6⟩ := lvOk hl
  obtain ⟨b1, b2, b3, b4, b5, b6⟩ := bkOk hb
  have E : pourE s a e h t r later = 0 := by
    rw [pourE, if_pos hl, if_neg (by simp [outsideB]; omega), if_neg (by omega)]
  have hd := Int.mul_ediv_add_emod (at_ - t + r) e
  have hS : later - t + r = (later - at_ + (at_ - t + r) % e) + (at_ - t + r) / e * e := by
    rw [Int.mul_comm]; omega
  have hq : (later - t + r) / e = (later - at_ + (at_ - t + r) % e) / e + (at_ - t + r) / e := by
    rw [hS, Int.add_mul_ediv_right _ _ (by omega)]
  have hr : (later - t + r) % e = (later - at_ + (at_ - t + r) % e) % e := by
    rw [hS, Int.add_mul_emod_self_right]
  refine ⟨E, ?_, ?_⟩
  · have q0 : 0 ≤ (at_ - t + r) / e * a := Int.mul_nonneg (Int.ediv_nonneg (by omega) (by omega)) (by omega)
    have q1 : 0 ≤ (later - at_ + (at_ - t + r) % e) / e * a := Int.mul_nonneg (Int.ediv_nonneg (by have := Int.emod_nonneg (at_ - t + r) (show e ≠ 0 by omega); omega) (by omega)) (by omega)
    unfold pH pR
    rw [hq, Int.add_mul]
    generalize (at_ - t + r) / e * a = A at *
    generalize (later - at_ + (at_ - t + r) % e) / e * a = B at *
    split <;> split <;> (try split) <;> omega
  · unfold pR; rw [hr]
theorem wait_enough {s a e h t r n : Int} (H : waitE s a e h t r n = 0) : lvErr s a e h t r = 0 ∧ 0 ≤ n ∧ n ≤ 1000000000 ∧ n ≤ s ∧ 0 ≤ waitT a e h r n ∧ t + waitT a e h r n ≤ 3155759999 ∧
    n ≤ pH s a e h t r (t + waitT a e h r n) ∧ (0 < waitT a e h r n → pH s a e h t r (t + waitT a e h r n - 1) < n) := by
  unfold waitE at H
  split at H
  case isFalse h => omega
  rename_i hl
  split at H
  · omega
  rename_i hn
  simp [outsideB] at hn
  split at H
  · omega
  rename_i hs
  split at H
  · omega
  rename_i hf
  obtain ⟨hb, l1, l2, l3, l4, l5, l6⟩ := lvOk hl
  obtain ⟨b1, b2, b3, b4, b5, b6⟩ := bkOk hb
  refine ⟨hl, by omega, by omega, by omega, ?_⟩
  by_cases hk : n ≤ h
  · have hT : waitT a e h r n = 0 := by rw [waitT, if_pos hk]
    rw [hT]
    have : (t + 0 - t + r) / e = 0 := Int.ediv_eq_zero_of_lt (by omega) (by omega)
    refine ⟨by omega, by omega, ?_, by omega⟩
    unfold pH
    rw [this]
    simp
    split <;> omega
  · have hT : waitT a e h r n = (n - h + a - 1) / a * e - r := by rw [waitT, if_neg hk]
    have hd := Int.mul_ediv_add_emod (n - h + a - 1) a
    have hm0 := Int.emod_nonneg (n - h + a - 1) (show a ≠ 0 by omega)
    have hm1 := Int.emod_lt_of_pos (n - h + a - 1) (show 0 < a by omega)
    have hq : 1 ≤ (n - h + a - 1) / a := by
      apply Int.le_ediv_of_mul_le (by omega); omega
    have hqe : e ≤ (n - h + a - 1) / a * e := by
      have := Int.mul_le_mul_of_nonneg_right hq (show 0 ≤ e by omega); omega
    generalize (n - h + a - 1) / a = q at *
    rw [Int.mul_comm] at hd
    refine ⟨by omega, by omega, ?_, fun _ => ?_⟩
    · have e1 : (t + waitT a e h r n - t + r) / e = q := by
        rw [hT, show t + (q * e - r) - t + r = q * e by omega, Int.mul_ediv_cancel _ (by omega)]
      unfold pH
      rw [e1]
      split <;> omega
    · have e1 : (t + waitT a e h r n - 1 - t + r) / e = q - 1 := by
        rw [hT, show t + (q * e - r) - 1 - t + r = (e - 1) + (q - 1) * e by rw [Int.sub_mul]; omega, Int.add_mul_ediv_right _ _ (by omega), Int.ediv_eq_zero_of_lt (by omega) (by omega)]
        omega
      have e2 : (q - 1) * a = q * a - a := by rw [Int.sub_mul]; omega
      unfold pH
      rw [e1, e2]
      split <;> omega
theorem take_at {s a e h t r at_ n : Int} (hl : lvErr s a e h t r = 0) (h0 : t ≤ at_) (h1 : at_ ≤ 3155759999) (n0 : 0 ≤ n) (n1 : n ≤ 1000000000) :
    takeE s a e h t r at_ n = 0 ∧ takeIs s a e h t r at_ n = decide (n ≤ pH s a e h t r at_) := by
  obtain ⟨hb, l1, l2, l3, l4, l5, l6⟩ := lvOk hl
  have hp : pourE s a e h t r at_ = 0 := by rw [pourE, if_pos hl, if_neg (by simp [outsideB]; omega), if_neg (by omega)]
  have ht : takeE s a e h t r at_ n = 0 := by rw [takeE, if_pos hp, if_neg (by simp [outsideB]; omega)]
  exact ⟨ht, by rw [takeIs, ht]; rfl⟩
theorem rp_all (s a e h t r at_ later n : Int) (w : World) :
    Calls Try.prog 7 #[v3 s a e, v3 h t r, .int .i64 at_, .int .i64 later, .int .i64 n] w fun x w' => x = .returned (.bool true) ∧ Below w.heap.size w w' := by
  by_cases h0 : pourE s a e h t r at_ = 0
  · obtain ⟨e1, e2, e3⟩ := pour_vals h0
    have H0 := Pour_any s a e h t r at_
    rw [h0, e1, e2, e3] at H0
    have H1 := Pour_any s a e (pH s a e h t r at_) at_ (pR e t r at_) later
    have H2 := Pour_any s a e h t r later
    have HW := Wait_any s a e h t r n
    by_cases h3 : waitE s a e h t r n = 0
    · obtain ⟨hl, n0, n1, ns, S0, S1, hk, hk2⟩ := wait_enough h3
      obtain ⟨_, _, _, l3, l4, _, _⟩ := lvOk hl
      rw [show waitS s a e h t r n = waitT a e h r n by rw [waitS, if_pos h3], h3] at HW
      have HT := Take_any s a e h t r (t + waitT a e h r n) n
      obtain ⟨t1, t2⟩ := take_at (n := n) hl (show t ≤ t + waitT a e h r n by omega) S1 n0 n1
      rw [t1, t2, decide_eq_true hk] at HT
      by_cases hS : 0 < waitT a e h r n
      · have HU := Take_any s a e h t r (t + waitT a e h r n - 1) n
        obtain ⟨u1, u2⟩ := take_at (n := n) hl (show t ≤ t + waitT a e h r n - 1 by omega) (by omega) n0 n1
        rw [u1, u2, decide_eq_false (by have := hk2 hS; omega)] at HU
        by_cases h1 : pourE s a e (pH s a e h t r at_) at_ (pR e t r at_) later = 0
        · obtain ⟨c1, c2, c3⟩ := pour_comp h0 h1
          obtain ⟨f1, f2, f3⟩ := pour_vals h1
          obtain ⟨g1, g2, g3⟩ := pour_vals c1
          rw [h1, f1, f2, f3] at H1
          rw [c1, g1, g2, g3, c2, c3] at H2
          exact rp_b3 _ _ _ _ _ _ _ _ _ _ _ _ _ _ _ _ _ _ _ _ _ _ w l3 l4 S0 S1 hS H0 H1 H2 HW HT HU
        · exact rp_a3 _ _ _ _ _ _ _ _ _ _ _ _ _ _ _ _ _ _ _ _ _ _ _ _ _ _ _ w (by simpa using h1) h1 l3 l4 S0 S1 hS H0 H1 H2 HW HT HU
      · by_cases h1 : pourE s a e (pH s a e h t r at_) at_ (pR e t r at_) later = 0
        · obtain ⟨c1, c2, c3⟩ := pour_comp h0 h1
          obtain ⟨f1, f2, f3⟩ := pour_vals h1
          obtain ⟨g1, g2, g3⟩ := pour_vals c1
          rw [h1, f1, f2, f3] at H1
          rw [c1, g1, g2, g3, c2, c3] at H2
          exact rp_b2 _ _ _ _ _ _ _ _ _ _ _ _ _ _ _ _ _ _ _ w l3 l4 S0 S1 hS H0 H1 H2 HW HT
        · exact rp_a2 _ _ _ _ _ _ _ _ _ _ _ _ _ _ _ _ _ _ _ _ _ _ _ _ w (by simpa using h1) h1 l3 l4 S0 S1 hS H0 H1 H2 HW HT
    · rw [show waitS s a e h t r n = 0 by rw [waitS, if_neg h3]] at HW
      by_cases h1 : pourE s a e (pH s a e h t r at_) at_ (pR e t r at_) later = 0
      · obtain ⟨c1, c2, c3⟩ := pour_comp h0 h1
        obtain ⟨f1, f2, f3⟩ := pour_vals h1
        obtain ⟨g1, g2, g3⟩ := pour_vals c1
        rw [h1, f1, f2, f3] at H1
        rw [c1, g1, g2, g3, c2, c3] at H2
        exact rp_b1 _ _ _ _ _ _ _ _ _ _ _ _ _ _ _ _ w (by simpa using h3) h3 H0 H1 H2 HW
      · exact rp_a1 _ _ _ _ _ _ _ _ _ _ _ _ _ _ _ _ _ _ _ _ _ w (by simpa using h1) h1 (by simpa using h3) h3 H0 H1 H2 HW
  · obtain ⟨e1, e2, e3⟩ := pour_zeros h0
    have H0 := Pour_any s a e h t r at_
    rw [e1, e2, e3] at H0
    exact rp_C1 _ _ _ _ _ _ _ _ _ _ w (by simpa using h0) h0 H0
namespace ratePours
set_option maxRecDepth 100000 in
theorem walk {H : Type} {enc : TypeId × Value → H} {d0 d1 : DataW H} {p0 p1 : List MemPlace} {base : Nat} {W : World}
    (v0 : Value) (k0 : DataW.Trod enc Try.prog W 0 (fun _ => true) true 29 v0 d0 p0) (ok0 : Value.okWide Try.prog W .any base 29 v0)
    (v1 : Value) (k1 : DataW.Trod enc Try.prog W 0 (fun _ => true) true 31 v1 d1 p1) (ok1 : Value.okWide Try.prog W .any base 31 v1)
    (a2 : Int) (_w2 : (Lit.int .i64 a2).wf = true) (a3 : Int) (_w3 : (Lit.int .i64 a3).wf = true) (a4 : Int) (_w4 : (Lit.int .i64 a4).wf = true) :
    Calls Try.prog 7 #[v0, v1, .int .i64 a2, .int .i64 a3, .int .i64 a4] W fun e w' => e = .returned (.bool true) ∧ Below W.heap.size W w' := by
  obtain ⟨s, a, e, rfl⟩ := open_bucket ok0 k0
  obtain ⟨h, t, r, rfl⟩ := open_level ok1 k1
  exact rp_all s a e h t r a2 a3 a4 W
end ratePours
end Go.Proofs.Ytnbmohekikhknaa
