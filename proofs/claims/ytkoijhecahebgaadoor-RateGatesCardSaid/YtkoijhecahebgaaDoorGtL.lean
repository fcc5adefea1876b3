/- A gate in plain Lean: levels, poured in one step and in two; what Ask does to them; tallies. No program. -/
import Derived.Test.YtkoijhecahebgaaDoorGtQt
namespace Go.Proofs.YtkoijhecahebgaaDoor
set_option linter.unusedVariables false
set_option linter.unusedSimpArgs false
structure Lv where
  h : Int
  t : Int
  r : Int
  deriving DecidableEq
def Lv.cs (x : Lv) : List Value := [.int .i64 x.h, .int .i64 x.t, .int .i64 x.r]
def pourL (q : Qt) (t : Int) (x : Lv) : Lv := ⟨pH q.s q.a q.e x.h x.t x.r t, t, pR q.e x.t x.r t⟩
/-- A level that is one of a quota's bucket. -/
structure LvOk (q : Qt) (x : Lv) : Prop where
  b : bkErr q.s q.a q.e = 0
  h0 : 0 ≤ x.h
  h1 : x.h ≤ q.s
  t0 : 0 ≤ x.t
  t1 : x.t ≤ 3155759999
  r0 : 0 ≤ x.r
  r1 : x.r ≤ q.e - 1
theorem LvOk.err {q : Qt} {x : Lv} (h : LvOk q x) : lvErr q.s q.a q.e x.h x.t x.r = 0 := by
  have h1 := h.h0; have h2 := h.h1; have h3 := h.t0; have h4 := h.t1; have h5 := h.r0; have h6 := h.r1
  unfold lvErr
  rw [if_pos h.b, if_neg]
  simp only [outsideB, Bool.or_eq_true, decide_eq_true_eq]
  omega
theorem LvOk.bk {q : Qt} {x : Lv} (h : LvOk q x) : 1 ≤ q.s ∧ q.s ≤ 1000000000 ∧ 1 ≤ q.a ∧ q.a ≤ 1000000000 ∧ 1 ≤ q.e ∧ q.e ≤ 86400 := bkOk h.b
theorem LvOk.pour {q : Qt} {x : Lv} {t : Int} (h : LvOk q x) (ht : x.t ≤ t) (h1 : t ≤ 3155759999) : LvOk q (pourL q t x) := by
  obtain ⟨b1, b2, b3, b4, b5, b6⟩ := h.bk
  have hm : 0 ≤ (t - x.t + x.r) / q.e * q.a := Int.mul_nonneg (Int.ediv_nonneg (by have := h.r0; omega) (by omega)) (by omega)
  have hr := Int.emod_nonneg (t - x.t + x.r) (show q.e ≠ 0 by omega)
  have hr2 := Int.emod_lt_of_pos (t - x.t + x.r) (show 0 < q.e by omega)
  have hh := h.h0
  refine ⟨h.b, ?_, ?_, by have := h.t0; show 0 ≤ t; omega, h1, hr, by show _ % _ ≤ _; omega⟩
  · show 0 ≤ pH _ _ _ _ _ _ _
    unfold pH; split <;> omega
  · show pH _ _ _ _ _ _ _ ≤ _
    unfold pH; split <;> omega
theorem pour_pour {q : Qt} {x : Lv} {t u : Int} (h : LvOk q x) (ht : x.t ≤ t) (hu : t ≤ u) : pourL q u (pourL q t x) = pourL q u x := by
  obtain ⟨b1, b2, b3, b4, b5, b6⟩ := h.bk
  have r0 := h.r0; have h0 := h.h0; have h1 := h.h1
  obtain ⟨m, hm⟩ : ∃ m, t - x.t + x.r = m := ⟨_, rfl⟩
  have e1 : u - t + m % q.e + q.e * (m / q.e) = u - x.t + x.r := by have := Int.mul_ediv_add_emod m q.e; omega
  have e2 : (u - x.t + x.r) / q.e = (u - t + m % q.e) / q.e + m / q.e := by rw [← e1, Int.add_mul_ediv_left _ _ (by omega)]
  have e3 : (u - x.t + x.r) % q.e = (u - t + m % q.e) % q.e := by rw [← e1, Int.add_mul_emod_self_left]
  have hm0 : 0 ≤ m / q.e := Int.ediv_nonneg (by omega) (by omega)
  have hn0 : 0 ≤ (u - t + m % q.e) / q.e := Int.ediv_nonneg (by have := Int.emod_nonneg m (show q.e ≠ 0 by omega); omega) (by omega)
  have hA : 0 ≤ m / q.e * q.a := Int.mul_nonneg hm0 (by omega)
  have hB : 0 ≤ (u - t + m % q.e) / q.e * q.a := Int.mul_nonneg hn0 (by omega)
  unfold pourL pH pR
  simp only [hm]
  rw [e2, e3, Int.add_mul]
  refine congrArg (fun z => Lv.mk z u _) ?_
  by_cases c1 : x.h + m / q.e * q.a < q.s
  · rw [if_pos c1]
    by_cases c2 : x.h + m / q.e * q.a + (u - t + m % q.e) / q.e * q.a < q.s
    · rw [if_pos c2, if_pos (by omega)]; omega
    · rw [if_neg c2, if_neg (by omega)]
  · rw [if_neg c1, if_neg (by omega), if_neg (by omega)]
/-- One is taken out of a level that was poured just now. -/
def Lv.less (x : Lv) : Lv := ⟨x.h - 1, x.t, x.r⟩
theorem pour_self {q : Qt} {x : Lv} (h : LvOk q x) (hs : x.h ≤ q.s) : pourL q x.t x = x := by
  obtain ⟨b1, b2, b3, b4, b5, b6⟩ := h.bk
  have r0 := h.r0; have r1 := h.r1
  have e1 : x.t - x.t + x.r = x.r := by omega
  have e2 : x.r / q.e = 0 := Int.ediv_eq_zero_of_lt r0 (by omega)
  have e3 : x.r % q.e = x.r := Int.emod_eq_of_lt r0 (by omega)
  unfold pourL pH pR
  rw [e1, e2, e3]
  have e4 : x.h + 0 * q.a = x.h := by rw [Int.zero_mul]; omega
  rw [e4]
  by_cases c : x.h < q.s
  · rw [if_pos c]
  · rw [if_neg c, show q.s = x.h by omega]
theorem LvOk.less {q : Qt} {x : Lv} (h : LvOk q x) (hp : x.h ≠ 0) : LvOk q x.less :=
  ⟨h.b, by have := h.h0; show 0 ≤ x.h - 1; omega, by have := h.h1; show x.h - 1 ≤ _; omega, h.t0, h.t1, h.r0, h.r1⟩
/-- A bucket that is full. -/
def fullL (t : Int) (q : Qt) : Lv := ⟨q.s, t, 0⟩
theorem LvOk.full {q : Qt} {t : Int} (hb : bkErr q.s q.a q.e = 0) (h0 : 0 ≤ t) (h1 : t ≤ 3155759999) : LvOk q (fullL t q) := by
  obtain ⟨b1, b2, b3, b4, b5, b6⟩ := bkOk hb
  exact ⟨hb, by show 0 ≤ q.s; omega, Int.le_refl _, h0, h1, Int.le_refl _, by show 0 ≤ q.e - 1; omega⟩

end Go.Proofs.YtkoijhecahebgaaDoor
