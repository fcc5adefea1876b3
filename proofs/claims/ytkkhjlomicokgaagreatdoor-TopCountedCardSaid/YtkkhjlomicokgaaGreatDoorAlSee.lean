/- Walks of see, value and the questions of rules (printed by gen_a4.py). -/
import Derived.Test.YtkkhjlomicokgaaGreatDoorTpH
namespace Go.Proofs.YtkkhjlomicokgaaGreatDoor.al
open Go.RowKit
set_option linter.unusedVariables false
set_option linter.unusedSimpArgs false
theorem sl_up {α : Type} {w w' : World} {f : α → List Value} {sz n : Nat} {A : Option Addr} {l : List α} (h : Sl w w.heap.size f sz A n l) (hb : Below w.heap.size w w') : Sl w' w'.heap.size f sz A n l := (h.below hb).more hb.size
/-- What a rule sees at a moment, and the sum of the window before. -/
def seeV (l : List Ct) (r : Rl) (t : Int) : Int × Int :=
  if r.ask = 3 then (if sumC r.key (t - 2 * r.window) (t - r.window) l = 0 then (0, 0) else ((100 * sumC r.key (t - r.window) t l).tdiv (sumC r.key (t - 2 * r.window) (t - r.window) l), sumC r.key (t - 2 * r.window) (t - r.window) l))
  else (sumC r.key (t - r.window) t l, 0)
def holdsB (r : Rl) (v b : Int) : Bool := if r.ask = 1 then decide (r.limit ≤ v) else if r.ask = 2 then decide (v ≤ r.limit) else if r.ask = 3 then (decide (b ≠ 0) && decide (r.limit ≤ v)) else decide (v = 0)
theorem seeV_other {l : List Ct} {r : Rl} {t : Int} (h : r.ask ≠ 3) : seeV l r t = (sumC r.key (t - r.window) t l, 0) := if_neg h
theorem seeV_none {l : List Ct} {r : Rl} {t : Int} (h : r.ask = 3) (h0 : sumC r.key (t - 2 * r.window) (t - r.window) l = 0) : seeV l r t = (0, 0) := by rw [seeV, if_pos h, if_pos h0]
theorem seeV_some {l : List Ct} {r : Rl} {t : Int} (h : r.ask = 3) (h0 : sumC r.key (t - 2 * r.window) (t - r.window) l ≠ 0) : seeV l r t = ((100 * sumC r.key (t - r.window) t l).tdiv (sumC r.key (t - 2 * r.window) (t - r.window) l), sumC r.key (t - 2 * r.window) (t - r.window) l) := by rw [seeV, if_pos h, if_neg h0]
set_option maxRecDepth 100000 in
set_option maxHeartbeats 4000000 in
theorem see_any (pw : Nat) (r : Rl) (t : Int) (A : Option Addr) (n cap : Nat) (l : List Ct) (w : World) (ht0 : 0 ≤ t) (ht1 : t ≤ 3155759999) (hw0 : 1 ≤ r.window) (hw1 : r.window ≤ 604800) (hc0 : w.cell? ⟨pw, 1, none⟩ = some (.slice A n cap)) (hl : Sl w w.heap.size Ct.cs 3 A n l) (hf : CtFit l) :
    Calls Tryz.prog 40 #[.pointer (some ⟨pw, 0, none⟩), .agg #[.string r.name, .string r.key, .int .i64 r.ask, .int .i64 r.limit, .int .i64 r.window, .int .i64 r.hold, .int .i64 r.rest], .int .i64 t] w fun e w' => e = .returned (.tuple #[.int .i64 (seeV l r t).1, .int .i64 (seeV l r t).2]) ∧ Below w.heap.size w w' := by
  have HB0 := hide (show Below w.heap.size w (w.alloc (.cells #[.string r.name, .string r.key, .int .i64 r.ask, .int .i64 r.limit, .int .i64 r.window, .int .i64 r.hold, .int .i64 r.rest] 34)) from (Below.refl _ _).alloc (Nat.le_refl _) _)
  have HBX := hide (heap_alloc_new w (.cells #[.string r.name, .string r.key, .int .i64 r.ask, .int .i64 r.limit, .int .i64 r.window, .int .i64 r.hold, .int .i64 r.rest] 34))
  have HSU := hide (fun a t W (h : Below w.heap.size w W) => nSum_any pw r.key a t A n cap l W ((h.cell (p := ⟨pw, 1, none⟩) (World.block_lt_of_cell? w _ hc0)).trans hc0) (sl_up hl h) hf)
  have hs1 := sumC_le r.key (t - r.window) t l hf.2
  have hs2 := sumC_le r.key (t - 2 * r.window) (t - r.window) l hf.2
  have hlen := hf.1
  obtain ⟨v, hv⟩ : ∃ v, sumC r.key (t - r.window) t l = v := ⟨_, rfl⟩
  obtain ⟨b, hb⟩ : ∃ b, sumC r.key (t - 2 * r.window) (t - r.window) l = b := ⟨_, rfl⟩
  have HS1 := hide (fun W h => hv ▸ HSU.out (t - r.window) t W h)
  have HS2 := hide (fun W h => hb ▸ HSU.out (t - 2 * r.window) (t - r.window) W h)
  rw [hv] at hs1
  rw [hb] at hs2
  have hv0 := hs1.1
  have hv1 : v ≤ 1000000000 := by omega
  have hb0 := hs2.1
  have hb1 : b ≤ 1000000000 := by omega
  have HL := hide hlen
  clear hs1 hs2 HSU hlen hc0 hl hf
  by_cases h3 : r.ask = 3
  · by_cases hb00 : b = 0
    · have E := hide (seeV_none h3 (hb.trans hb00))
      rw [E.out]
      rw [hb00] at HS2
      rw [h3] at HB0 HBX ⊢
      clear hv hb hb00 h3 hb0 hb1
      go_enter Tryz.func40, Tryz.ntmps40
      go_wp2_with (first | (go_at_call 65; ((with_reducible refine (HS1.out _ HB0.out).mono ?_)); rintro e w1 ⟨rfl, hw1⟩; have HB1 := hide (HB0.out.trans (hw1.mono HB0.out.size)); have HX1 := hide (block_below HBX.out hw1); have y0 : w1.cell? ⟨w.heap.size, 0, none⟩ = some (.string r.name) := (block_cell HX1.out 0).trans rfl; have y1 : w1.cell? ⟨w.heap.size, 1, none⟩ = some (.string r.key) := (block_cell HX1.out 1).trans rfl; have y2 : w1.cell? ⟨w.heap.size, 2, none⟩ = some (.int .i64 3) := (block_cell HX1.out 2).trans rfl; have y3 : w1.cell? ⟨w.heap.size, 3, none⟩ = some (.int .i64 r.limit) := (block_cell HX1.out 3).trans rfl; have y4 : w1.cell? ⟨w.heap.size, 4, none⟩ = some (.int .i64 r.window) := (block_cell HX1.out 4).trans rfl; have y5 : w1.cell? ⟨w.heap.size, 5, none⟩ = some (.int .i64 r.hold) := (block_cell HX1.out 5).trans rfl; have y6 : w1.cell? ⟨w.heap.size, 6, none⟩ = some (.int .i64 r.rest) := (block_cell HX1.out 6).trans rfl; clear hw1) | (go_at_call 65; ((with_reducible refine (HS2.out _ HB1.out).mono ?_)); rintro e w2 ⟨rfl, hw2⟩; have HB2 := hide (HB1.out.trans (hw2.mono HB1.out.size)); have HX2 := hide (block_below HX1.out hw2); have y0 : w2.cell? ⟨w.heap.size, 0, none⟩ = some (.string r.name) := (block_cell HX2.out 0).trans rfl; have y1 : w2.cell? ⟨w.heap.size, 1, none⟩ = some (.string r.key) := (block_cell HX2.out 1).trans rfl; have y2 : w2.cell? ⟨w.heap.size, 2, none⟩ = some (.int .i64 3) := (block_cell HX2.out 2).trans rfl; have y3 : w2.cell? ⟨w.heap.size, 3, none⟩ = some (.int .i64 r.limit) := (block_cell HX2.out 3).trans rfl; have y4 : w2.cell? ⟨w.heap.size, 4, none⟩ = some (.int .i64 r.window) := (block_cell HX2.out 4).trans rfl; have y5 : w2.cell? ⟨w.heap.size, 5, none⟩ = some (.int .i64 r.hold) := (block_cell HX2.out 5).trans rfl; have y6 : w2.cell? ⟨w.heap.size, 6, none⟩ = some (.int .i64 r.rest) := (block_cell HX2.out 6).trans rfl; clear hw2))
      go_ret2
      exact ⟨rfl, HB2.out⟩
    · have E := hide (seeV_some h3 (by rw [hb]; exact hb00))
      rw [hv, hb] at E
      rw [E.out]
      rw [h3] at HB0 HBX ⊢
      have hb01 : (b == 0) = false := by simpa using hb00
      have hq0 : 0 ≤ (100 * v).tdiv b := Int.tdiv_nonneg (by omega) hb0
      have hq1 : (100 * v).tdiv b ≤ 100 * v := Int.tdiv_le_self _ (by omega)
      have hwq : IntKind.i64.wrap ((100 * v).tdiv b) = (100 * v).tdiv b := IntWalk.i64_in _ (by omega)
      clear hv hb h3
      go_enter Tryz.func40, Tryz.ntmps40
      go_wp2_with (first | (go_at_call 65; ((with_reducible refine (HS1.out _ HB0.out).mono ?_)); rintro e w1 ⟨rfl, hw1⟩; have HB1 := hide (HB0.out.trans (hw1.mono HB0.out.size)); have HX1 := hide (block_below HBX.out hw1); have y0 : w1.cell? ⟨w.heap.size, 0, none⟩ = some (.string r.name) := (block_cell HX1.out 0).trans rfl; have y1 : w1.cell? ⟨w.heap.size, 1, none⟩ = some (.string r.key) := (block_cell HX1.out 1).trans rfl; have y2 : w1.cell? ⟨w.heap.size, 2, none⟩ = some (.int .i64 3) := (block_cell HX1.out 2).trans rfl; have y3 : w1.cell? ⟨w.heap.size, 3, none⟩ = some (.int .i64 r.limit) := (block_cell HX1.out 3).trans rfl; have y4 : w1.cell? ⟨w.heap.size, 4, none⟩ = some (.int .i64 r.window) := (block_cell HX1.out 4).trans rfl; have y5 : w1.cell? ⟨w.heap.size, 5, none⟩ = some (.int .i64 r.hold) := (block_cell HX1.out 5).trans rfl; have y6 : w1.cell? ⟨w.heap.size, 6, none⟩ = some (.int .i64 r.rest) := (block_cell HX1.out 6).trans rfl; clear hw1) | (go_at_call 65; ((with_reducible refine (HS2.out _ HB1.out).mono ?_)); rintro e w2 ⟨rfl, hw2⟩; have HB2 := hide (HB1.out.trans (hw2.mono HB1.out.size)); have HX2 := hide (block_below HX1.out hw2); have y0 : w2.cell? ⟨w.heap.size, 0, none⟩ = some (.string r.name) := (block_cell HX2.out 0).trans rfl; have y1 : w2.cell? ⟨w.heap.size, 1, none⟩ = some (.string r.key) := (block_cell HX2.out 1).trans rfl; have y2 : w2.cell? ⟨w.heap.size, 2, none⟩ = some (.int .i64 3) := (block_cell HX2.out 2).trans rfl; have y3 : w2.cell? ⟨w.heap.size, 3, none⟩ = some (.int .i64 r.limit) := (block_cell HX2.out 3).trans rfl; have y4 : w2.cell? ⟨w.heap.size, 4, none⟩ = some (.int .i64 r.window) := (block_cell HX2.out 4).trans rfl; have y5 : w2.cell? ⟨w.heap.size, 5, none⟩ = some (.int .i64 r.hold) := (block_cell HX2.out 5).trans rfl; have y6 : w2.cell? ⟨w.heap.size, 6, none⟩ = some (.int .i64 r.rest) := (block_cell HX2.out 6).trans rfl; clear hw2))
      go_ret2
      exact ⟨rfl, HB2.out⟩
  · have E := hide (seeV_other (l := l) (t := t) h3)
    rw [hv] at E
    rw [E.out]
    have h3b : (r.ask == 3) = false := by simpa using h3
    clear hv hb
    go_enter Tryz.func40, Tryz.ntmps40
    go_wp2_with (first | (go_at_call 65; ((with_reducible refine (HS1.out _ HB0.out).mono ?_)); rintro e w1 ⟨rfl, hw1⟩; have HB1 := hide (HB0.out.trans (hw1.mono HB0.out.size)); have HX1 := hide (block_below HBX.out hw1); have y0 : w1.cell? ⟨w.heap.size, 0, none⟩ = some (.string r.name) := (block_cell HX1.out 0).trans rfl; have y1 : w1.cell? ⟨w.heap.size, 1, none⟩ = some (.string r.key) := (block_cell HX1.out 1).trans rfl; have y2 : w1.cell? ⟨w.heap.size, 2, none⟩ = some (.int .i64 r.ask) := (block_cell HX1.out 2).trans rfl; have y3 : w1.cell? ⟨w.heap.size, 3, none⟩ = some (.int .i64 r.limit) := (block_cell HX1.out 3).trans rfl; have y4 : w1.cell? ⟨w.heap.size, 4, none⟩ = some (.int .i64 r.window) := (block_cell HX1.out 4).trans rfl; have y5 : w1.cell? ⟨w.heap.size, 5, none⟩ = some (.int .i64 r.hold) := (block_cell HX1.out 5).trans rfl; have y6 : w1.cell? ⟨w.heap.size, 6, none⟩ = some (.int .i64 r.rest) := (block_cell HX1.out 6).trans rfl; clear hw1))
    go_ret2
    exact ⟨rfl, HB1.out⟩
set_option maxHeartbeats 2000000 in
theorem above_any (r : Rl) (v b : Int) (w : World) : Calls Tryz.prog 23 #[.agg #[.string r.name, .string r.key, .int .i64 r.ask, .int .i64 r.limit, .int .i64 r.window, .int .i64 r.hold, .int .i64 r.rest], .int .i64 v, .int .i64 b] w fun e w' => e = .returned (.bool (decide (r.limit ≤ v))) ∧ Below w.heap.size w w' := by
  by_cases hb : b = 0
  · subst hb
    go_enter Tryz.func23, Tryz.ntmps23
    go_wp2_with (fail)
    all_goals go_ret
    all_goals exact ⟨by first | rfl | (simp [*]; done) | (congr 2; simp), by go_grown⟩
  · have hb1 : (b == 0) = false := by simpa using hb
    go_enter Tryz.func23, Tryz.ntmps23
    go_wp2_with (fail)
    all_goals go_ret
    all_goals exact ⟨by first | rfl | (simp [*]; done) | (congr 2; simp [hb]), by go_grown⟩
set_option maxHeartbeats 2000000 in
theorem below_any (r : Rl) (v b : Int) (w : World) : Calls Tryz.prog 24 #[.agg #[.string r.name, .string r.key, .int .i64 r.ask, .int .i64 r.limit, .int .i64 r.window, .int .i64 r.hold, .int .i64 r.rest], .int .i64 v, .int .i64 b] w fun e w' => e = .returned (.bool (decide (v ≤ r.limit))) ∧ Below w.heap.size w w' := by
  by_cases hb : b = 0
  · subst hb
    go_enter Tryz.func24, Tryz.ntmps24
    go_wp2_with (fail)
    all_goals go_ret
    all_goals exact ⟨by first | rfl | (simp [*]; done) | (congr 2; simp), by go_grown⟩
  · have hb1 : (b == 0) = false := by simpa using hb
    go_enter Tryz.func24, Tryz.ntmps24
    go_wp2_with (fail)
    all_goals go_ret
    all_goals exact ⟨by first | rfl | (simp [*]; done) | (congr 2; simp [hb]), by go_grown⟩
set_option maxHeartbeats 2000000 in
theorem grows_any (r : Rl) (v b : Int) (w : World) : Calls Tryz.prog 25 #[.agg #[.string r.name, .string r.key, .int .i64 r.ask, .int .i64 r.limit, .int .i64 r.window, .int .i64 r.hold, .int .i64 r.rest], .int .i64 v, .int .i64 b] w fun e w' => e = .returned (.bool ((decide (b ≠ 0) && decide (r.limit ≤ v)))) ∧ Below w.heap.size w w' := by
  by_cases hb : b = 0
  · subst hb
    go_enter Tryz.func25, Tryz.ntmps25
    go_wp2_with (fail)
    all_goals go_ret
    all_goals exact ⟨by first | rfl | (simp [*]; done) | (congr 2; simp), by go_grown⟩
  · have hb1 : (b == 0) = false := by simpa using hb
    go_enter Tryz.func25, Tryz.ntmps25
    go_wp2_with (fail)
    all_goals go_ret
    all_goals exact ⟨by first | rfl | (simp [*]; done) | (congr 2; simp [hb]), by go_grown⟩
set_option maxHeartbeats 2000000 in
theorem absent_any (r : Rl) (v b : Int) (w : World) : Calls Tryz.prog 26 #[.agg #[.string r.name, .string r.key, .int .i64 r.ask, .int .i64 r.limit, .int .i64 r.window, .int .i64 r.hold, .int .i64 r.rest], .int .i64 v, .int .i64 b] w fun e w' => e = .returned (.bool (decide (v = 0))) ∧ Below w.heap.size w w' := by
  by_cases hb : b = 0
  · subst hb
    go_enter Tryz.func26, Tryz.ntmps26
    go_wp2_with (fail)
    all_goals go_ret
    all_goals exact ⟨by first | rfl | (simp [*]; done) | (congr 2; simp), by go_grown⟩
  · have hb1 : (b == 0) = false := by simpa using hb
    go_enter Tryz.func26, Tryz.ntmps26
    go_wp2_with (fail)
    all_goals go_ret
    all_goals exact ⟨by first | rfl | (simp [*]; done) | (congr 2; simp [hb]), by go_grown⟩
/-- The reference's value, and whether the rule holds. -/
def valV (l : List Ct) (r : Rl) (t : Int) : Int × Bool := ((seeV l r t).1, holdsB r (seeV l r t).1 (seeV l r t).2)
end Go.Proofs.YtkkhjlomicokgaaGreatDoor.al