/- Walks of Take, Wait and of their references. -/
import Derived.Test.YtnbmohekikhknaaRateBkt2
namespace Go.Proofs.Ytnbmohekikhknaa
open Go.RowKit
/-- Take: the error, whether there was enough, and the level. -/
def takeE (s a e h t r at_ n : Int) : Int := if pourE s a e h t r at_ = 0 then (if outsideB n 0 1000000000 then 2 else 0) else pourE s a e h t r at_
def takeIs (s a e h t r at_ n : Int) : Bool := takeE s a e h t r at_ n == 0 && decide (n ≤ pH s a e h t r at_)
def take1 (s a e h t r at_ n : Int) : Int := if takeE s a e h t r at_ n = 0 then (if n ≤ pH s a e h t r at_ then pH s a e h t r at_ - n else pH s a e h t r at_) else 0
def take2 (s a e h t r at_ n : Int) : Int := if takeE s a e h t r at_ n = 0 then at_ else 0
def take3 (s a e h t r at_ n : Int) : Int := if takeE s a e h t r at_ n = 0 then pR e t r at_ else 0
theorem pH_bd {s a e h t r at_ : Int} (H : lvErr s a e h t r = 0) (hx : t ≤ at_) : 0 ≤ pH s a e h t r at_ ∧ pH s a e h t r at_ ≤ 1000000000 := by
  obtain ⟨hb, l1, l2, l3, l4, l5, l6⟩ := lvOk H
  obtain ⟨b1, b2, b3, b4, b5, b6⟩ := bkOk hb
  have q0 : 0 ≤ (at_ - t + r) / e := Int.ediv_nonneg (by omega) (by omega)
  have q1 : 0 ≤ (at_ - t + r) / e * a := Int.mul_nonneg q0 (by omega)
  unfold pH; split <;> omega
set_option maxHeartbeats 2000000 in
theorem Take_any (s a e h t r at_ n : Int) (w : World) :
    Calls Try.prog 15 #[v3 s a e, v3 h t r, .int .i64 at_, .int .i64 n] w fun x w' =>
      x = .returned (.tuple #[v3 (take1 s a e h t r at_ n) (take2 s a e h t r at_ n) (take3 s a e h t r at_ n), .bool (takeIs s a e h t r at_ n), .int .i64 (takeE s a e h t r at_ n)]) ∧ Below w.heap.size w w' := by
  have C := hide (Pour_any s a e h t r at_)
  by_cases hp : pourE s a e h t r at_ = 0
  · obtain ⟨hl, m0, m1, hx⟩ := pourOk hp
    have ⟨p0, p1⟩ := pH_bd hl hx
    obtain ⟨e1, e2, e3⟩ := pour_vals hp
    rw [e1, e2, e3, hp] at C
    cases hn : outsideB n 0 1000000000
    · have E0 : takeE s a e h t r at_ n = 0 := by rw [takeE, if_pos hp, hn]; rfl
      have hn0 : 0 ≤ n ∧ n ≤ 1000000000 := by simpa [outsideB] using hn
      obtain ⟨n0, n1⟩ := hn0
      have E2 := hide (show take2 s a e h t r at_ n = at_ by rw [take2, if_pos E0])
      have E3 := hide (show take3 s a e h t r at_ n = pR e t r at_ by rw [take3, if_pos E0])
      by_cases hk : n ≤ pH s a e h t r at_
      · have E1 := hide (show take1 s a e h t r at_ n = pH s a e h t r at_ - n by rw [take1, if_pos E0, if_pos hk])
        have E4 := hide (show takeIs s a e h t r at_ n = true by simp [takeIs, E0, hk])
        have E0 := hide E0
        clear hp e1 e2 e3 hl
        obtain ⟨P, hP⟩ : ∃ P, pH s a e h t r at_ = P := ⟨_, rfl⟩
        rw [hP] at p0 p1 hk C E1
        have hP := hide hP
        unfold v3 at C ⊢
        go_enter Try.func15, Try.ntmps15
        go_wp2_with (first | (go_at_call 33; refine (outside_any _ _ _ _).mono ?_; rintro e w' ⟨rfl, rfl⟩) | (go_at_call 14; go_must (refine (C.out _).mono ?_; rintro r w1 ⟨rfl, hw1⟩; obtain ⟨hc, hf⟩ := bcell hw1; have hz := hw1.size; (try simp at hz); have hB := bthen (w := w) hw1 (by go_grown) (by go_size); have r0 : w1.cell? ⟨w.heap.size + 1 + 1, 0, none⟩ = some (.int .i64 0) := (hc _ _ (by first | omega | (simp; done) | (simp; omega))).trans (by first | (simp [go_sem]; done) | (go_simp; done)); have r1 : w1.cell? ⟨w.heap.size + 1 + 1, 1, none⟩ = some (.int .i64 0) := (hc _ _ (by first | omega | (simp; done) | (simp; omega))).trans (by first | (simp [go_sem]; done) | (go_simp; done)); have r2 : w1.cell? ⟨w.heap.size + 1 + 1, 2, none⟩ = some (.int .i64 0) := (hc _ _ (by first | omega | (simp; done) | (simp; omega))).trans (by first | (simp [go_sem]; done) | (go_simp; done)); have rq0 : w1.frozen? ⟨w.heap.size + 1 + 1, 0, none⟩ = false := (hf _ _ (by first | omega | (simp; done) | (simp; omega))).trans (by first | (simp [go_sem]; done) | (go_simp; done)); have rq1 : w1.frozen? ⟨w.heap.size + 1 + 1, 1, none⟩ = false := (hf _ _ (by first | omega | (simp; done) | (simp; omega))).trans (by first | (simp [go_sem]; done) | (go_simp; done)); have rq2 : w1.frozen? ⟨w.heap.size + 1 + 1, 2, none⟩ = false := (hf _ _ (by first | omega | (simp; done) | (simp; omega))).trans (by first | (simp [go_sem]; done) | (go_simp; done)); have x0 : w1.cell? ⟨w.heap.size + 1, 0, none⟩ = some (.int .i64 h) := (hc _ _ (by first | omega | (simp; done) | (simp; omega))).trans (by first | (simp [go_sem]; done) | (go_simp; done)); have x1 : w1.cell? ⟨w.heap.size + 1, 1, none⟩ = some (.int .i64 t) := (hc _ _ (by first | omega | (simp; done) | (simp; omega))).trans (by first | (simp [go_sem]; done) | (go_simp; done)); have x2 : w1.cell? ⟨w.heap.size + 1, 2, none⟩ = some (.int .i64 r) := (hc _ _ (by first | omega | (simp; done) | (simp; omega))).trans (by first | (simp [go_sem]; done) | (go_simp; done)); have xq0 : w1.frozen? ⟨w.heap.size + 1, 0, none⟩ = false := (hf _ _ (by first | omega | (simp; done) | (simp; omega))).trans (by first | (simp [go_sem]; done) | (go_simp; done)); have xq1 : w1.frozen? ⟨w.heap.size + 1, 1, none⟩ = false := (hf _ _ (by first | omega | (simp; done) | (simp; omega))).trans (by first | (simp [go_sem]; done) | (go_simp; done)); have xq2 : w1.frozen? ⟨w.heap.size + 1, 2, none⟩ = false := (hf _ _ (by first | omega | (simp; done) | (simp; omega))).trans (by first | (simp [go_sem]; done) | (go_simp; done)); clear hw1)))
        ((try simp only [Exit.inBlock, Exit.then]); refine bodyPost_ret (by simp [results, Try.results15, go_sem, r0, r1, r2]; try rfl) rfl ?_)
        exact ⟨by rw [E0.out, E1.out, E2.out, E3.out, E4.out], by go_grown⟩
      · have E1 := hide (show take1 s a e h t r at_ n = pH s a e h t r at_ by rw [take1, if_pos E0, if_neg hk])
        have E4 := hide (show takeIs s a e h t r at_ n = false by simp [takeIs, hk])
        have E0 := hide E0
        clear hp e1 e2 e3 hl
        obtain ⟨P, hP⟩ : ∃ P, pH s a e h t r at_ = P := ⟨_, rfl⟩
        rw [hP] at p0 p1 hk C E1
        have hP := hide hP
        unfold v3 at C ⊢
        go_enter Try.func15, Try.ntmps15
        go_wp2_with (first | (go_at_call 33; refine (outside_any _ _ _ _).mono ?_; rintro e w' ⟨rfl, rfl⟩) | (go_at_call 14; go_must (refine (C.out _).mono ?_; rintro r w1 ⟨rfl, hw1⟩; obtain ⟨hc, hf⟩ := bcell hw1; have hz := hw1.size; (try simp at hz); have hB := bthen (w := w) hw1 (by go_grown) (by go_size); have r0 : w1.cell? ⟨w.heap.size + 1 + 1, 0, none⟩ = some (.int .i64 0) := (hc _ _ (by first | omega | (simp; done) | (simp; omega))).trans (by first | (simp [go_sem]; done) | (go_simp; done)); have r1 : w1.cell? ⟨w.heap.size + 1 + 1, 1, none⟩ = some (.int .i64 0) := (hc _ _ (by first | omega | (simp; done) | (simp; omega))).trans (by first | (simp [go_sem]; done) | (go_simp; done)); have r2 : w1.cell? ⟨w.heap.size + 1 + 1, 2, none⟩ = some (.int .i64 0) := (hc _ _ (by first | omega | (simp; done) | (simp; omega))).trans (by first | (simp [go_sem]; done) | (go_simp; done)); have rq0 : w1.frozen? ⟨w.heap.size + 1 + 1, 0, none⟩ = false := (hf _ _ (by first | omega | (simp; done) | (simp; omega))).trans (by first | (simp [go_sem]; done) | (go_simp; done)); have rq1 : w1.frozen? ⟨w.heap.size + 1 + 1, 1, none⟩ = false := (hf _ _ (by first | omega | (simp; done) | (simp; omega))).trans (by first | (simp [go_sem]; done) | (go_simp; done)); have rq2 : w1.frozen? ⟨w.heap.size + 1 + 1, 2, none⟩ = false := (hf _ _ (by first | omega | (simp; done) | (simp; omega))).trans (by first | (simp [go_sem]; done) | (go_simp; done)); have x0 : w1.cell? ⟨w.heap.size + 1, 0, none⟩ = some (.int .i64 h) := (hc _ _ (by first | omega | (simp; done) | (simp; omega))).trans (by first | (simp [go_sem]; done) | (go_simp; done)); have x1 : w1.cell? ⟨w.heap.size + 1, 1, none⟩ = some (.int .i64 t) := (hc _ _ (by first | omega | (simp; done) | (simp; omega))).trans (by first | (simp [go_sem]; done) | (go_simp; done)); have x2 : w1.cell? ⟨w.heap.size + 1, 2, none⟩ = some (.int .i64 r) := (hc _ _ (by first | omega | (simp; done) | (simp; omega))).trans (by first | (simp [go_sem]; done) | (go_simp; done)); have xq0 : w1.frozen? ⟨w.heap.size + 1, 0, none⟩ = false := (hf _ _ (by first | omega | (simp; done) | (simp; omega))).trans (by first | (simp [go_sem]; done) | (go_simp; done)); have xq1 : w1.frozen? ⟨w.heap.size + 1, 1, none⟩ = false := (hf _ _ (by first | omega | (simp; done) | (simp; omega))).trans (by first | (simp [go_sem]; done) | (go_simp; done)); have xq2 : w1.frozen? ⟨w.heap.size + 1, 2, none⟩ = false := (hf _ _ (by first | omega | (simp; done) | (simp; omega))).trans (by first | (simp [go_sem]; done) | (go_simp; done)); clear hw1)))
        ((try simp only [Exit.inBlock, Exit.then]); refine bodyPost_ret (by simp [results, Try.results15, go_sem, r0, r1, r2]; try rfl) rfl ?_)
        exact ⟨by rw [E0.out, E1.out, E2.out, E3.out, E4.out], by go_grown⟩
    · have E0 : takeE s a e h t r at_ n = 2 := by rw [takeE, if_pos hp, hn]; rfl
      have E1 := hide (show take1 s a e h t r at_ n = 0 by rw [take1, E0]; rfl)
      have E2 := hide (show take2 s a e h t r at_ n = 0 by rw [take2, E0]; rfl)
      have E3 := hide (show take3 s a e h t r at_ n = 0 by rw [take3, E0]; rfl)
      have E4 := hide (show takeIs s a e h t r at_ n = false by simp [takeIs, E0])
      have E0 := hide E0
      clear hp e1 e2 e3 hl
      unfold v3 at C ⊢
      go_enter Try.func15, Try.ntmps15
      go_wp2_with (first | (go_at_call 33; refine (outside_any _ _ _ _).mono ?_; rintro e w' ⟨rfl, rfl⟩) | (go_at_call 14; go_must (refine (C.out _).mono ?_; rintro r w1 ⟨rfl, hw1⟩; obtain ⟨hc, hf⟩ := bcell hw1; have hz := hw1.size; (try simp at hz); have hB := bthen (w := w) hw1 (by go_grown) (by go_size); have r0 : w1.cell? ⟨w.heap.size + 1 + 1, 0, none⟩ = some (.int .i64 0) := (hc _ _ (by first | omega | (simp; done) | (simp; omega))).trans (by first | (simp [go_sem]; done) | (go_simp; done)); have r1 : w1.cell? ⟨w.heap.size + 1 + 1, 1, none⟩ = some (.int .i64 0) := (hc _ _ (by first | omega | (simp; done) | (simp; omega))).trans (by first | (simp [go_sem]; done) | (go_simp; done)); have r2 : w1.cell? ⟨w.heap.size + 1 + 1, 2, none⟩ = some (.int .i64 0) := (hc _ _ (by first | omega | (simp; done) | (simp; omega))).trans (by first | (simp [go_sem]; done) | (go_simp; done)); have rq0 : w1.frozen? ⟨w.heap.size + 1 + 1, 0, none⟩ = false := (hf _ _ (by first | omega | (simp; done) | (simp; omega))).trans (by first | (simp [go_sem]; done) | (go_simp; done)); have rq1 : w1.frozen? ⟨w.heap.size + 1 + 1, 1, none⟩ = false := (hf _ _ (by first | omega | (simp; done) | (simp; omega))).trans (by first | (simp [go_sem]; done) | (go_simp; done)); have rq2 : w1.frozen? ⟨w.heap.size + 1 + 1, 2, none⟩ = false := (hf _ _ (by first | omega | (simp; done) | (simp; omega))).trans (by first | (simp [go_sem]; done) | (go_simp; done)); have x0 : w1.cell? ⟨w.heap.size + 1, 0, none⟩ = some (.int .i64 h) := (hc _ _ (by first | omega | (simp; done) | (simp; omega))).trans (by first | (simp [go_sem]; done) | (go_simp; done)); have x1 : w1.cell? ⟨w.heap.size + 1, 1, none⟩ = some (.int .i64 t) := (hc _ _ (by first | omega | (simp; done) | (simp; omega))).trans (by first | (simp [go_sem]; done) | (go_simp; done)); have x2 : w1.cell? ⟨w.heap.size + 1, 2, none⟩ = some (.int .i64 r) := (hc _ _ (by first | omega | (simp; done) | (simp; omega))).trans (by first | (simp [go_sem]; done) | (go_simp; done)); have xq0 : w1.frozen? ⟨w.heap.size + 1, 0, none⟩ = false := (hf _ _ (by first | omega | (simp; done) | (simp; omega))).trans (by first | (simp [go_sem]; done) | (go_simp; done)); have xq1 : w1.frozen? ⟨w.heap.size + 1, 1, none⟩ = false := (hf _ _ (by first | omega | (simp; done) | (simp; omega))).trans (by first | (simp [go_sem]; done) | (go_simp; done)); have xq2 : w1.frozen? ⟨w.heap.size + 1, 2, none⟩ = false := (hf _ _ (by first | omega | (simp; done) | (simp; omega))).trans (by first | (simp [go_sem]; done) | (go_simp; done)); clear hw1)))
      ((try simp only [Exit.inBlock, Exit.then]); refine bodyPost_ret (by simp [results, Try.results15, go_sem, r0, r1, r2]; try rfl) rfl ?_)
      exact ⟨by rw [E0.out, E1.out, E2.out, E3.out, E4.out], by go_grown⟩
  · have E0 : takeE s a e h t r at_ n = pourE s a e h t r at_ := by rw [takeE, if_neg hp]
    have E1 := hide (show take1 s a e h t r at_ n = 0 by rw [take1, E0, if_neg hp])
    have E2 := hide (show take2 s a e h t r at_ n = 0 by rw [take2, E0, if_neg hp])
    have E3 := hide (show take3 s a e h t r at_ n = 0 by rw [take3, E0, if_neg hp])
    have E4 := hide (show takeIs s a e h t r at_ n = false by simp [takeIs, E0, hp])
    have E0 := hide E0
    unfold v3 at C ⊢
    go_enter Try.func15, Try.ntmps15
    go_wp2_with (first | (go_at_call 33; refine (outside_any _ _ _ _).mono ?_; rintro e w' ⟨rfl, rfl⟩) | (go_at_call 14; go_must (refine (C.out _).mono ?_; rintro r w1 ⟨rfl, hw1⟩; obtain ⟨hc, hf⟩ := bcell hw1; have hz := hw1.size; (try simp at hz); have hB := bthen (w := w) hw1 (by go_grown) (by go_size); have r0 : w1.cell? ⟨w.heap.size + 1 + 1, 0, none⟩ = some (.int .i64 0) := (hc _ _ (by first | omega | (simp; done) | (simp; omega))).trans (by first | (simp [go_sem]; done) | (go_simp; done)); have r1 : w1.cell? ⟨w.heap.size + 1 + 1, 1, none⟩ = some (.int .i64 0) := (hc _ _ (by first | omega | (simp; done) | (simp; omega))).trans (by first | (simp [go_sem]; done) | (go_simp; done)); have r2 : w1.cell? ⟨w.heap.size + 1 + 1, 2, none⟩ = some (.int .i64 0) := (hc _ _ (by first | omega | (simp; done) | (simp; omega))).trans (by first | (simp [go_sem]; done) | (go_simp; done)); have rq0 : w1.frozen? ⟨w.heap.size + 1 + 1, 0, none⟩ = false := (hf _ _ (by first | omega | (simp; done) | (simp; omega))).trans (by first | (simp [go_sem]; done) | (go_simp; done)); have rq1 : w1.frozen? ⟨w.heap.size + 1 + 1, 1, none⟩ = false := (hf _ _ (by first | omega | (simp; done) | (simp; omega))).trans (by first | (simp [go_sem]; done) | (go_simp; done)); have rq2 : w1.frozen? ⟨w.heap.size + 1 + 1, 2, none⟩ = false := (hf _ _ (by first | omega | (simp; done) | (simp; omega))).trans (by first | (simp [go_sem]; done) | (go_simp; done)); have x0 : w1.cell? ⟨w.heap.size + 1, 0, none⟩ = some (.int .i64 h) := (hc _ _ (by first | omega | (simp; done) | (simp; omega))).trans (by first | (simp [go_sem]; done) | (go_simp; done)); have x1 : w1.cell? ⟨w.heap.size + 1, 1, none⟩ = some (.int .i64 t) := (hc _ _ (by first | omega | (simp; done) | (simp; omega))).trans (by first | (simp [go_sem]; done) | (go_simp; done)); have x2 : w1.cell? ⟨w.heap.size + 1, 2, none⟩ = some (.int .i64 r) := (hc _ _ (by first | omega | (simp; done) | (simp; omega))).trans (by first | (simp [go_sem]; done) | (go_simp; done)); have xq0 : w1.frozen? ⟨w.heap.size + 1, 0, none⟩ = false := (hf _ _ (by first | omega | (simp; done) | (simp; omega))).trans (by first | (simp [go_sem]; done) | (go_simp; done)); have xq1 : w1.frozen? ⟨w.heap.size + 1, 1, none⟩ = false := (hf _ _ (by first | omega | (simp; done) | (simp; omega))).trans (by first | (simp [go_sem]; done) | (go_simp; done)); have xq2 : w1.frozen? ⟨w.heap.size + 1, 2, none⟩ = false := (hf _ _ (by first | omega | (simp; done) | (simp; omega))).trans (by first | (simp [go_sem]; done) | (go_simp; done)); clear hw1)))
    ((try simp only [Exit.inBlock, Exit.then]); refine bodyPost_ret (by simp [results, Try.results15, go_sem, r0, r1, r2]; try rfl) rfl ?_)
    exact ⟨by rw [E0.out, E1.out, E2.out, E3.out, E4.out], by go_grown⟩
end Go.Proofs.Ytnbmohekikhknaa
