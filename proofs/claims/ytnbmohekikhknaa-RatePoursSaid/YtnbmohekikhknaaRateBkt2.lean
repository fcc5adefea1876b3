/- Walks of Full, Pour, Take, Wait and of their references. -/
import Derived.Test.YtnbmohekikhknaaRateBkt
namespace Go.Proofs.Ytnbmohekikhknaa
open Go.RowKit
def fullE (s a e at_ : Int) : Int := if bkErr s a e = 0 then (if outsideB at_ 0 3155759999 then 2 else 0) else bkErr s a e
def fullA (s a e at_ x : Int) : Int := if fullE s a e at_ = 0 then x else 0
theorem full_any (s a e at_ : Int) (w : World) :
    Calls Try.prog 37 #[v3 s a e, .int .i64 at_] w fun x w' => x = .returned (v3 s at_ 0) ∧ Below w.heap.size w w' := by
  unfold v3
  go_enter Try.func37, Try.ntmps37
  go_wp2
  go_returns
  exact ⟨rfl, by go_grown⟩
set_option maxHeartbeats 1000000 in
theorem Full_any (s a e at_ : Int) (w : World) :
    Calls Try.prog 13 #[v3 s a e, .int .i64 at_] w fun x w' => x = .returned (.tuple #[v3 (fullA s a e at_ s) (fullA s a e at_ at_) 0, .int .i64 (fullE s a e at_)]) ∧ Below w.heap.size w w' := by
  have C := hide (CheckBucket_any s a e)
  have D := hide (full_any s a e at_)
  unfold v3 at C D ⊢
  by_cases hb : bkErr s a e = 0
  · cases hm : outsideB at_ 0 3155759999
    · have E := hide (show fullE s a e at_ = 0 by rw [fullE, if_pos hb, hm]; rfl)
      have F := hide (show ∀ x, fullA s a e at_ x = x from fun x => by rw [fullA, E.out]; rfl)
      go_enter Try.func13, Try.ntmps13
      go_wp2_with (first | (go_at_call 36; refine (isMoment_any _ _).mono ?_; rintro e w' ⟨rfl, rfl⟩) | (go_at_call 18; go_must (refine (C.out _).mono ?_; rintro r w1 ⟨rfl, hw1⟩; obtain ⟨hc, hf⟩ := bcell hw1; have hz := hw1.size; (try simp at hz); have hB := bthen (w := w) hw1 (by go_grown) (by go_size); have r0 : w1.cell? ⟨w.heap.size + 1, 0, none⟩ = some (.int .i64 0) := (hc _ _ (by first | omega | (simp; done) | (simp; omega))).trans (by first | (simp [go_sem]; done) | (go_simp; done)); have r1 : w1.cell? ⟨w.heap.size + 1, 1, none⟩ = some (.int .i64 0) := (hc _ _ (by first | omega | (simp; done) | (simp; omega))).trans (by first | (simp [go_sem]; done) | (go_simp; done)); have r2 : w1.cell? ⟨w.heap.size + 1, 2, none⟩ = some (.int .i64 0) := (hc _ _ (by first | omega | (simp; done) | (simp; omega))).trans (by first | (simp [go_sem]; done) | (go_simp; done)); have rq0 : w1.frozen? ⟨w.heap.size + 1, 0, none⟩ = false := (hf _ _ (by first | omega | (simp; done) | (simp; omega))).trans (by first | (simp [go_sem]; done) | (go_simp; done)); have rq1 : w1.frozen? ⟨w.heap.size + 1, 1, none⟩ = false := (hf _ _ (by first | omega | (simp; done) | (simp; omega))).trans (by first | (simp [go_sem]; done) | (go_simp; done)); have rq2 : w1.frozen? ⟨w.heap.size + 1, 2, none⟩ = false := (hf _ _ (by first | omega | (simp; done) | (simp; omega))).trans (by first | (simp [go_sem]; done) | (go_simp; done)); clear hw1)) | (go_at_call 37; go_must (refine (D.out _).mono ?_; rintro r w1 ⟨rfl, hw1⟩; obtain ⟨hc, hf⟩ := bcell hw1; have hz := hw1.size; (try simp at hz); have hB := bthen (w := w) hw1 (by go_grown) (by go_size); have r0 : w1.cell? ⟨w.heap.size + 1, 0, none⟩ = some (.int .i64 0) := (hc _ _ (by first | omega | (simp; done) | (simp; omega))).trans (by first | (simp [go_sem]; done) | (go_simp; done)); have r1 : w1.cell? ⟨w.heap.size + 1, 1, none⟩ = some (.int .i64 0) := (hc _ _ (by first | omega | (simp; done) | (simp; omega))).trans (by first | (simp [go_sem]; done) | (go_simp; done)); have r2 : w1.cell? ⟨w.heap.size + 1, 2, none⟩ = some (.int .i64 0) := (hc _ _ (by first | omega | (simp; done) | (simp; omega))).trans (by first | (simp [go_sem]; done) | (go_simp; done)); have rq0 : w1.frozen? ⟨w.heap.size + 1, 0, none⟩ = false := (hf _ _ (by first | omega | (simp; done) | (simp; omega))).trans (by first | (simp [go_sem]; done) | (go_simp; done)); have rq1 : w1.frozen? ⟨w.heap.size + 1, 1, none⟩ = false := (hf _ _ (by first | omega | (simp; done) | (simp; omega))).trans (by first | (simp [go_sem]; done) | (go_simp; done)); have rq2 : w1.frozen? ⟨w.heap.size + 1, 2, none⟩ = false := (hf _ _ (by first | omega | (simp; done) | (simp; omega))).trans (by first | (simp [go_sem]; done) | (go_simp; done)); clear hw1)))
      ((try simp only [Exit.inBlock, Exit.then]); refine bodyPost_ret (by simp [results, Try.results13, go_sem, r0, r1, r2]; try rfl) rfl ?_)
      exact ⟨by rw [E.out, F.out, F.out], by go_grown⟩
    · have E := hide (show fullE s a e at_ = 2 by rw [fullE, if_pos hb, hm]; rfl)
      have F := hide (show ∀ x, fullA s a e at_ x = 0 from fun x => by rw [fullA, E.out]; rfl)
      go_enter Try.func13, Try.ntmps13
      go_wp2_with (first | (go_at_call 36; refine (isMoment_any _ _).mono ?_; rintro e w' ⟨rfl, rfl⟩) | (go_at_call 18; go_must (refine (C.out _).mono ?_; rintro r w1 ⟨rfl, hw1⟩; obtain ⟨hc, hf⟩ := bcell hw1; have hz := hw1.size; (try simp at hz); have hB := bthen (w := w) hw1 (by go_grown) (by go_size); have r0 : w1.cell? ⟨w.heap.size + 1, 0, none⟩ = some (.int .i64 0) := (hc _ _ (by first | omega | (simp; done) | (simp; omega))).trans (by first | (simp [go_sem]; done) | (go_simp; done)); have r1 : w1.cell? ⟨w.heap.size + 1, 1, none⟩ = some (.int .i64 0) := (hc _ _ (by first | omega | (simp; done) | (simp; omega))).trans (by first | (simp [go_sem]; done) | (go_simp; done)); have r2 : w1.cell? ⟨w.heap.size + 1, 2, none⟩ = some (.int .i64 0) := (hc _ _ (by first | omega | (simp; done) | (simp; omega))).trans (by first | (simp [go_sem]; done) | (go_simp; done)); have rq0 : w1.frozen? ⟨w.heap.size + 1, 0, none⟩ = false := (hf _ _ (by first | omega | (simp; done) | (simp; omega))).trans (by first | (simp [go_sem]; done) | (go_simp; done)); have rq1 : w1.frozen? ⟨w.heap.size + 1, 1, none⟩ = false := (hf _ _ (by first | omega | (simp; done) | (simp; omega))).trans (by first | (simp [go_sem]; done) | (go_simp; done)); have rq2 : w1.frozen? ⟨w.heap.size + 1, 2, none⟩ = false := (hf _ _ (by first | omega | (simp; done) | (simp; omega))).trans (by first | (simp [go_sem]; done) | (go_simp; done)); clear hw1)))
      ((try simp only [Exit.inBlock, Exit.then]); refine bodyPost_ret (by simp [results, Try.results13, go_sem, r0, r1, r2]; try rfl) rfl ?_)
      exact ⟨by rw [E.out, F.out, F.out], by go_grown⟩
  · have E := hide (show fullE s a e at_ = bkErr s a e by rw [fullE, if_neg hb])
    have F := hide (show ∀ x, fullA s a e at_ x = 0 from fun x => by rw [fullA, E.out, if_neg hb])
    go_enter Try.func13, Try.ntmps13
    go_wp2_with (first | (go_at_call 36; refine (isMoment_any _ _).mono ?_; rintro e w' ⟨rfl, rfl⟩) | (go_at_call 18; go_must (refine (C.out _).mono ?_; rintro r w1 ⟨rfl, hw1⟩; obtain ⟨hc, hf⟩ := bcell hw1; have hz := hw1.size; (try simp at hz); have hB := bthen (w := w) hw1 (by go_grown) (by go_size); have r0 : w1.cell? ⟨w.heap.size + 1, 0, none⟩ = some (.int .i64 0) := (hc _ _ (by first | omega | (simp; done) | (simp; omega))).trans (by first | (simp [go_sem]; done) | (go_simp; done)); have r1 : w1.cell? ⟨w.heap.size + 1, 1, none⟩ = some (.int .i64 0) := (hc _ _ (by first | omega | (simp; done) | (simp; omega))).trans (by first | (simp [go_sem]; done) | (go_simp; done)); have r2 : w1.cell? ⟨w.heap.size + 1, 2, none⟩ = some (.int .i64 0) := (hc _ _ (by first | omega | (simp; done) | (simp; omega))).trans (by first | (simp [go_sem]; done) | (go_simp; done)); have rq0 : w1.frozen? ⟨w.heap.size + 1, 0, none⟩ = false := (hf _ _ (by first | omega | (simp; done) | (simp; omega))).trans (by first | (simp [go_sem]; done) | (go_simp; done)); have rq1 : w1.frozen? ⟨w.heap.size + 1, 1, none⟩ = false := (hf _ _ (by first | omega | (simp; done) | (simp; omega))).trans (by first | (simp [go_sem]; done) | (go_simp; done)); have rq2 : w1.frozen? ⟨w.heap.size + 1, 2, none⟩ = false := (hf _ _ (by first | omega | (simp; done) | (simp; omega))).trans (by first | (simp [go_sem]; done) | (go_simp; done)); clear hw1)))
    ((try simp only [Exit.inBlock, Exit.then]); refine bodyPost_ret (by simp [results, Try.results13, go_sem, r0, r1, r2]; try rfl) rfl ?_)
    exact ⟨by rw [E.out, F.out, F.out], by go_grown⟩
/-- The error of Pour. -/
def pourE (s a e h t r at_ : Int) : Int := if lvErr s a e h t r = 0 then (if outsideB at_ 0 3155759999 then 2 else if at_ < t then 5 else 0) else lvErr s a e h t r
def pour1 (s a e h t r at_ : Int) : Int := if pourE s a e h t r at_ = 0 then pH s a e h t r at_ else 0
def pour2 (s a e h t r at_ : Int) : Int := if pourE s a e h t r at_ = 0 then at_ else 0
def pour3 (s a e h t r at_ : Int) : Int := if pourE s a e h t r at_ = 0 then pR e t r at_ else 0
theorem pour_vals {s a e h t r at_ : Int} (H : pourE s a e h t r at_ = 0) : pour1 s a e h t r at_ = pH s a e h t r at_ ∧ pour2 s a e h t r at_ = at_ ∧ pour3 s a e h t r at_ = pR e t r at_ :=
  ⟨by rw [pour1, if_pos H], by rw [pour2, if_pos H], by rw [pour3, if_pos H]⟩
theorem pour_zeros {s a e h t r at_ : Int} (H : pourE s a e h t r at_ ≠ 0) : pour1 s a e h t r at_ = 0 ∧ pour2 s a e h t r at_ = 0 ∧ pour3 s a e h t r at_ = 0 :=
  ⟨by rw [pour1, if_neg H], by rw [pour2, if_neg H], by rw [pour3, if_neg H]⟩
theorem pourOk {s a e h t r at_ : Int} (H : pourE s a e h t r at_ = 0) : lvErr s a e h t r = 0 ∧ 0 ≤ at_ ∧ at_ ≤ 3155759999 ∧ t ≤ at_ := by
  unfold pourE at H
  split at H
  · rename_i hl
    split at H
    · omega
    · rename_i h2
      simp [outsideB] at h2
      split at H
      · omega
      · exact ⟨hl, by omega, by omega, by omega⟩
  · omega
set_option maxHeartbeats 2000000 in
theorem Pour_any (s a e h t r at_ : Int) (w : World) :
    Calls Try.prog 14 #[v3 s a e, v3 h t r, .int .i64 at_] w fun x w' => x = .returned (.tuple #[v3 (pour1 s a e h t r at_) (pour2 s a e h t r at_) (pour3 s a e h t r at_), .int .i64 (pourE s a e h t r at_)]) ∧ Below w.heap.size w w' := by
  have C := hide (check_any s a e h t r)
  by_cases hp : pourE s a e h t r at_ = 0
  · obtain ⟨hl, m0, m1, hx⟩ := pourOk hp
    have hm : outsideB at_ 0 3155759999 = false := by simp [outsideB]; omega
    obtain ⟨e1, e2, e3⟩ := pour_vals hp
    have D := hide (fun W => pour_any s a e h t r at_ W hl hx m1)
    have E := hide (And.intro hp (And.intro e1 (And.intro e2 e3)))
    clear hp e1 e2 e3
    unfold pourV v3 at D
    unfold v3 at C ⊢
    go_enter Try.func14, Try.ntmps14
    go_wp2_with (first | (go_at_call 36; refine (isMoment_any _ _).mono ?_; rintro e w' ⟨rfl, rfl⟩) | (go_at_call 38; go_must (refine (C.out _).mono ?_; rintro r w1 ⟨rfl, hw1⟩; obtain ⟨hc, hf⟩ := bcell hw1; have hz := hw1.size; (try simp at hz); have hB := bthen (w := w) hw1 (by go_grown) (by go_size); have r0 : w1.cell? ⟨w.heap.size + 1 + 1, 0, none⟩ = some (.int .i64 0) := (hc _ _ (by first | omega | (simp; done) | (simp; omega))).trans (by first | (simp [go_sem]; done) | (go_simp; done)); have r1 : w1.cell? ⟨w.heap.size + 1 + 1, 1, none⟩ = some (.int .i64 0) := (hc _ _ (by first | omega | (simp; done) | (simp; omega))).trans (by first | (simp [go_sem]; done) | (go_simp; done)); have r2 : w1.cell? ⟨w.heap.size + 1 + 1, 2, none⟩ = some (.int .i64 0) := (hc _ _ (by first | omega | (simp; done) | (simp; omega))).trans (by first | (simp [go_sem]; done) | (go_simp; done)); have rq0 : w1.frozen? ⟨w.heap.size + 1 + 1, 0, none⟩ = false := (hf _ _ (by first | omega | (simp; done) | (simp; omega))).trans (by first | (simp [go_sem]; done) | (go_simp; done)); have rq1 : w1.frozen? ⟨w.heap.size + 1 + 1, 1, none⟩ = false := (hf _ _ (by first | omega | (simp; done) | (simp; omega))).trans (by first | (simp [go_sem]; done) | (go_simp; done)); have rq2 : w1.frozen? ⟨w.heap.size + 1 + 1, 2, none⟩ = false := (hf _ _ (by first | omega | (simp; done) | (simp; omega))).trans (by first | (simp [go_sem]; done) | (go_simp; done)); clear hw1)) | (go_at_call 39; go_must (refine (D.out _).mono ?_; rintro r w1 ⟨rfl, hw1⟩; obtain ⟨hc, hf⟩ := bcell hw1; have hz := hw1.size; (try simp at hz); have hB := bthen (w := w) hw1 (by go_grown) (by go_size); have r0 : w1.cell? ⟨w.heap.size + 1 + 1, 0, none⟩ = some (.int .i64 0) := (hc _ _ (by first | omega | (simp; done) | (simp; omega))).trans (by first | (simp [go_sem]; done) | (go_simp; done)); have r1 : w1.cell? ⟨w.heap.size + 1 + 1, 1, none⟩ = some (.int .i64 0) := (hc _ _ (by first | omega | (simp; done) | (simp; omega))).trans (by first | (simp [go_sem]; done) | (go_simp; done)); have r2 : w1.cell? ⟨w.heap.size + 1 + 1, 2, none⟩ = some (.int .i64 0) := (hc _ _ (by first | omega | (simp; done) | (simp; omega))).trans (by first | (simp [go_sem]; done) | (go_simp; done)); have rq0 : w1.frozen? ⟨w.heap.size + 1 + 1, 0, none⟩ = false := (hf _ _ (by first | omega | (simp; done) | (simp; omega))).trans (by first | (simp [go_sem]; done) | (go_simp; done)); have rq1 : w1.frozen? ⟨w.heap.size + 1 + 1, 1, none⟩ = false := (hf _ _ (by first | omega | (simp; done) | (simp; omega))).trans (by first | (simp [go_sem]; done) | (go_simp; done)); have rq2 : w1.frozen? ⟨w.heap.size + 1 + 1, 2, none⟩ = false := (hf _ _ (by first | omega | (simp; done) | (simp; omega))).trans (by first | (simp [go_sem]; done) | (go_simp; done)); clear hw1)))
    ((try simp only [Exit.inBlock, Exit.then]); refine bodyPost_ret (by simp [results, Try.results14, go_sem, r0, r1, r2]; try rfl) rfl ?_)
    exact ⟨by rw [E.out.1, E.out.2.1, E.out.2.2.1, E.out.2.2.2], by go_grown⟩
  · obtain ⟨e1, e2, e3⟩ := pour_zeros hp
    by_cases hl : lvErr s a e h t r = 0
    · cases hm : outsideB at_ 0 3155759999
      · have hx : at_ < t := by
          apply Int.not_le.1; intro hn
          exact hp (by rw [pourE, if_pos hl, hm, if_neg (by simp), if_neg (by omega)])
        have E := hide (And.intro (show pourE s a e h t r at_ = 5 by rw [pourE, if_pos hl, hm, if_neg (by simp), if_pos hx]) (And.intro e1 (And.intro e2 e3)))
        clear hp e1 e2 e3
        unfold v3 at C ⊢
        go_enter Try.func14, Try.ntmps14
        go_wp2_with (first | (go_at_call 36; refine (isMoment_any _ _).mono ?_; rintro e w' ⟨rfl, rfl⟩) | (go_at_call 38; go_must (refine (C.out _).mono ?_; rintro r w1 ⟨rfl, hw1⟩; obtain ⟨hc, hf⟩ := bcell hw1; have hz := hw1.size; (try simp at hz); have hB := bthen (w := w) hw1 (by go_grown) (by go_size); have r0 : w1.cell? ⟨w.heap.size + 1 + 1, 0, none⟩ = some (.int .i64 0) := (hc _ _ (by first | omega | (simp; done) | (simp; omega))).trans (by first | (simp [go_sem]; done) | (go_simp; done)); have r1 : w1.cell? ⟨w.heap.size + 1 + 1, 1, none⟩ = some (.int .i64 0) := (hc _ _ (by first | omega | (simp; done) | (simp; omega))).trans (by first | (simp [go_sem]; done) | (go_simp; done)); have r2 : w1.cell? ⟨w.heap.size + 1 + 1, 2, none⟩ = some (.int .i64 0) := (hc _ _ (by first | omega | (simp; done) | (simp; omega))).trans (by first | (simp [go_sem]; done) | (go_simp; done)); have rq0 : w1.frozen? ⟨w.heap.size + 1 + 1, 0, none⟩ = false := (hf _ _ (by first | omega | (simp; done) | (simp; omega))).trans (by first | (simp [go_sem]; done) | (go_simp; done)); have rq1 : w1.frozen? ⟨w.heap.size + 1 + 1, 1, none⟩ = false := (hf _ _ (by first | omega | (simp; done) | (simp; omega))).trans (by first | (simp [go_sem]; done) | (go_simp; done)); have rq2 : w1.frozen? ⟨w.heap.size + 1 + 1, 2, none⟩ = false := (hf _ _ (by first | omega | (simp; done) | (simp; omega))).trans (by first | (simp [go_sem]; done) | (go_simp; done)); clear hw1)))
        ((try simp only [Exit.inBlock, Exit.then]); refine bodyPost_ret (by simp [results, Try.results14, go_sem, r0, r1, r2]; try rfl) rfl ?_)
        exact ⟨by rw [E.out.1, E.out.2.1, E.out.2.2.1, E.out.2.2.2], by go_grown⟩
      · have E := hide (And.intro (show pourE s a e h t r at_ = 2 by rw [pourE, if_pos hl, hm]; rfl) (And.intro e1 (And.intro e2 e3)))
        clear hp e1 e2 e3
        unfold v3 at C ⊢
        go_enter Try.func14, Try.ntmps14
        go_wp2_with (first | (go_at_call 36; refine (isMoment_any _ _).mono ?_; rintro e w' ⟨rfl, rfl⟩) | (go_at_call 38; go_must (refine (C.out _).mono ?_; rintro r w1 ⟨rfl, hw1⟩; obtain ⟨hc, hf⟩ := bcell hw1; have hz := hw1.size; (try simp at hz); have hB := bthen (w := w) hw1 (by go_grown) (by go_size); have r0 : w1.cell? ⟨w.heap.size + 1 + 1, 0, none⟩ = some (.int .i64 0) := (hc _ _ (by first | omega | (simp; done) | (simp; omega))).trans (by first | (simp [go_sem]; done) | (go_simp; done)); have r1 : w1.cell? ⟨w.heap.size + 1 + 1, 1, none⟩ = some (.int .i64 0) := (hc _ _ (by first | omega | (simp; done) | (simp; omega))).trans (by first | (simp [go_sem]; done) | (go_simp; done)); have r2 : w1.cell? ⟨w.heap.size + 1 + 1, 2, none⟩ = some (.int .i64 0) := (hc _ _ (by first | omega | (simp; done) | (simp; omega))).trans (by first | (simp [go_sem]; done) | (go_simp; done)); have rq0 : w1.frozen? ⟨w.heap.size + 1 + 1, 0, none⟩ = false := (hf _ _ (by first | omega | (simp; done) | (simp; omega))).trans (by first | (simp [go_sem]; done) | (go_simp; done)); have rq1 : w1.frozen? ⟨w.heap.size + 1 + 1, 1, none⟩ = false := (hf _ _ (by first | omega | (simp; done) | (simp; omega))).trans (by first | (simp [go_sem]; done) | (go_simp; done)); have rq2 : w1.frozen? ⟨w.heap.size + 1 + 1, 2, none⟩ = false := (hf _ _ (by first | omega | (simp; done) | (simp; omega))).trans (by first | (simp [go_sem]; done) | (go_simp; done)); clear hw1)))
        ((try simp only [Exit.inBlock, Exit.then]); refine bodyPost_ret (by simp [results, Try.results14, go_sem, r0, r1, r2]; try rfl) rfl ?_)
        exact ⟨by rw [E.out.1, E.out.2.1, E.out.2.2.1, E.out.2.2.2], by go_grown⟩
    · have E := hide (And.intro (show pourE s a e h t r at_ = lvErr s a e h t r by rw [pourE, if_neg hl]) (And.intro e1 (And.intro e2 e3)))
      clear hp e1 e2 e3
      unfold v3 at C ⊢
      go_enter Try.func14, Try.ntmps14
      go_wp2_with (first | (go_at_call 36; refine (isMoment_any _ _).mono ?_; rintro e w' ⟨rfl, rfl⟩) | (go_at_call 38; go_must (refine (C.out _).mono ?_; rintro r w1 ⟨rfl, hw1⟩; obtain ⟨hc, hf⟩ := bcell hw1; have hz := hw1.size; (try simp at hz); have hB := bthen (w := w) hw1 (by go_grown) (by go_size); have r0 : w1.cell? ⟨w.heap.size + 1 + 1, 0, none⟩ = some (.int .i64 0) := (hc _ _ (by first | omega | (simp; done) | (simp; omega))).trans (by first | (simp [go_sem]; done) | (go_simp; done)); have r1 : w1.cell? ⟨w.heap.size + 1 + 1, 1, none⟩ = some (.int .i64 0) := (hc _ _ (by first | omega | (simp; done) | (simp; omega))).trans (by first | (simp [go_sem]; done) | (go_simp; done)); have r2 : w1.cell? ⟨w.heap.size + 1 + 1, 2, none⟩ = some (.int .i64 0) := (hc _ _ (by first | omega | (simp; done) | (simp; omega))).trans (by first | (simp [go_sem]; done) | (go_simp; done)); have rq0 : w1.frozen? ⟨w.heap.size + 1 + 1, 0, none⟩ = false := (hf _ _ (by first | omega | (simp; done) | (simp; omega))).trans (by first | (simp [go_sem]; done) | (go_simp; done)); have rq1 : w1.frozen? ⟨w.heap.size + 1 + 1, 1, none⟩ = false := (hf _ _ (by first | omega | (simp; done) | (simp; omega))).trans (by first | (simp [go_sem]; done) | (go_simp; done)); have rq2 : w1.frozen? ⟨w.heap.size + 1 + 1, 2, none⟩ = false := (hf _ _ (by first | omega | (simp; done) | (simp; omega))).trans (by first | (simp [go_sem]; done) | (go_simp; done)); clear hw1)))
      ((try simp only [Exit.inBlock, Exit.then]); refine bodyPost_ret (by simp [results, Try.results14, go_sem, r0, r1, r2]; try rfl) rfl ?_)
      exact ⟨by rw [E.out.1, E.out.2.1, E.out.2.2.1, E.out.2.2.2], by go_grown⟩
end Go.Proofs.Ytnbmohekikhknaa
