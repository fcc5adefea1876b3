/- Walks of the parsers' one: single types, the bottom (printed by gen_po.py). -/
import Derived.Test.YthlhiegbiapllaaNmPaO
namespace Go.Proofs.Ythlhiegbiapllaa
open Go.RowKit
set_option linter.unusedVariables false
set_option linter.unusedSimpArgs false
set_option maxRecDepth 100000 in
set_option maxHeartbeats 8000000 in
theorem rOne_ref {f : Nat} (H : rOneOk f) (HT : rTysOk f) (HPA : rPartsOk f) (c : Nat) (s : ByteArray) (i m : Nat) (x : ByteArray) (d : Int) (w : World) (hs : s.size ≤ 8000) (hi : i ≤ s.size) (hd : d = 12 - ((f + 1 : Nat) : Int)) (hf : f + 1 ≤ 12) (hid : idL s i ≠ 0)
    (hx : s.extract i (i + idL s i) = x) (hm : i + idL s i = m) (hms : m ≤ s.size) (h1 : x = refS) (h : w.heap[c]? = some (.cells #[.string s, .int .i64 i, .int .i64 (-1)] 67 (0, 0))) :
  Calls Try.prog 59 #[.pointer (some ⟨c, 0, none⟩), .int .i64 d] w fun e w' => ∃ (k : Int) (A : Option Addr) (n q : Nat) (A' : Option Addr) (n' q' : Nat), e = .returned (.agg #[.int .i64 k, .slice A n q, .slice A' n' q']) ∧
    After c 67 s w (pOne s (f + 1) i) w' ∧ ∀ j t, pOne s (f + 1) i = .ok j t → TyR (f + 1) w' (fun b => w.heap.size ≤ b) t [.int .i64 k, .slice A n q, .slice A' n' q'] := by
  have HSA := hide ((Pb.start h).alloc (.cells #[.int .i64 0, .slice none 0 0, .slice none 0 0] 52))
  have HBX := hide (heap_alloc_new w (.cells #[.int .i64 0, .slice none 0 0, .slice none 0 0] 52))
  have hcw := lt_of_block h
  have hlw : w.heap.size < (w.alloc (.cells #[.int .i64 0, .slice none 0 0, .slice none 0 0] 52)).heap.size := by simp
  have HID := hide (show ∀ W, W.heap[c]? = some (.cells #[.string s, .int .i64 i, .int .i64 (-1)] 67 (0, 0)) → Calls Try.prog 57 #[.pointer (some ⟨c, 0, none⟩)] W fun e w' => e = .returned (.string x) ∧ Pb c 67 s m (-1) W w' from fun W h => by have h1 := rWord_on c s i W hs hi h; rw [idWr, if_neg hid, hx, hm] at h1; exact h1)
  have hd0 : 0 ≤ d := by omega
  have hd12 : decide (12 ≤ d) = false := by simp; omega
  have hd11 : d ≤ 11 := by omega
  have HON := hide (fun W j hj h => H c s j (d + 1) W hs hj (by omega) h)
  have HTY := hide (fun W j hj h => HT c s j (d + 1) W hs hj (by omega) h)
  have HPT := hide (fun W x j hx hj h => HPA c s x j (d + 1) W hs hx hj (by omega) h)
  have c1 : (w.alloc (.cells #[.int .i64 0, .slice none 0 0, .slice none 0 0] 52)).cell? ⟨c, 1, none⟩ = some (.int .i64 i) := HSA.out.c1
  have HE := hide (pOne_ref (f := f) hid (by rw [hx]; exact h1))
  rw [hm] at HE
  unfold pRef at HE
  have hxl : x = ⟨#[114, 101, 102]⟩ := h1
  subst hxl
  clear h h1 hid hx hm H HT HPA hd
  cases hk : needB s [32] m with
  | bad e =>
    have HE2 := hide (show pOne s (f + 1) i = .bad e by rw [HE.out, hk]; rfl)
    have HKB := hide (show ∀ W, W.heap[c]? = some (.cells #[.string s, .int .i64 m, .int .i64 (-1)] 67 (0, 0)) → Calls Try.prog 34 #[.pointer (some ⟨c, 0, none⟩), .string ⟨#[32]⟩] W fun r w' => r = .returned (.tuple #[]) ∧ ∃ i : Nat, i ≤ s.size ∧ Pb c 67 s i (e : Nat) W w' from fun W h => (rNeed_on c s 32 m W hs hms h).mono fun r w' ⟨h1, h2⟩ => ⟨h1, h2.bad hk⟩)
    clear hk
    have hoff : decide (((e : Nat) : Int) < 0) = false := by simp
    go_enter Try.func59, Try.ntmps59
    go_wp2_with (first | (go_at_call 57; refine (HID.out _ HSA.out.box).mono ?_; rintro r w1 ⟨rfl, hq1⟩; have HQ1 := hide (HSA.out.trans hq1); have HB1 := hide (hq1.bu.keep _ _ HBX.out (by omega)); have c1 := HQ1.out.c1; have c2 := HQ1.out.c2; have hz1 := HQ1.out.size; have hl1 : w.heap.size < w1.heap.size := lt_of_block HB1.out; clear hq1) | (go_at_call 34; refine (HKB.out _ HQ1.out.box).mono ?_; rintro r w2 ⟨rfl, y, hy, hq2⟩; have HQ2 := hide (HQ1.out.trans hq2); have HB2 := hide (hq2.bu.keep _ _ HB1.out (by omega)); have hz2 := HQ2.out.size; have hl2 : w.heap.size < w2.heap.size := lt_of_block HB2.out; have c2 := HQ2.out.c2; have z0 : w2.cell? ⟨w.heap.size, 0, none⟩ = some (.int .i64 0) := (block_cell HB2.out 0).trans rfl; have zf0 : w2.frozen? ⟨w.heap.size, 0, none⟩ = false := block_free HB2.out 0; have z1 : w2.cell? ⟨w.heap.size, 1, none⟩ = some (.slice none 0 0) := (block_cell HB2.out 1).trans rfl; have zf1 : w2.frozen? ⟨w.heap.size, 1, none⟩ = false := block_free HB2.out 1; have z2 : w2.cell? ⟨w.heap.size, 2, none⟩ = some (.slice none 0 0) := (block_cell HB2.out 2).trans rfl; have zf2 : w2.frozen? ⟨w.heap.size, 2, none⟩ = false := block_free HB2.out 2; clear hq2))
    have hb3 := block_set (block_set (block_set HB2.out (i := 0) (.int .i64 0)) (i := 1) (.slice none 0 0)) (i := 2) (.slice none 0 0)
    have hqz := ((HQ2.out.other (b := w.heap.size) (j := 0) (Nat.le_refl _) hcw (.int .i64 0)).other (b := w.heap.size) (j := 1) (Nat.le_refl _) hcw (.slice none 0 0)).other (b := w.heap.size) (j := 2) (Nat.le_refl _) hcw (.slice none 0 0)
    have hst := stay_set3 w2 w.heap.size (.int .i64 0) (.slice none 0 0) (.slice none 0 0)
    generalize (((w2.setCell ⟨w.heap.size, 0, none⟩ (.int .i64 0)).setCell ⟨w.heap.size, 1, none⟩ (.slice none 0 0)).setCell ⟨w.heap.size, 2, none⟩ (.slice none 0 0)) = wf at hb3 hqz hst ⊢
    have r0 : wf.cell? ⟨w.heap.size, 0, none⟩ = some (.int .i64 0) := (block_cell hb3 0).trans rfl
    have r1 : wf.cell? ⟨w.heap.size, 1, none⟩ = some (.slice none 0 0) := (block_cell hb3 1).trans rfl
    have r2 : wf.cell? ⟨w.heap.size, 2, none⟩ = some (.slice none 0 0) := (block_cell hb3 2).trans rfl
    refine bodyPost_ret (by simp [results, Try.results59, go_sem, r0, r1, r2]; try rfl) rfl ?_
    exact ⟨_, _, _, _, _, _, _, rfl, After.of_bad HE2.out hy hqz, fun j t h => by rw [HE2.out] at h; cases h⟩
  | ok j u =>
    have hjs := (needB_ok s [32] m j u hms hk).2
    have HKG := hide (show ∀ W, W.heap[c]? = some (.cells #[.string s, .int .i64 m, .int .i64 (-1)] 67 (0, 0)) → Calls Try.prog 34 #[.pointer (some ⟨c, 0, none⟩), .string ⟨#[32]⟩] W fun r w' => r = .returned (.tuple #[]) ∧ Pb c 67 s j (-1) W w' from fun W h => (rNeed_on c s 32 m W hs hms h).mono fun r w' ⟨h1, h2⟩ => ⟨h1, h2.ok hk⟩)
    cases hr : pOne s f j with
    | bad e =>
      have HE2 := hide (show pOne s (f + 1) i = .bad e by rw [HE.out, hk]; simp only [Res.bind]; rw [hr])
      have HOC := hide (show ∀ W, W.heap[c]? = some (.cells #[.string s, .int .i64 j, .int .i64 (-1)] 67 (0, 0)) → Calls Try.prog 59 #[.pointer (some ⟨c, 0, none⟩), .int .i64 (d + 1)] W fun r w' => ∃ (k : Int) (A : Option Addr) (n q : Nat) (A' : Option Addr) (n' q' : Nat), r = .returned (.agg #[.int .i64 k, .slice A n q, .slice A' n' q']) ∧ ∃ i : Nat, i ≤ s.size ∧ Pb c 67 s i (e : Nat) W w' from fun W h => (HON.out W j hjs h).mono fun r w' ⟨k, A, n, q, A', n', q', h1, h2, _⟩ => ⟨k, A, n, q, A', n', q', h1, h2.bad hr⟩)
      clear hk hr
      go_enter Try.func59, Try.ntmps59
      go_wp2_with (first | (go_at_call 57; refine (HID.out _ HSA.out.box).mono ?_; rintro r w1 ⟨rfl, hq1⟩; have HQ1 := hide (HSA.out.trans hq1); have HB1 := hide (hq1.bu.keep _ _ HBX.out (by omega)); have c1 := HQ1.out.c1; have c2 := HQ1.out.c2; have hz1 := HQ1.out.size; have hl1 : w.heap.size < w1.heap.size := lt_of_block HB1.out; clear hq1) | (go_at_call 34; refine (HKG.out _ HQ1.out.box).mono ?_; rintro r w2 ⟨rfl, hq2⟩; have HQ2 := hide (HQ1.out.trans hq2); have HB2 := hide (hq2.bu.keep _ _ HB1.out (by omega)); have hz2 := HQ2.out.size; have hl2 : w.heap.size < w2.heap.size := lt_of_block HB2.out; have c2 := HQ2.out.c2; clear hq2) | (go_at_call 59; refine (HOC.out _ HQ2.out.box).mono ?_; rintro r w3 ⟨k3, A3, n3, q3, A4, n4, q4, rfl, y, hy, hq3⟩; have HQ3 := hide ((HQ2.out.trans hq3).alloc (.cells #[.int .i64 k3, .slice A3 n3 q3, .slice A4 n4 q4] 52)); have HB3 := hide (block_below (hq3.bu.keep _ _ HB2.out (by omega)) ((Below.refl _ _).alloc (Nat.le_refl _) (.cells #[.int .i64 k3, .slice A3 n3 q3, .slice A4 n4 q4] 52))); have z0 : (w3.alloc (.cells #[.int .i64 k3, .slice A3 n3 q3, .slice A4 n4 q4] 52)).cell? ⟨w.heap.size, 0, none⟩ = some (.int .i64 0) := (block_cell HB3.out 0).trans rfl; have zf0 : (w3.alloc (.cells #[.int .i64 k3, .slice A3 n3 q3, .slice A4 n4 q4] 52)).frozen? ⟨w.heap.size, 0, none⟩ = false := block_free HB3.out 0; have z1 : (w3.alloc (.cells #[.int .i64 k3, .slice A3 n3 q3, .slice A4 n4 q4] 52)).cell? ⟨w.heap.size, 1, none⟩ = some (.slice none 0 0) := (block_cell HB3.out 1).trans rfl; have zf1 : (w3.alloc (.cells #[.int .i64 k3, .slice A3 n3 q3, .slice A4 n4 q4] 52)).frozen? ⟨w.heap.size, 1, none⟩ = false := block_free HB3.out 1; have z2 : (w3.alloc (.cells #[.int .i64 k3, .slice A3 n3 q3, .slice A4 n4 q4] 52)).cell? ⟨w.heap.size, 2, none⟩ = some (.slice none 0 0) := (block_cell HB3.out 2).trans rfl; have zf2 : (w3.alloc (.cells #[.int .i64 k3, .slice A3 n3 q3, .slice A4 n4 q4] 52)).frozen? ⟨w.heap.size, 2, none⟩ = false := block_free HB3.out 2; clear hq3))
      have hb3 := block_set (block_set (block_set HB3.out (i := 0) (.int .i64 2)) (i := 1) (.slice none 0 0)) (i := 2) (.slice (some ⟨w3.heap.size, 0, none⟩) 1 1)
      have hqz := ((HQ3.out.other (b := w.heap.size) (j := 0) (Nat.le_refl _) hcw (.int .i64 2)).other (b := w.heap.size) (j := 1) (Nat.le_refl _) hcw (.slice none 0 0)).other (b := w.heap.size) (j := 2) (Nat.le_refl _) hcw (.slice (some ⟨w3.heap.size, 0, none⟩) 1 1)
      have hst := stay_set3 (w3.alloc (.cells #[.int .i64 k3, .slice A3 n3 q3, .slice A4 n4 q4] 52)) w.heap.size (.int .i64 2) (.slice none 0 0) (.slice (some ⟨w3.heap.size, 0, none⟩) 1 1)
      generalize ((((w3.alloc (.cells #[.int .i64 k3, .slice A3 n3 q3, .slice A4 n4 q4] 52)).setCell ⟨w.heap.size, 0, none⟩ (.int .i64 2)).setCell ⟨w.heap.size, 1, none⟩ (.slice none 0 0)).setCell ⟨w.heap.size, 2, none⟩ (.slice (some ⟨w3.heap.size, 0, none⟩) 1 1)) = wf at hb3 hqz hst ⊢
      have r0 : wf.cell? ⟨w.heap.size, 0, none⟩ = some (.int .i64 2) := (block_cell hb3 0).trans rfl
      have r1 : wf.cell? ⟨w.heap.size, 1, none⟩ = some (.slice none 0 0) := (block_cell hb3 1).trans rfl
      have r2 : wf.cell? ⟨w.heap.size, 2, none⟩ = some (.slice (some ⟨w3.heap.size, 0, none⟩) 1 1) := (block_cell hb3 2).trans rfl
      refine bodyPost_ret (by simp [results, Try.results59, go_sem, r0, r1, r2]; try rfl) rfl ?_
      exact ⟨_, _, _, _, _, _, _, rfl, After.of_bad HE2.out hy hqz, fun j t h => by rw [HE2.out] at h; cases h⟩
    | ok y t =>
      have HE2 := hide (show pOne s (f + 1) i = .ok y (Ty.mk 2 [] [t]) by rw [HE.out, hk]; simp only [Res.bind]; rw [hr])
      have HOC := hide (show ∀ W, W.heap[c]? = some (.cells #[.string s, .int .i64 j, .int .i64 (-1)] 67 (0, 0)) → Calls Try.prog 59 #[.pointer (some ⟨c, 0, none⟩), .int .i64 (d + 1)] W fun r w' => ∃ (k : Int) (A : Option Addr) (n q : Nat) (A' : Option Addr) (n' q' : Nat), r = .returned (.agg #[.int .i64 k, .slice A n q, .slice A' n' q']) ∧ Pb c 67 s y (-1) W w' ∧ TyR f w' (fun b => W.heap.size ≤ b) t [.int .i64 k, .slice A n q, .slice A' n' q'] from fun W h => (HON.out W j hjs h).mono fun r w' ⟨k, A, n, q, A', n', q', h1, h2, h3⟩ => ⟨k, A, n, q, A', n', q', h1, h2.ok hr, h3 _ _ hr⟩)
      clear hk hr
      go_enter Try.func59, Try.ntmps59
      go_wp2_with (first | (go_at_call 57; refine (HID.out _ HSA.out.box).mono ?_; rintro r w1 ⟨rfl, hq1⟩; have HQ1 := hide (HSA.out.trans hq1); have HB1 := hide (hq1.bu.keep _ _ HBX.out (by omega)); have c1 := HQ1.out.c1; have c2 := HQ1.out.c2; have hz1 := HQ1.out.size; have hl1 : w.heap.size < w1.heap.size := lt_of_block HB1.out; clear hq1) | (go_at_call 34; refine (HKG.out _ HQ1.out.box).mono ?_; rintro r w2 ⟨rfl, hq2⟩; have HQ2 := hide (HQ1.out.trans hq2); have HB2 := hide (hq2.bu.keep _ _ HB1.out (by omega)); have hz2 := HQ2.out.size; have hl2 : w.heap.size < w2.heap.size := lt_of_block HB2.out; have c2 := HQ2.out.c2; clear hq2) | (go_at_call 59; refine (HOC.out _ HQ2.out.box).mono ?_; rintro r w3 ⟨k3, A3, n3, q3, A4, n4, q4, rfl, hq3, hty⟩; have HTR := hide hty; have hz3 := hq3.size; have HQ3 := hide ((HQ2.out.trans hq3).alloc (.cells #[.int .i64 k3, .slice A3 n3 q3, .slice A4 n4 q4] 52)); have HB3 := hide (block_below (hq3.bu.keep _ _ HB2.out (by omega)) ((Below.refl _ _).alloc (Nat.le_refl _) (.cells #[.int .i64 k3, .slice A3 n3 q3, .slice A4 n4 q4] 52))); have z0 : (w3.alloc (.cells #[.int .i64 k3, .slice A3 n3 q3, .slice A4 n4 q4] 52)).cell? ⟨w.heap.size, 0, none⟩ = some (.int .i64 0) := (block_cell HB3.out 0).trans rfl; have zf0 : (w3.alloc (.cells #[.int .i64 k3, .slice A3 n3 q3, .slice A4 n4 q4] 52)).frozen? ⟨w.heap.size, 0, none⟩ = false := block_free HB3.out 0; have z1 : (w3.alloc (.cells #[.int .i64 k3, .slice A3 n3 q3, .slice A4 n4 q4] 52)).cell? ⟨w.heap.size, 1, none⟩ = some (.slice none 0 0) := (block_cell HB3.out 1).trans rfl; have zf1 : (w3.alloc (.cells #[.int .i64 k3, .slice A3 n3 q3, .slice A4 n4 q4] 52)).frozen? ⟨w.heap.size, 1, none⟩ = false := block_free HB3.out 1; have z2 : (w3.alloc (.cells #[.int .i64 k3, .slice A3 n3 q3, .slice A4 n4 q4] 52)).cell? ⟨w.heap.size, 2, none⟩ = some (.slice none 0 0) := (block_cell HB3.out 2).trans rfl; have zf2 : (w3.alloc (.cells #[.int .i64 k3, .slice A3 n3 q3, .slice A4 n4 q4] 52)).frozen? ⟨w.heap.size, 2, none⟩ = false := block_free HB3.out 2; clear hq3 hty))
      have hb3 := block_set (block_set (block_set HB3.out (i := 0) (.int .i64 2)) (i := 1) (.slice none 0 0)) (i := 2) (.slice (some ⟨w3.heap.size, 0, none⟩) 1 1)
      have hqz := ((HQ3.out.other (b := w.heap.size) (j := 0) (Nat.le_refl _) hcw (.int .i64 2)).other (b := w.heap.size) (j := 1) (Nat.le_refl _) hcw (.slice none 0 0)).other (b := w.heap.size) (j := 2) (Nat.le_refl _) hcw (.slice (some ⟨w3.heap.size, 0, none⟩) 1 1)
      have hst := stay_set3 (w3.alloc (.cells #[.int .i64 k3, .slice A3 n3 q3, .slice A4 n4 q4] 52)) w.heap.size (.int .i64 2) (.slice none 0 0) (.slice (some ⟨w3.heap.size, 0, none⟩) 1 1)
      generalize ((((w3.alloc (.cells #[.int .i64 k3, .slice A3 n3 q3, .slice A4 n4 q4] 52)).setCell ⟨w.heap.size, 0, none⟩ (.int .i64 2)).setCell ⟨w.heap.size, 1, none⟩ (.slice none 0 0)).setCell ⟨w.heap.size, 2, none⟩ (.slice (some ⟨w3.heap.size, 0, none⟩) 1 1)) = wf at hb3 hqz hst ⊢
      have r0 : wf.cell? ⟨w.heap.size, 0, none⟩ = some (.int .i64 2) := (block_cell hb3 0).trans rfl
      have r1 : wf.cell? ⟨w.heap.size, 1, none⟩ = some (.slice none 0 0) := (block_cell hb3 1).trans rfl
      have r2 : wf.cell? ⟨w.heap.size, 2, none⟩ = some (.slice (some ⟨w3.heap.size, 0, none⟩) 1 1) := (block_cell hb3 2).trans rfl
      refine bodyPost_ret (by simp [results, Try.results59, go_sem, r0, r1, r2]; try rfl) rfl ?_
      exact ⟨_, _, _, _, _, _, _, rfl, After.of_ok HE2.out hqz, fun j t h => by rw [HE2.out] at h; cases h; exact ref_new HTR.out hst hl2 hz3⟩
set_option maxRecDepth 100000 in
set_option maxHeartbeats 8000000 in
theorem rOne_list {f : Nat} (H : rOneOk f) (HT : rTysOk f) (HPA : rPartsOk f) (c : Nat) (s : ByteArray) (i m : Nat) (x : ByteArray) (d : Int) (w : World) (hs : s.size ≤ 8000) (hi : i ≤ s.size) (hd : d = 12 - ((f + 1 : Nat) : Int)) (hf : f + 1 ≤ 12) (hid : idL s i ≠ 0)
    (hx : s.extract i (i + idL s i) = x) (hm : i + idL s i = m) (hms : m ≤ s.size) (h1 : x = listS) (h : w.heap[c]? = some (.cells #[.string s, .int .i64 i, .int .i64 (-1)] 67 (0, 0))) :
  Calls Try.prog 59 #[.pointer (some ⟨c, 0, none⟩), .int .i64 d] w fun e w' => ∃ (k : Int) (A : Option Addr) (n q : Nat) (A' : Option Addr) (n' q' : Nat), e = .returned (.agg #[.int .i64 k, .slice A n q, .slice A' n' q']) ∧
    After c 67 s w (pOne s (f + 1) i) w' ∧ ∀ j t, pOne s (f + 1) i = .ok j t → TyR (f + 1) w' (fun b => w.heap.size ≤ b) t [.int .i64 k, .slice A n q, .slice A' n' q'] := by
  have HSA := hide ((Pb.start h).alloc (.cells #[.int .i64 0, .slice none 0 0, .slice none 0 0] 52))
  have HBX := hide (heap_alloc_new w (.cells #[.int .i64 0, .slice none 0 0, .slice none 0 0] 52))
  have hcw := lt_of_block h
  have hlw : w.heap.size < (w.alloc (.cells #[.int .i64 0, .slice none 0 0, .slice none 0 0] 52)).heap.size := by simp
  have HID := hide (show ∀ W, W.heap[c]? = some (.cells #[.string s, .int .i64 i, .int .i64 (-1)] 67 (0, 0)) → Calls Try.prog 57 #[.pointer (some ⟨c, 0, none⟩)] W fun e w' => e = .returned (.string x) ∧ Pb c 67 s m (-1) W w' from fun W h => by have h1 := rWord_on c s i W hs hi h; rw [idWr, if_neg hid, hx, hm] at h1; exact h1)
  have hd0 : 0 ≤ d := by omega
  have hd12 : decide (12 ≤ d) = false := by simp; omega
  have hd11 : d ≤ 11 := by omega
  have HON := hide (fun W j hj h => H c s j (d + 1) W hs hj (by omega) h)
  have HTY := hide (fun W j hj h => HT c s j (d + 1) W hs hj (by omega) h)
  have HPT := hide (fun W x j hx hj h => HPA c s x j (d + 1) W hs hx hj (by omega) h)
  have c1 : (w.alloc (.cells #[.int .i64 0, .slice none 0 0, .slice none 0 0] 52)).cell? ⟨c, 1, none⟩ = some (.int .i64 i) := HSA.out.c1
  have HE := hide (pOne_list (f := f) hid (by rw [hx, h1]; decide) (by rw [hx]; exact h1))
  rw [hm] at HE
  unfold pRef at HE
  have hxl : x = ⟨#[108, 105, 115, 116]⟩ := h1
  subst hxl
  clear h h1 hid hx hm H HT HPA hd
  cases hk : needB s [32] m with
  | bad e =>
    have HE2 := hide (show pOne s (f + 1) i = .bad e by rw [HE.out, hk]; rfl)
    have HKB := hide (show ∀ W, W.heap[c]? = some (.cells #[.string s, .int .i64 m, .int .i64 (-1)] 67 (0, 0)) → Calls Try.prog 34 #[.pointer (some ⟨c, 0, none⟩), .string ⟨#[32]⟩] W fun r w' => r = .returned (.tuple #[]) ∧ ∃ i : Nat, i ≤ s.size ∧ Pb c 67 s i (e : Nat) W w' from fun W h => (rNeed_on c s 32 m W hs hms h).mono fun r w' ⟨h1, h2⟩ => ⟨h1, h2.bad hk⟩)
    clear hk
    have hoff : decide (((e : Nat) : Int) < 0) = false := by simp
    go_enter Try.func59, Try.ntmps59
    go_wp2_with (first | (go_at_call 57; refine (HID.out _ HSA.out.box).mono ?_; rintro r w1 ⟨rfl, hq1⟩; have HQ1 := hide (HSA.out.trans hq1); have HB1 := hide (hq1.bu.keep _ _ HBX.out (by omega)); have c1 := HQ1.out.c1; have c2 := HQ1.out.c2; have hz1 := HQ1.out.size; have hl1 : w.heap.size < w1.heap.size := lt_of_block HB1.out; clear hq1) | (go_at_call 34; refine (HKB.out _ HQ1.out.box).mono ?_; rintro r w2 ⟨rfl, y, hy, hq2⟩; have HQ2 := hide (HQ1.out.trans hq2); have HB2 := hide (hq2.bu.keep _ _ HB1.out (by omega)); have hz2 := HQ2.out.size; have hl2 : w.heap.size < w2.heap.size := lt_of_block HB2.out; have c2 := HQ2.out.c2; have z0 : w2.cell? ⟨w.heap.size, 0, none⟩ = some (.int .i64 0) := (block_cell HB2.out 0).trans rfl; have zf0 : w2.frozen? ⟨w.heap.size, 0, none⟩ = false := block_free HB2.out 0; have z1 : w2.cell? ⟨w.heap.size, 1, none⟩ = some (.slice none 0 0) := (block_cell HB2.out 1).trans rfl; have zf1 : w2.frozen? ⟨w.heap.size, 1, none⟩ = false := block_free HB2.out 1; have z2 : w2.cell? ⟨w.heap.size, 2, none⟩ = some (.slice none 0 0) := (block_cell HB2.out 2).trans rfl; have zf2 : w2.frozen? ⟨w.heap.size, 2, none⟩ = false := block_free HB2.out 2; clear hq2))
    have hb3 := block_set (block_set (block_set HB2.out (i := 0) (.int .i64 0)) (i := 1) (.slice none 0 0)) (i := 2) (.slice none 0 0)
    have hqz := ((HQ2.out.other (b := w.heap.size) (j := 0) (Nat.le_refl _) hcw (.int .i64 0)).other (b := w.heap.size) (j := 1) (Nat.le_refl _) hcw (.slice none 0 0)).other (b := w.heap.size) (j := 2) (Nat.le_refl _) hcw (.slice none 0 0)
    have hst := stay_set3 w2 w.heap.size (.int .i64 0) (.slice none 0 0) (.slice none 0 0)
    generalize (((w2.setCell ⟨w.heap.size, 0, none⟩ (.int .i64 0)).setCell ⟨w.heap.size, 1, none⟩ (.slice none 0 0)).setCell ⟨w.heap.size, 2, none⟩ (.slice none 0 0)) = wf at hb3 hqz hst ⊢
    have r0 : wf.cell? ⟨w.heap.size, 0, none⟩ = some (.int .i64 0) := (block_cell hb3 0).trans rfl
    have r1 : wf.cell? ⟨w.heap.size, 1, none⟩ = some (.slice none 0 0) := (block_cell hb3 1).trans rfl
    have r2 : wf.cell? ⟨w.heap.size, 2, none⟩ = some (.slice none 0 0) := (block_cell hb3 2).trans rfl
    refine bodyPost_ret (by simp [results, Try.results59, go_sem, r0, r1, r2]; try rfl) rfl ?_
    exact ⟨_, _, _, _, _, _, _, rfl, After.of_bad HE2.out hy hqz, fun j t h => by rw [HE2.out] at h; cases h⟩
  | ok j u =>
    have hjs := (needB_ok s [32] m j u hms hk).2
    have HKG := hide (show ∀ W, W.heap[c]? = some (.cells #[.string s, .int .i64 m, .int .i64 (-1)] 67 (0, 0)) → Calls Try.prog 34 #[.pointer (some ⟨c, 0, none⟩), .string ⟨#[32]⟩] W fun r w' => r = .returned (.tuple #[]) ∧ Pb c 67 s j (-1) W w' from fun W h => (rNeed_on c s 32 m W hs hms h).mono fun r w' ⟨h1, h2⟩ => ⟨h1, h2.ok hk⟩)
    cases hr : pOne s f j with
    | bad e =>
      have HE2 := hide (show pOne s (f + 1) i = .bad e by rw [HE.out, hk]; simp only [Res.bind]; rw [hr])
      have HOC := hide (show ∀ W, W.heap[c]? = some (.cells #[.string s, .int .i64 j, .int .i64 (-1)] 67 (0, 0)) → Calls Try.prog 59 #[.pointer (some ⟨c, 0, none⟩), .int .i64 (d + 1)] W fun r w' => ∃ (k : Int) (A : Option Addr) (n q : Nat) (A' : Option Addr) (n' q' : Nat), r = .returned (.agg #[.int .i64 k, .slice A n q, .slice A' n' q']) ∧ ∃ i : Nat, i ≤ s.size ∧ Pb c 67 s i (e : Nat) W w' from fun W h => (HON.out W j hjs h).mono fun r w' ⟨k, A, n, q, A', n', q', h1, h2, _⟩ => ⟨k, A, n, q, A', n', q', h1, h2.bad hr⟩)
      clear hk hr
      go_enter Try.func59, Try.ntmps59
      go_wp2_with (first | (go_at_call 57; refine (HID.out _ HSA.out.box).mono ?_; rintro r w1 ⟨rfl, hq1⟩; have HQ1 := hide (HSA.out.trans hq1); have HB1 := hide (hq1.bu.keep _ _ HBX.out (by omega)); have c1 := HQ1.out.c1; have c2 := HQ1.out.c2; have hz1 := HQ1.out.size; have hl1 : w.heap.size < w1.heap.size := lt_of_block HB1.out; clear hq1) | (go_at_call 34; refine (HKG.out _ HQ1.out.box).mono ?_; rintro r w2 ⟨rfl, hq2⟩; have HQ2 := hide (HQ1.out.trans hq2); have HB2 := hide (hq2.bu.keep _ _ HB1.out (by omega)); have hz2 := HQ2.out.size; have hl2 : w.heap.size < w2.heap.size := lt_of_block HB2.out; have c2 := HQ2.out.c2; clear hq2) | (go_at_call 59; refine (HOC.out _ HQ2.out.box).mono ?_; rintro r w3 ⟨k3, A3, n3, q3, A4, n4, q4, rfl, y, hy, hq3⟩; have HQ3 := hide ((HQ2.out.trans hq3).alloc (.cells #[.int .i64 k3, .slice A3 n3 q3, .slice A4 n4 q4] 52)); have HB3 := hide (block_below (hq3.bu.keep _ _ HB2.out (by omega)) ((Below.refl _ _).alloc (Nat.le_refl _) (.cells #[.int .i64 k3, .slice A3 n3 q3, .slice A4 n4 q4] 52))); have z0 : (w3.alloc (.cells #[.int .i64 k3, .slice A3 n3 q3, .slice A4 n4 q4] 52)).cell? ⟨w.heap.size, 0, none⟩ = some (.int .i64 0) := (block_cell HB3.out 0).trans rfl; have zf0 : (w3.alloc (.cells #[.int .i64 k3, .slice A3 n3 q3, .slice A4 n4 q4] 52)).frozen? ⟨w.heap.size, 0, none⟩ = false := block_free HB3.out 0; have z1 : (w3.alloc (.cells #[.int .i64 k3, .slice A3 n3 q3, .slice A4 n4 q4] 52)).cell? ⟨w.heap.size, 1, none⟩ = some (.slice none 0 0) := (block_cell HB3.out 1).trans rfl; have zf1 : (w3.alloc (.cells #[.int .i64 k3, .slice A3 n3 q3, .slice A4 n4 q4] 52)).frozen? ⟨w.heap.size, 1, none⟩ = false := block_free HB3.out 1; have z2 : (w3.alloc (.cells #[.int .i64 k3, .slice A3 n3 q3, .slice A4 n4 q4] 52)).cell? ⟨w.heap.size, 2, none⟩ = some (.slice none 0 0) := (block_cell HB3.out 2).trans rfl; have zf2 : (w3.alloc (.cells #[.int .i64 k3, .slice A3 n3 q3, .slice A4 n4 q4] 52)).frozen? ⟨w.heap.size, 2, none⟩ = false := block_free HB3.out 2; clear hq3))
      have hb3 := block_set (block_set (block_set HB3.out (i := 0) (.int .i64 3)) (i := 1) (.slice none 0 0)) (i := 2) (.slice (some ⟨w3.heap.size, 0, none⟩) 1 1)
      have hqz := ((HQ3.out.other (b := w.heap.size) (j := 0) (Nat.le_refl _) hcw (.int .i64 3)).other (b := w.heap.size) (j := 1) (Nat.le_refl _) hcw (.slice none 0 0)).other (b := w.heap.size) (j := 2) (Nat.le_refl _) hcw (.slice (some ⟨w3.heap.size, 0, none⟩) 1 1)
      have hst := stay_set3 (w3.alloc (.cells #[.int .i64 k3, .slice A3 n3 q3, .slice A4 n4 q4] 52)) w.heap.size (.int .i64 3) (.slice none 0 0) (.slice (some ⟨w3.heap.size, 0, none⟩) 1 1)
      generalize ((((w3.alloc (.cells #[.int .i64 k3, .slice A3 n3 q3, .slice A4 n4 q4] 52)).setCell ⟨w.heap.size, 0, none⟩ (.int .i64 3)).setCell ⟨w.heap.size, 1, none⟩ (.slice none 0 0)).setCell ⟨w.heap.size, 2, none⟩ (.slice (some ⟨w3.heap.size, 0, none⟩) 1 1)) = wf at hb3 hqz hst ⊢
      have r0 : wf.cell? ⟨w.heap.size, 0, none⟩ = some (.int .i64 3) := (block_cell hb3 0).trans rfl
      have r1 : wf.cell? ⟨w.heap.size, 1, none⟩ = some (.slice none 0 0) := (block_cell hb3 1).trans rfl
      have r2 : wf.cell? ⟨w.heap.size, 2, none⟩ = some (.slice (some ⟨w3.heap.size, 0, none⟩) 1 1) := (block_cell hb3 2).trans rfl
      refine bodyPost_ret (by simp [results, Try.results59, go_sem, r0, r1, r2]; try rfl) rfl ?_
      exact ⟨_, _, _, _, _, _, _, rfl, After.of_bad HE2.out hy hqz, fun j t h => by rw [HE2.out] at h; cases h⟩
    | ok y t =>
      have HE2 := hide (show pOne s (f + 1) i = .ok y (Ty.mk 3 [] [t]) by rw [HE.out, hk]; simp only [Res.bind]; rw [hr])
      have HOC := hide (show ∀ W, W.heap[c]? = some (.cells #[.string s, .int .i64 j, .int .i64 (-1)] 67 (0, 0)) → Calls Try.prog 59 #[.pointer (some ⟨c, 0, none⟩), .int .i64 (d + 1)] W fun r w' => ∃ (k : Int) (A : Option Addr) (n q : Nat) (A' : Option Addr) (n' q' : Nat), r = .returned (.agg #[.int .i64 k, .slice A n q, .slice A' n' q']) ∧ Pb c 67 s y (-1) W w' ∧ TyR f w' (fun b => W.heap.size ≤ b) t [.int .i64 k, .slice A n q, .slice A' n' q'] from fun W h => (HON.out W j hjs h).mono fun r w' ⟨k, A, n, q, A', n', q', h1, h2, h3⟩ => ⟨k, A, n, q, A', n', q', h1, h2.ok hr, h3 _ _ hr⟩)
      clear hk hr
      go_enter Try.func59, Try.ntmps59
      go_wp2_with (first | (go_at_call 57; refine (HID.out _ HSA.out.box).mono ?_; rintro r w1 ⟨rfl, hq1⟩; have HQ1 := hide (HSA.out.trans hq1); have HB1 := hide (hq1.bu.keep _ _ HBX.out (by omega)); have c1 := HQ1.out.c1; have c2 := HQ1.out.c2; have hz1 := HQ1.out.size; have hl1 : w.heap.size < w1.heap.size := lt_of_block HB1.out; clear hq1) | (go_at_call 34; refine (HKG.out _ HQ1.out.box).mono ?_; rintro r w2 ⟨rfl, hq2⟩; have HQ2 := hide (HQ1.out.trans hq2); have HB2 := hide (hq2.bu.keep _ _ HB1.out (by omega)); have hz2 := HQ2.out.size; have hl2 : w.heap.size < w2.heap.size := lt_of_block HB2.out; have c2 := HQ2.out.c2; clear hq2) | (go_at_call 59; refine (HOC.out _ HQ2.out.box).mono ?_; rintro r w3 ⟨k3, A3, n3, q3, A4, n4, q4, rfl, hq3, hty⟩; have HTR := hide hty; have hz3 := hq3.size; have HQ3 := hide ((HQ2.out.trans hq3).alloc (.cells #[.int .i64 k3, .slice A3 n3 q3, .slice A4 n4 q4] 52)); have HB3 := hide (block_below (hq3.bu.keep _ _ HB2.out (by omega)) ((Below.refl _ _).alloc (Nat.le_refl _) (.cells #[.int .i64 k3, .slice A3 n3 q3, .slice A4 n4 q4] 52))); have z0 : (w3.alloc (.cells #[.int .i64 k3, .slice A3 n3 q3, .slice A4 n4 q4] 52)).cell? ⟨w.heap.size, 0, none⟩ = some (.int .i64 0) := (block_cell HB3.out 0).trans rfl; have zf0 : (w3.alloc (.cells #[.int .i64 k3, .slice A3 n3 q3, .slice A4 n4 q4] 52)).frozen? ⟨w.heap.size, 0, none⟩ = false := block_free HB3.out 0; have z1 : (w3.alloc (.cells #[.int .i64 k3, .slice A3 n3 q3, .slice A4 n4 q4] 52)).cell? ⟨w.heap.size, 1, none⟩ = some (.slice none 0 0) := (block_cell HB3.out 1).trans rfl; have zf1 : (w3.alloc (.cells #[.int .i64 k3, .slice A3 n3 q3, .slice A4 n4 q4] 52)).frozen? ⟨w.heap.size, 1, none⟩ = false := block_free HB3.out 1; have z2 : (w3.alloc (.cells #[.int .i64 k3, .slice A3 n3 q3, .slice A4 n4 q4] 52)).cell? ⟨w.heap.size, 2, none⟩ = some (.slice none 0 0) := (block_cell HB3.out 2).trans rfl; have zf2 : (w3.alloc (.cells #[.int .i64 k3, .slice A3 n3 q3, .slice A4 n4 q4] 52)).frozen? ⟨w.heap.size, 2, none⟩ = false := block_free HB3.out 2; clear hq3 hty))
      have hb3 := block_set (block_set (block_set HB3.out (i := 0) (.int .i64 3)) (i := 1) (.slice none 0 0)) (i := 2) (.slice (some ⟨w3.heap.size, 0, none⟩) 1 1)
      have hqz := ((HQ3.out.other (b := w.heap.size) (j := 0) (Nat.le_refl _) hcw (.int .i64 3)).other (b := w.heap.size) (j := 1) (Nat.le_refl _) hcw (.slice none 0 0)).other (b := w.heap.size) (j := 2) (Nat.le_refl _) hcw (.slice (some ⟨w3.heap.size, 0, none⟩) 1 1)
      have hst := stay_set3 (w3.alloc (.cells #[.int .i64 k3, .slice A3 n3 q3, .slice A4 n4 q4] 52)) w.heap.size (.int .i64 3) (.slice none 0 0) (.slice (some ⟨w3.heap.size, 0, none⟩) 1 1)
      generalize ((((w3.alloc (.cells #[.int .i64 k3, .slice A3 n3 q3, .slice A4 n4 q4] 52)).setCell ⟨w.heap.size, 0, none⟩ (.int .i64 3)).setCell ⟨w.heap.size, 1, none⟩ (.slice none 0 0)).setCell ⟨w.heap.size, 2, none⟩ (.slice (some ⟨w3.heap.size, 0, none⟩) 1 1)) = wf at hb3 hqz hst ⊢
      have r0 : wf.cell? ⟨w.heap.size, 0, none⟩ = some (.int .i64 3) := (block_cell hb3 0).trans rfl
      have r1 : wf.cell? ⟨w.heap.size, 1, none⟩ = some (.slice none 0 0) := (block_cell hb3 1).trans rfl
      have r2 : wf.cell? ⟨w.heap.size, 2, none⟩ = some (.slice (some ⟨w3.heap.size, 0, none⟩) 1 1) := (block_cell hb3 2).trans rfl
      refine bodyPost_ret (by simp [results, Try.results59, go_sem, r0, r1, r2]; try rfl) rfl ?_
      exact ⟨_, _, _, _, _, _, _, rfl, After.of_ok HE2.out hqz, fun j t h => by rw [HE2.out] at h; cases h; exact ref_new HTR.out hst hl2 hz3⟩
set_option maxRecDepth 100000 in
set_option maxHeartbeats 8000000 in
theorem nOne_zero (c : Nat) (s : ByteArray) (i m : Nat) (x : ByteArray) (w : World) (hs : s.size ≤ 8000) (hi : i ≤ s.size) (hid : idL s i ≠ 0) (hx : s.extract i (i + idL s i) = x) (hm : i + idL s i = m) (h : w.heap[c]? = some (.cells #[.string s, .int .i64 i, .int .i64 (-1)] 58 (0, 0))) :
  Calls Try.prog 56 #[.pointer (some ⟨c, 0, none⟩), .int .i64 12] w fun e w' => ∃ (k : Int) (A : Option Addr) (n q : Nat) (A' : Option Addr) (n' q' : Nat), e = .returned (.agg #[.int .i64 k, .slice A n q, .slice A' n' q']) ∧
    After c 58 s w (pOne s 0 i) w' ∧ ∀ j t, pOne s 0 i = .ok j t → TyR (0) w' (fun b => w.heap.size ≤ b) t [.int .i64 k, .slice A n q, .slice A' n' q'] := by
  have HSA := hide ((Pb.start h).alloc (.cells #[.int .i64 0, .slice none 0 0, .slice none 0 0] 52))
  have HBX := hide (heap_alloc_new w (.cells #[.int .i64 0, .slice none 0 0, .slice none 0 0] 52))
  have hcw := lt_of_block h
  have hlw : w.heap.size < (w.alloc (.cells #[.int .i64 0, .slice none 0 0, .slice none 0 0] 52)).heap.size := by simp
  have HID := hide (show ∀ W, W.heap[c]? = some (.cells #[.string s, .int .i64 i, .int .i64 (-1)] 58 (0, 0)) → Calls Try.prog 28 #[.pointer (some ⟨c, 0, none⟩)] W fun e w' => e = .returned (.string x) ∧ Pb c 58 s m (-1) W w' from fun W h => by have h1 := nIdent_on c s i W hs hi h; rw [idWr, if_neg hid, hx, hm] at h1; exact h1)
  have c1 : (w.alloc (.cells #[.int .i64 0, .slice none 0 0, .slice none 0 0] 52)).cell? ⟨c, 1, none⟩ = some (.int .i64 i) := HSA.out.c1
  have hoff : decide (((i : Nat) : Int) < 0) = false := by simp
  have HF := hide (fun W h => nFail_new c s m i W h)
  have HE2 := hide (show pOne s 0 i = .bad i from rfl)
  have hms : m ≤ s.size := by rw [← hm]; exact idL_le s i hi
  clear h hid hx hm
  go_enter Try.func56, Try.ntmps56
  go_wp2_with (first | (go_at_call 28; refine (HID.out _ HSA.out.box).mono ?_; rintro r w1 ⟨rfl, hq1⟩; have HQ1 := hide (HSA.out.trans hq1); have HB1 := hide (hq1.bu.keep _ _ HBX.out (by omega)); have c1 := HQ1.out.c1; have c2 := HQ1.out.c2; have hz1 := HQ1.out.size; have hl1 : w.heap.size < w1.heap.size := lt_of_block HB1.out; clear hq1) | (go_at_call 32; ((with_reducible refine (HF.out _ HQ1.out.box).mono ?_)); rintro r wf0 ⟨rfl, hqf⟩; have HQ2 := hide (HQ1.out.trans hqf); have HB2 := hide (hqf.bu.keep _ _ HB1.out (by omega)); have hl2 : w.heap.size < wf0.heap.size := lt_of_block HB2.out; have c2 := HQ2.out.c2; have z0 : wf0.cell? ⟨w.heap.size, 0, none⟩ = some (.int .i64 0) := (block_cell HB2.out 0).trans rfl; have zf0 : wf0.frozen? ⟨w.heap.size, 0, none⟩ = false := block_free HB2.out 0; have z1 : wf0.cell? ⟨w.heap.size, 1, none⟩ = some (.slice none 0 0) := (block_cell HB2.out 1).trans rfl; have zf1 : wf0.frozen? ⟨w.heap.size, 1, none⟩ = false := block_free HB2.out 1; have z2 : wf0.cell? ⟨w.heap.size, 2, none⟩ = some (.slice none 0 0) := (block_cell HB2.out 2).trans rfl; have zf2 : wf0.frozen? ⟨w.heap.size, 2, none⟩ = false := block_free HB2.out 2; clear hqf))
  have hb3 := block_set (block_set (block_set HB2.out (i := 0) (.int .i64 0)) (i := 1) (.slice none 0 0)) (i := 2) (.slice none 0 0)
  have hqz := ((HQ2.out.other (b := w.heap.size) (j := 0) (Nat.le_refl _) hcw (.int .i64 0)).other (b := w.heap.size) (j := 1) (Nat.le_refl _) hcw (.slice none 0 0)).other (b := w.heap.size) (j := 2) (Nat.le_refl _) hcw (.slice none 0 0)
  have hst := stay_set3 wf0 w.heap.size (.int .i64 0) (.slice none 0 0) (.slice none 0 0)
  generalize (((wf0.setCell ⟨w.heap.size, 0, none⟩ (.int .i64 0)).setCell ⟨w.heap.size, 1, none⟩ (.slice none 0 0)).setCell ⟨w.heap.size, 2, none⟩ (.slice none 0 0)) = wf at hb3 hqz hst ⊢
  have r0 : wf.cell? ⟨w.heap.size, 0, none⟩ = some (.int .i64 0) := (block_cell hb3 0).trans rfl
  have r1 : wf.cell? ⟨w.heap.size, 1, none⟩ = some (.slice none 0 0) := (block_cell hb3 1).trans rfl
  have r2 : wf.cell? ⟨w.heap.size, 2, none⟩ = some (.slice none 0 0) := (block_cell hb3 2).trans rfl
  refine bodyPost_ret (by simp [results, Try.results56, go_sem, r0, r1, r2]; try rfl) rfl ?_
  exact ⟨_, _, _, _, _, _, _, rfl, After.of_bad HE2.out hms hqz, fun j t h => by rw [HE2.out] at h; cases h⟩
set_option maxRecDepth 100000 in
set_option maxHeartbeats 8000000 in
theorem rOne_zero_plain (c : Nat) (s : ByteArray) (i m : Nat) (x : ByteArray) (w : World) (hs : s.size ≤ 8000) (hi : i ≤ s.size) (hid : idL s i ≠ 0) (hx : s.extract i (i + idL s i) = x) (hm : i + idL s i = m) (h1 : x ≠ refS) (h2 : x ≠ listS) (h3 : x ≠ funcS) (h : w.heap[c]? = some (.cells #[.string s, .int .i64 i, .int .i64 (-1)] 67 (0, 0))) :
  Calls Try.prog 59 #[.pointer (some ⟨c, 0, none⟩), .int .i64 12] w fun e w' => ∃ (k : Int) (A : Option Addr) (n q : Nat) (A' : Option Addr) (n' q' : Nat), e = .returned (.agg #[.int .i64 k, .slice A n q, .slice A' n' q']) ∧
    After c 67 s w (pOne s 0 i) w' ∧ ∀ j t, pOne s 0 i = .ok j t → TyR (0) w' (fun b => w.heap.size ≤ b) t [.int .i64 k, .slice A n q, .slice A' n' q'] := by
  have HSA := hide ((Pb.start h).alloc (.cells #[.int .i64 0, .slice none 0 0, .slice none 0 0] 52))
  have HBX := hide (heap_alloc_new w (.cells #[.int .i64 0, .slice none 0 0, .slice none 0 0] 52))
  have hcw := lt_of_block h
  have hlw : w.heap.size < (w.alloc (.cells #[.int .i64 0, .slice none 0 0, .slice none 0 0] 52)).heap.size := by simp
  have HID := hide (show ∀ W, W.heap[c]? = some (.cells #[.string s, .int .i64 i, .int .i64 (-1)] 67 (0, 0)) → Calls Try.prog 57 #[.pointer (some ⟨c, 0, none⟩)] W fun e w' => e = .returned (.string x) ∧ Pb c 67 s m (-1) W w' from fun W h => by have h1 := rWord_on c s i W hs hi h; rw [idWr, if_neg hid, hx, hm] at h1; exact h1)
  have c1 : (w.alloc (.cells #[.int .i64 0, .slice none 0 0, .slice none 0 0] 52)).cell? ⟨c, 1, none⟩ = some (.int .i64 i) := HSA.out.c1
  have hoff : decide (((i : Nat) : Int) < 0) = false := by simp
  have HF := hide (fun W h => rFail_new c s m i W h)
  have HE2 := hide (show pOne s 0 i = .bad i from rfl)
  have hms : m ≤ s.size := by rw [← hm]; exact idL_le s i hi
  obtain ⟨w0a, w0b⟩ := str_no (b := #[114, 101, 102]) h1
  have e0a : ¬ x.toList = [114, 101, 102] := w0a
  have e0b : (x.toList == [114, 101, 102]) = false := w0b
  clear w0a w0b
  obtain ⟨w1a, w1b⟩ := str_no (b := #[108, 105, 115, 116]) h2
  have e1a : ¬ x.toList = [108, 105, 115, 116] := w1a
  have e1b : (x.toList == [108, 105, 115, 116]) = false := w1b
  clear w1a w1b
  obtain ⟨w2a, w2b⟩ := str_no (b := #[102, 117, 110, 99]) h3
  have e2a : ¬ x.toList = [102, 117, 110, 99] := w2a
  have e2b : (x.toList == [102, 117, 110, 99]) = false := w2b
  clear w2a w2b
  clear h hid hx hm h1 h2 h3
  go_enter Try.func59, Try.ntmps59
  go_wp2_with (first | (go_at_call 57; refine (HID.out _ HSA.out.box).mono ?_; rintro r w1 ⟨rfl, hq1⟩; have HQ1 := hide (HSA.out.trans hq1); have HB1 := hide (hq1.bu.keep _ _ HBX.out (by omega)); have c1 := HQ1.out.c1; have c2 := HQ1.out.c2; have hz1 := HQ1.out.size; have hl1 : w.heap.size < w1.heap.size := lt_of_block HB1.out; clear hq1) | (go_at_call 37; ((with_reducible refine (HF.out _ HQ1.out.box).mono ?_)); rintro r wf0 ⟨rfl, hqf⟩; have HQ2 := hide (HQ1.out.trans hqf); have HB2 := hide (hqf.bu.keep _ _ HB1.out (by omega)); have hl2 : w.heap.size < wf0.heap.size := lt_of_block HB2.out; have c2 := HQ2.out.c2; have z0 : wf0.cell? ⟨w.heap.size, 0, none⟩ = some (.int .i64 0) := (block_cell HB2.out 0).trans rfl; have zf0 : wf0.frozen? ⟨w.heap.size, 0, none⟩ = false := block_free HB2.out 0; have z1 : wf0.cell? ⟨w.heap.size, 1, none⟩ = some (.slice none 0 0) := (block_cell HB2.out 1).trans rfl; have zf1 : wf0.frozen? ⟨w.heap.size, 1, none⟩ = false := block_free HB2.out 1; have z2 : wf0.cell? ⟨w.heap.size, 2, none⟩ = some (.slice none 0 0) := (block_cell HB2.out 2).trans rfl; have zf2 : wf0.frozen? ⟨w.heap.size, 2, none⟩ = false := block_free HB2.out 2; clear hqf))
  have hb3 := block_set (block_set (block_set HB2.out (i := 0) (.int .i64 0)) (i := 1) (.slice none 0 0)) (i := 2) (.slice none 0 0)
  have hqz := ((HQ2.out.other (b := w.heap.size) (j := 0) (Nat.le_refl _) hcw (.int .i64 0)).other (b := w.heap.size) (j := 1) (Nat.le_refl _) hcw (.slice none 0 0)).other (b := w.heap.size) (j := 2) (Nat.le_refl _) hcw (.slice none 0 0)
  have hst := stay_set3 wf0 w.heap.size (.int .i64 0) (.slice none 0 0) (.slice none 0 0)
  generalize (((wf0.setCell ⟨w.heap.size, 0, none⟩ (.int .i64 0)).setCell ⟨w.heap.size, 1, none⟩ (.slice none 0 0)).setCell ⟨w.heap.size, 2, none⟩ (.slice none 0 0)) = wf at hb3 hqz hst ⊢
  have r0 : wf.cell? ⟨w.heap.size, 0, none⟩ = some (.int .i64 0) := (block_cell hb3 0).trans rfl
  have r1 : wf.cell? ⟨w.heap.size, 1, none⟩ = some (.slice none 0 0) := (block_cell hb3 1).trans rfl
  have r2 : wf.cell? ⟨w.heap.size, 2, none⟩ = some (.slice none 0 0) := (block_cell hb3 2).trans rfl
  refine bodyPost_ret (by simp [results, Try.results59, go_sem, r0, r1, r2]; try rfl) rfl ?_
  exact ⟨_, _, _, _, _, _, _, rfl, After.of_bad HE2.out hms hqz, fun j t h => by rw [HE2.out] at h; cases h⟩
set_option maxRecDepth 100000 in
set_option maxHeartbeats 8000000 in
theorem rOne_zero_ref (c : Nat) (s : ByteArray) (i m : Nat) (x : ByteArray) (w : World) (hs : s.size ≤ 8000) (hi : i ≤ s.size) (hid : idL s i ≠ 0) (hx : s.extract i (i + idL s i) = x) (hm : i + idL s i = m) (h1 : x = refS) (h : w.heap[c]? = some (.cells #[.string s, .int .i64 i, .int .i64 (-1)] 67 (0, 0))) :
  Calls Try.prog 59 #[.pointer (some ⟨c, 0, none⟩), .int .i64 12] w fun e w' => ∃ (k : Int) (A : Option Addr) (n q : Nat) (A' : Option Addr) (n' q' : Nat), e = .returned (.agg #[.int .i64 k, .slice A n q, .slice A' n' q']) ∧
    After c 67 s w (pOne s 0 i) w' ∧ ∀ j t, pOne s 0 i = .ok j t → TyR (0) w' (fun b => w.heap.size ≤ b) t [.int .i64 k, .slice A n q, .slice A' n' q'] := by
  have HSA := hide ((Pb.start h).alloc (.cells #[.int .i64 0, .slice none 0 0, .slice none 0 0] 52))
  have HBX := hide (heap_alloc_new w (.cells #[.int .i64 0, .slice none 0 0, .slice none 0 0] 52))
  have hcw := lt_of_block h
  have hlw : w.heap.size < (w.alloc (.cells #[.int .i64 0, .slice none 0 0, .slice none 0 0] 52)).heap.size := by simp
  have HID := hide (show ∀ W, W.heap[c]? = some (.cells #[.string s, .int .i64 i, .int .i64 (-1)] 67 (0, 0)) → Calls Try.prog 57 #[.pointer (some ⟨c, 0, none⟩)] W fun e w' => e = .returned (.string x) ∧ Pb c 67 s m (-1) W w' from fun W h => by have h1 := rWord_on c s i W hs hi h; rw [idWr, if_neg hid, hx, hm] at h1; exact h1)
  have c1 : (w.alloc (.cells #[.int .i64 0, .slice none 0 0, .slice none 0 0] 52)).cell? ⟨c, 1, none⟩ = some (.int .i64 i) := HSA.out.c1
  have hoff : decide (((i : Nat) : Int) < 0) = false := by simp
  have HF := hide (fun W h => rFail_new c s m i W h)
  have HE2 := hide (show pOne s 0 i = .bad i from rfl)
  have hms : m ≤ s.size := by rw [← hm]; exact idL_le s i hi
  have hxl : x = ⟨#[114, 101, 102]⟩ := h1
  subst hxl
  have HKB := hide (show ∀ (yy : Nat) W, W.heap[c]? = some (.cells #[.string s, .int .i64 yy, .int .i64 (i : Nat)] 67 (0, 0)) → Calls Try.prog 34 #[.pointer (some ⟨c, 0, none⟩), .string ⟨#[32]⟩] W fun r w' => r = .returned (.tuple #[]) ∧ Pb c 67 s yy (i : Nat) W w' from fun yy W h => rNeed_off c s 32 yy (i : Nat) W (by omega) h)
  clear h hid hx hm h1
  go_enter Try.func59, Try.ntmps59
  go_wp2_with (first | (go_at_call 57; refine (HID.out _ HSA.out.box).mono ?_; rintro r w1 ⟨rfl, hq1⟩; have HQ1 := hide (HSA.out.trans hq1); have HB1 := hide (hq1.bu.keep _ _ HBX.out (by omega)); have c1 := HQ1.out.c1; have c2 := HQ1.out.c2; have hz1 := HQ1.out.size; have hl1 : w.heap.size < w1.heap.size := lt_of_block HB1.out; clear hq1) | (go_at_call 37; ((with_reducible refine (HF.out _ HQ1.out.box).mono ?_)); rintro r wf0 ⟨rfl, hqf⟩; have HQ2 := hide (HQ1.out.trans hqf); have HB2 := hide (hqf.bu.keep _ _ HB1.out (by omega)); have hl2 : w.heap.size < wf0.heap.size := lt_of_block HB2.out; have c2 := HQ2.out.c2; clear hqf) | (go_at_call 34; ((with_reducible refine (HKB.out _ _ HQ2.out.box).mono ?_)); rintro r w3 ⟨rfl, hq3⟩; have HQ3 := hide (HQ2.out.trans hq3); have HB3 := hide (hq3.bu.keep _ _ HB2.out (by omega)); have c2 := HQ3.out.c2; have z0 : w3.cell? ⟨w.heap.size, 0, none⟩ = some (.int .i64 0) := (block_cell HB3.out 0).trans rfl; have zf0 : w3.frozen? ⟨w.heap.size, 0, none⟩ = false := block_free HB3.out 0; have z1 : w3.cell? ⟨w.heap.size, 1, none⟩ = some (.slice none 0 0) := (block_cell HB3.out 1).trans rfl; have zf1 : w3.frozen? ⟨w.heap.size, 1, none⟩ = false := block_free HB3.out 1; have z2 : w3.cell? ⟨w.heap.size, 2, none⟩ = some (.slice none 0 0) := (block_cell HB3.out 2).trans rfl; have zf2 : w3.frozen? ⟨w.heap.size, 2, none⟩ = false := block_free HB3.out 2; clear hq3))
  have hb3 := block_set (block_set (block_set HB3.out (i := 0) (.int .i64 0)) (i := 1) (.slice none 0 0)) (i := 2) (.slice none 0 0)
  have hqz := ((HQ3.out.other (b := w.heap.size) (j := 0) (Nat.le_refl _) hcw (.int .i64 0)).other (b := w.heap.size) (j := 1) (Nat.le_refl _) hcw (.slice none 0 0)).other (b := w.heap.size) (j := 2) (Nat.le_refl _) hcw (.slice none 0 0)
  have hst := stay_set3 w3 w.heap.size (.int .i64 0) (.slice none 0 0) (.slice none 0 0)
  generalize (((w3.setCell ⟨w.heap.size, 0, none⟩ (.int .i64 0)).setCell ⟨w.heap.size, 1, none⟩ (.slice none 0 0)).setCell ⟨w.heap.size, 2, none⟩ (.slice none 0 0)) = wf at hb3 hqz hst ⊢
  have r0 : wf.cell? ⟨w.heap.size, 0, none⟩ = some (.int .i64 0) := (block_cell hb3 0).trans rfl
  have r1 : wf.cell? ⟨w.heap.size, 1, none⟩ = some (.slice none 0 0) := (block_cell hb3 1).trans rfl
  have r2 : wf.cell? ⟨w.heap.size, 2, none⟩ = some (.slice none 0 0) := (block_cell hb3 2).trans rfl
  refine bodyPost_ret (by simp [results, Try.results59, go_sem, r0, r1, r2]; try rfl) rfl ?_
  exact ⟨_, _, _, _, _, _, _, rfl, After.of_bad HE2.out hms hqz, fun j t h => by rw [HE2.out] at h; cases h⟩
set_option maxRecDepth 100000 in
set_option maxHeartbeats 8000000 in
theorem rOne_zero_list (c : Nat) (s : ByteArray) (i m : Nat) (x : ByteArray) (w : World) (hs : s.size ≤ 8000) (hi : i ≤ s.size) (hid : idL s i ≠ 0) (hx : s.extract i (i + idL s i) = x) (hm : i + idL s i = m) (h1 : x = listS) (h : w.heap[c]? = some (.cells #[.string s, .int .i64 i, .int .i64 (-1)] 67 (0, 0))) :
  Calls Try.prog 59 #[.pointer (some ⟨c, 0, none⟩), .int .i64 12] w fun e w' => ∃ (k : Int) (A : Option Addr) (n q : Nat) (A' : Option Addr) (n' q' : Nat), e = .returned (.agg #[.int .i64 k, .slice A n q, .slice A' n' q']) ∧
    After c 67 s w (pOne s 0 i) w' ∧ ∀ j t, pOne s 0 i = .ok j t → TyR (0) w' (fun b => w.heap.size ≤ b) t [.int .i64 k, .slice A n q, .slice A' n' q'] := by
  have HSA := hide ((Pb.start h).alloc (.cells #[.int .i64 0, .slice none 0 0, .slice none 0 0] 52))
  have HBX := hide (heap_alloc_new w (.cells #[.int .i64 0, .slice none 0 0, .slice none 0 0] 52))
  have hcw := lt_of_block h
  have hlw : w.heap.size < (w.alloc (.cells #[.int .i64 0, .slice none 0 0, .slice none 0 0] 52)).heap.size := by simp
  have HID := hide (show ∀ W, W.heap[c]? = some (.cells #[.string s, .int .i64 i, .int .i64 (-1)] 67 (0, 0)) → Calls Try.prog 57 #[.pointer (some ⟨c, 0, none⟩)] W fun e w' => e = .returned (.string x) ∧ Pb c 67 s m (-1) W w' from fun W h => by have h1 := rWord_on c s i W hs hi h; rw [idWr, if_neg hid, hx, hm] at h1; exact h1)
  have c1 : (w.alloc (.cells #[.int .i64 0, .slice none 0 0, .slice none 0 0] 52)).cell? ⟨c, 1, none⟩ = some (.int .i64 i) := HSA.out.c1
  have hoff : decide (((i : Nat) : Int) < 0) = false := by simp
  have HF := hide (fun W h => rFail_new c s m i W h)
  have HE2 := hide (show pOne s 0 i = .bad i from rfl)
  have hms : m ≤ s.size := by rw [← hm]; exact idL_le s i hi
  have hxl : x = ⟨#[108, 105, 115, 116]⟩ := h1
  subst hxl
  have HKB := hide (show ∀ (yy : Nat) W, W.heap[c]? = some (.cells #[.string s, .int .i64 yy, .int .i64 (i : Nat)] 67 (0, 0)) → Calls Try.prog 34 #[.pointer (some ⟨c, 0, none⟩), .string ⟨#[32]⟩] W fun r w' => r = .returned (.tuple #[]) ∧ Pb c 67 s yy (i : Nat) W w' from fun yy W h => rNeed_off c s 32 yy (i : Nat) W (by omega) h)
  clear h hid hx hm h1
  go_enter Try.func59, Try.ntmps59
  go_wp2_with (first | (go_at_call 57; refine (HID.out _ HSA.out.box).mono ?_; rintro r w1 ⟨rfl, hq1⟩; have HQ1 := hide (HSA.out.trans hq1); have HB1 := hide (hq1.bu.keep _ _ HBX.out (by omega)); have c1 := HQ1.out.c1; have c2 := HQ1.out.c2; have hz1 := HQ1.out.size; have hl1 : w.heap.size < w1.heap.size := lt_of_block HB1.out; clear hq1) | (go_at_call 37; ((with_reducible refine (HF.out _ HQ1.out.box).mono ?_)); rintro r wf0 ⟨rfl, hqf⟩; have HQ2 := hide (HQ1.out.trans hqf); have HB2 := hide (hqf.bu.keep _ _ HB1.out (by omega)); have hl2 : w.heap.size < wf0.heap.size := lt_of_block HB2.out; have c2 := HQ2.out.c2; clear hqf) | (go_at_call 34; ((with_reducible refine (HKB.out _ _ HQ2.out.box).mono ?_)); rintro r w3 ⟨rfl, hq3⟩; have HQ3 := hide (HQ2.out.trans hq3); have HB3 := hide (hq3.bu.keep _ _ HB2.out (by omega)); have c2 := HQ3.out.c2; have z0 : w3.cell? ⟨w.heap.size, 0, none⟩ = some (.int .i64 0) := (block_cell HB3.out 0).trans rfl; have zf0 : w3.frozen? ⟨w.heap.size, 0, none⟩ = false := block_free HB3.out 0; have z1 : w3.cell? ⟨w.heap.size, 1, none⟩ = some (.slice none 0 0) := (block_cell HB3.out 1).trans rfl; have zf1 : w3.frozen? ⟨w.heap.size, 1, none⟩ = false := block_free HB3.out 1; have z2 : w3.cell? ⟨w.heap.size, 2, none⟩ = some (.slice none 0 0) := (block_cell HB3.out 2).trans rfl; have zf2 : w3.frozen? ⟨w.heap.size, 2, none⟩ = false := block_free HB3.out 2; clear hq3))
  have hb3 := block_set (block_set (block_set HB3.out (i := 0) (.int .i64 0)) (i := 1) (.slice none 0 0)) (i := 2) (.slice none 0 0)
  have hqz := ((HQ3.out.other (b := w.heap.size) (j := 0) (Nat.le_refl _) hcw (.int .i64 0)).other (b := w.heap.size) (j := 1) (Nat.le_refl _) hcw (.slice none 0 0)).other (b := w.heap.size) (j := 2) (Nat.le_refl _) hcw (.slice none 0 0)
  have hst := stay_set3 w3 w.heap.size (.int .i64 0) (.slice none 0 0) (.slice none 0 0)
  generalize (((w3.setCell ⟨w.heap.size, 0, none⟩ (.int .i64 0)).setCell ⟨w.heap.size, 1, none⟩ (.slice none 0 0)).setCell ⟨w.heap.size, 2, none⟩ (.slice none 0 0)) = wf at hb3 hqz hst ⊢
  have r0 : wf.cell? ⟨w.heap.size, 0, none⟩ = some (.int .i64 0) := (block_cell hb3 0).trans rfl
  have r1 : wf.cell? ⟨w.heap.size, 1, none⟩ = some (.slice none 0 0) := (block_cell hb3 1).trans rfl
  have r2 : wf.cell? ⟨w.heap.size, 2, none⟩ = some (.slice none 0 0) := (block_cell hb3 2).trans rfl
  refine bodyPost_ret (by simp [results, Try.results59, go_sem, r0, r1, r2]; try rfl) rfl ?_
  exact ⟨_, _, _, _, _, _, _, rfl, After.of_bad HE2.out hms hqz, fun j t h => by rw [HE2.out] at h; cases h⟩
set_option maxRecDepth 100000 in
set_option maxHeartbeats 8000000 in
theorem rOne_zero_func (c : Nat) (s : ByteArray) (i m : Nat) (x : ByteArray) (w : World) (hs : s.size ≤ 8000) (hi : i ≤ s.size) (hid : idL s i ≠ 0) (hx : s.extract i (i + idL s i) = x) (hm : i + idL s i = m) (h1 : x = funcS) (h : w.heap[c]? = some (.cells #[.string s, .int .i64 i, .int .i64 (-1)] 67 (0, 0))) :
  Calls Try.prog 59 #[.pointer (some ⟨c, 0, none⟩), .int .i64 12] w fun e w' => ∃ (k : Int) (A : Option Addr) (n q : Nat) (A' : Option Addr) (n' q' : Nat), e = .returned (.agg #[.int .i64 k, .slice A n q, .slice A' n' q']) ∧
    After c 67 s w (pOne s 0 i) w' ∧ ∀ j t, pOne s 0 i = .ok j t → TyR (0) w' (fun b => w.heap.size ≤ b) t [.int .i64 k, .slice A n q, .slice A' n' q'] := by
  have HSA := hide ((Pb.start h).alloc (.cells #[.int .i64 0, .slice none 0 0, .slice none 0 0] 52))
  have HBX := hide (heap_alloc_new w (.cells #[.int .i64 0, .slice none 0 0, .slice none 0 0] 52))
  have hcw := lt_of_block h
  have hlw : w.heap.size < (w.alloc (.cells #[.int .i64 0, .slice none 0 0, .slice none 0 0] 52)).heap.size := by simp
  have HID := hide (show ∀ W, W.heap[c]? = some (.cells #[.string s, .int .i64 i, .int .i64 (-1)] 67 (0, 0)) → Calls Try.prog 57 #[.pointer (some ⟨c, 0, none⟩)] W fun e w' => e = .returned (.string x) ∧ Pb c 67 s m (-1) W w' from fun W h => by have h1 := rWord_on c s i W hs hi h; rw [idWr, if_neg hid, hx, hm] at h1; exact h1)
  have c1 : (w.alloc (.cells #[.int .i64 0, .slice none 0 0, .slice none 0 0] 52)).cell? ⟨c, 1, none⟩ = some (.int .i64 i) := HSA.out.c1
  have hoff : decide (((i : Nat) : Int) < 0) = false := by simp
  have HF := hide (fun W h => rFail_new c s m i W h)
  have HE2 := hide (show pOne s 0 i = .bad i from rfl)
  have hms : m ≤ s.size := by rw [← hm]; exact idL_le s i hi
  have hxl : x = ⟨#[102, 117, 110, 99]⟩ := h1
  subst hxl
  have HK0 := hide (show ∀ (yy : Nat) W, W.heap[c]? = some (.cells #[.string s, .int .i64 yy, .int .i64 (i : Nat)] 67 (0, 0)) → Calls Try.prog 34 #[.pointer (some ⟨c, 0, none⟩), .string ⟨#[40]⟩] W fun r w' => r = .returned (.tuple #[]) ∧ Pb c 67 s yy (i : Nat) W w' from fun yy W h => rNeed_off c s 40 yy (i : Nat) W (by omega) h)
  have HKA := hide (show ∀ (yy : Nat) W, W.heap[c]? = some (.cells #[.string s, .int .i64 yy, .int .i64 (i : Nat)] 67 (0, 0)) → Calls Try.prog 34 #[.pointer (some ⟨c, 0, none⟩), .string ⟨#[41]⟩] W fun r w' => r = .returned (.tuple #[]) ∧ Pb c 67 s yy (i : Nat) W w' from fun yy W h => rNeed_off c s 41 yy (i : Nat) W (by omega) h)
  have HK5 := hide (show ∀ (yy : Nat) W, W.heap[c]? = some (.cells #[.string s, .int .i64 yy, .int .i64 (i : Nat)] 67 (0, 0)) → Calls Try.prog 34 #[.pointer (some ⟨c, 0, none⟩), .string ⟨#[32]⟩] W fun r w' => r = .returned (.tuple #[]) ∧ Pb c 67 s yy (i : Nat) W w' from fun yy W h => rNeed_off c s 32 yy (i : Nat) W (by omega) h)
  have HIS := hide (show ∀ (yy : Nat) W, W.heap[c]? = some (.cells #[.string s, .int .i64 yy, .int .i64 (i : Nat)] 67 (0, 0)) → Calls Try.prog 35 #[.pointer (some ⟨c, 0, none⟩), .string ⟨#[41]⟩] W fun r w' => r = .returned (.bool false) ∧ Pb c 67 s yy (i : Nat) W w' from fun yy W h => rIs_off c s yy (i : Nat) 41 W (by omega) h)
  have HTC := hide (fun (yy : Nat) W h => rTys_off c s yy (i : Nat) 13 W (by omega) h)
  clear h hid hx hm h1
  go_enter Try.func59, Try.ntmps59
  go_wp2_with (first
    | (go_at_call 57; refine (HID.out _ HSA.out.box).mono ?_; rintro r w1 ⟨rfl, hq1⟩; have HQ1 := hide (HSA.out.trans hq1); have HB1 := hide (hq1.bu.keep _ _ HBX.out (by omega)); have c1 := HQ1.out.c1; have c2 := HQ1.out.c2; have hz1 := HQ1.out.size; have hl1 : w.heap.size < w1.heap.size := lt_of_block HB1.out; clear hq1)
    | (go_at_call 37; ((with_reducible refine (HF.out _ HQ1.out.box).mono ?_)); rintro r wf0 ⟨rfl, hqf⟩; have HQF := hide (HQ1.out.trans hqf); have HBF := hide (hqf.bu.keep _ _ HB1.out (by omega)); have hl2 : w.heap.size < wf0.heap.size := lt_of_block HBF.out; have c2 := HQF.out.c2; clear hqf)
    | (go_at_call 34; ((with_reducible refine (HK0.out _ _ HQF.out.box).mono ?_)); rintro r w2 ⟨rfl, hq2⟩; have HQ2 := hide (HQF.out.trans hq2); have HB2 := hide (hq2.bu.keep _ _ HBF.out (by omega)); have hz2 := HQ2.out.size; have hl2 : w.heap.size < w2.heap.size := lt_of_block HB2.out; have HNT := hide (show w2.heap.size ≠ c from by have := HQ2.out.lt; omega); have HXT := hide (heap_alloc_new w2 (.cells #[.int .i64 4, .slice none 0 0, .slice none 0 0] 52)); have HQT := hide (HQ2.out.alloc (.cells #[.int .i64 4, .slice none 0 0, .slice none 0 0] 52)); have HBT := hide (block_below HB2.out ((Below.refl _ _).alloc (Nat.le_refl _) (.cells #[.int .i64 4, .slice none 0 0, .slice none 0 0] 52))); clear hq2)
    | (go_at_call 35; ((with_reducible refine (HIS.out _ _ HQT.out.box).mono ?_)); rintro r w3 ⟨rfl, hq3⟩; have HQ3 := hide (HQT.out.trans hq3); have HX3 := hide (hq3.bu.keep _ _ HXT.out HNT.out); have HB3 := hide (hq3.bu.keep _ _ HBT.out (by omega)); have hl3 : w2.heap.size < w3.heap.size := lt_of_block HX3.out; have t0 : w3.cell? ⟨w2.heap.size, 0, none⟩ = some (.int .i64 4) := (block_cell HX3.out 0).trans rfl; have tf0 : w3.frozen? ⟨w2.heap.size, 0, none⟩ = false := block_free HX3.out 0; have t1 : w3.cell? ⟨w2.heap.size, 1, none⟩ = some (.slice none 0 0) := (block_cell HX3.out 1).trans rfl; have tf1 : w3.frozen? ⟨w2.heap.size, 1, none⟩ = false := block_free HX3.out 1; have t2 : w3.cell? ⟨w2.heap.size, 2, none⟩ = some (.slice none 0 0) := (block_cell HX3.out 2).trans rfl; have tf2 : w3.frozen? ⟨w2.heap.size, 2, none⟩ = false := block_free HX3.out 2; have c2 := HQ3.out.c2; clear hq3)
    | (go_at_call 36; ((with_reducible refine (HTC.out _ _ HQ3.out.box).mono ?_)); rintro r w4 ⟨rfl, hq4⟩; have HX4 := hide (hq4.bu.keep _ _ HX3.out HNT.out); have HXS := hide (block_set HX4.out (i := 2) (.slice none 0 0)); have HBS := hide (block_set_other (hq4.bu.keep _ _ HB3.out (by omega)) ⟨w2.heap.size, 2, none⟩ (.slice none 0 0) (by simp; omega)); have HQ4 := hide (HQ3.out.trans hq4); have HQS := hide (HQ4.out.other (b := w2.heap.size) (j := 2) (by omega) hcw (.slice none 0 0)); have hz4 := hq4.size; have t0 : w4.cell? ⟨w2.heap.size, 0, none⟩ = some (.int .i64 4) := (block_cell HX4.out 0).trans rfl; have tf0 : w4.frozen? ⟨w2.heap.size, 0, none⟩ = false := block_free HX4.out 0; have t1 : w4.cell? ⟨w2.heap.size, 1, none⟩ = some (.slice none 0 0) := (block_cell HX4.out 1).trans rfl; have tf1 : w4.frozen? ⟨w2.heap.size, 1, none⟩ = false := block_free HX4.out 1; have t2 : w4.cell? ⟨w2.heap.size, 2, none⟩ = some (.slice none 0 0) := (block_cell HX4.out 2).trans rfl; have tf2 : w4.frozen? ⟨w2.heap.size, 2, none⟩ = false := block_free HX4.out 2; clear hq4)
    | (go_at_call 34; ((with_reducible refine (HKA.out _ _ HQS.out.box).mono ?_)); rintro r wA ⟨rfl, hqA⟩; have HQA := hide (HQS.out.trans hqA); have HXA := hide (hqA.bu.keep _ _ HXS.out HNT.out); have HBA := hide (hqA.bu.keep _ _ HBS.out (by omega)); have hzA := hqA.size; have t0 : wA.cell? ⟨w2.heap.size, 0, none⟩ = some (.int .i64 4) := (block_cell HXA.out 0).trans rfl; have tf0 : wA.frozen? ⟨w2.heap.size, 0, none⟩ = false := block_free HXA.out 0; have t1 : wA.cell? ⟨w2.heap.size, 1, none⟩ = some (.slice none 0 0) := (block_cell HXA.out 1).trans rfl; have tf1 : wA.frozen? ⟨w2.heap.size, 1, none⟩ = false := block_free HXA.out 1; have t2 : wA.cell? ⟨w2.heap.size, 2, none⟩ = some (.slice none 0 0) := (block_cell HXA.out 2).trans rfl; have tf2 : wA.frozen? ⟨w2.heap.size, 2, none⟩ = false := block_free HXA.out 2; have z0 : wA.cell? ⟨w.heap.size, 0, none⟩ = some (.int .i64 0) := (block_cell HBA.out 0).trans rfl; have zf0 : wA.frozen? ⟨w.heap.size, 0, none⟩ = false := block_free HBA.out 0; have z1 : wA.cell? ⟨w.heap.size, 1, none⟩ = some (.slice none 0 0) := (block_cell HBA.out 1).trans rfl; have zf1 : wA.frozen? ⟨w.heap.size, 1, none⟩ = false := block_free HBA.out 1; have z2 : wA.cell? ⟨w.heap.size, 2, none⟩ = some (.slice none 0 0) := (block_cell HBA.out 2).trans rfl; have zf2 : wA.frozen? ⟨w.heap.size, 2, none⟩ = false := block_free HBA.out 2; have c2 := HQA.out.c2; clear hqA)
    | (go_at_call 34; ((with_reducible refine (HK5.out _ _ HQA.out.box).mono ?_)); rintro r w5 ⟨rfl, hq5⟩; have HQ5 := hide (HQA.out.trans hq5); have HX5 := hide (hq5.bu.keep _ _ HXA.out HNT.out); have HB5 := hide (hq5.bu.keep _ _ HBA.out (by omega)); have hz5 := hq5.size; have t0 : w5.cell? ⟨w2.heap.size, 0, none⟩ = some (.int .i64 4) := (block_cell HX5.out 0).trans rfl; have tf0 : w5.frozen? ⟨w2.heap.size, 0, none⟩ = false := block_free HX5.out 0; have t1 : w5.cell? ⟨w2.heap.size, 1, none⟩ = some (.slice none 0 0) := (block_cell HX5.out 1).trans rfl; have tf1 : w5.frozen? ⟨w2.heap.size, 1, none⟩ = false := block_free HX5.out 1; have t2 : w5.cell? ⟨w2.heap.size, 2, none⟩ = some (.slice none 0 0) := (block_cell HX5.out 2).trans rfl; have tf2 : w5.frozen? ⟨w2.heap.size, 2, none⟩ = false := block_free HX5.out 2; have z0 : w5.cell? ⟨w.heap.size, 0, none⟩ = some (.int .i64 0) := (block_cell HB5.out 0).trans rfl; have zf0 : w5.frozen? ⟨w.heap.size, 0, none⟩ = false := block_free HB5.out 0; have z1 : w5.cell? ⟨w.heap.size, 1, none⟩ = some (.slice none 0 0) := (block_cell HB5.out 1).trans rfl; have zf1 : w5.frozen? ⟨w.heap.size, 1, none⟩ = false := block_free HB5.out 1; have z2 : w5.cell? ⟨w.heap.size, 2, none⟩ = some (.slice none 0 0) := (block_cell HB5.out 2).trans rfl; have zf2 : w5.frozen? ⟨w.heap.size, 2, none⟩ = false := block_free HB5.out 2; have c2 := HQ5.out.c2; clear hq5))
  have hb3 := block_set (block_set (block_set HB5.out (i := 0) (.int .i64 4)) (i := 1) (.slice none 0 0)) (i := 2) (.slice none 0 0)
  have hqz := ((HQ5.out.other (b := w.heap.size) (j := 0) (Nat.le_refl _) hcw (.int .i64 4)).other (b := w.heap.size) (j := 1) (Nat.le_refl _) hcw (.slice none 0 0)).other (b := w.heap.size) (j := 2) (Nat.le_refl _) hcw (.slice none 0 0)
  have hst := stay_set3 w5 w.heap.size (.int .i64 4) (.slice none 0 0) (.slice none 0 0)
  generalize (((w5.setCell ⟨w.heap.size, 0, none⟩ (.int .i64 4)).setCell ⟨w.heap.size, 1, none⟩ (.slice none 0 0)).setCell ⟨w.heap.size, 2, none⟩ (.slice none 0 0)) = wf at hb3 hqz hst ⊢
  have r0 : wf.cell? ⟨w.heap.size, 0, none⟩ = some (.int .i64 4) := (block_cell hb3 0).trans rfl
  have r1 : wf.cell? ⟨w.heap.size, 1, none⟩ = some (.slice none 0 0) := (block_cell hb3 1).trans rfl
  have r2 : wf.cell? ⟨w.heap.size, 2, none⟩ = some (.slice none 0 0) := (block_cell hb3 2).trans rfl
  refine bodyPost_ret (by simp [results, Try.results59, go_sem, r0, r1, r2]; try rfl) rfl ?_
  exact ⟨_, _, _, _, _, _, _, rfl, After.of_bad HE2.out hms hqz, fun j t h => by rw [HE2.out] at h; cases h⟩
end Go.Proofs.Ythlhiegbiapllaa
