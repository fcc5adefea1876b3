/- Walks of the parsers' one: plain and single types (printed by gen_po.py). -/
import Derived.Test.YthlhiegbiapllaaNmPaO
namespace Go.Proofs.Ythlhiegbiapllaa
open Go.RowKit
set_option linter.unusedVariables false
set_option linter.unusedSimpArgs false
set_option maxRecDepth 100000 in
set_option maxHeartbeats 8000000 in
theorem nOne_plain {f : Nat} (H : nOneOk f) (HT : nTysOk f) (HPA : nPartsOk f) (c : Nat) (s : ByteArray) (i m : Nat) (x : ByteArray) (d : Int) (w : World) (hs : s.size ≤ 8000) (hi : i ≤ s.size) (hd : d = 12 - ((f + 1 : Nat) : Int)) (hf : f + 1 ≤ 12) (hid : idL s i ≠ 0)
    (hx : s.extract i (i + idL s i) = x) (hm : i + idL s i = m) (hms : m ≤ s.size) (h1 : x ≠ refS) (h2 : x ≠ listS) (h3 : x ≠ funcS) (h : w.heap[c]? = some (.cells #[.string s, .int .i64 i, .int .i64 (-1)] 58 (0, 0))) :
  Calls Try.prog 56 #[.pointer (some ⟨c, 0, none⟩), .int .i64 d] w fun e w' => ∃ (k : Int) (A : Option Addr) (n q : Nat) (A' : Option Addr) (n' q' : Nat), e = .returned (.agg #[.int .i64 k, .slice A n q, .slice A' n' q']) ∧
    After c 58 s w (pOne s (f + 1) i) w' ∧ ∀ j t, pOne s (f + 1) i = .ok j t → TyR (f + 1) w' (fun b => w.heap.size ≤ b) t [.int .i64 k, .slice A n q, .slice A' n' q'] := by
  have HSA := hide ((Pb.start h).alloc (.cells #[.int .i64 0, .slice none 0 0, .slice none 0 0] 52))
  have HBX := hide (heap_alloc_new w (.cells #[.int .i64 0, .slice none 0 0, .slice none 0 0] 52))
  have hcw := lt_of_block h
  have hlw : w.heap.size < (w.alloc (.cells #[.int .i64 0, .slice none 0 0, .slice none 0 0] 52)).heap.size := by simp
  have HID := hide (show ∀ W, W.heap[c]? = some (.cells #[.string s, .int .i64 i, .int .i64 (-1)] 58 (0, 0)) → Calls Try.prog 28 #[.pointer (some ⟨c, 0, none⟩)] W fun e w' => e = .returned (.string x) ∧ Pb c 58 s m (-1) W w' from fun W h => by have h1 := nIdent_on c s i W hs hi h; rw [idWr, if_neg hid, hx, hm] at h1; exact h1)
  have hd0 : 0 ≤ d := by omega
  have hd12 : decide (12 ≤ d) = false := by simp; omega
  have hd11 : d ≤ 11 := by omega
  have HON := hide (fun W j hj h => H c s j (d + 1) W hs hj (by omega) h)
  have HTY := hide (fun W j hj h => HT c s j (d + 1) W hs hj (by omega) h)
  have HPT := hide (fun W x j hx hj h => HPA c s x j (d + 1) W hs hx hj (by omega) h)
  have c1 : (w.alloc (.cells #[.int .i64 0, .slice none 0 0, .slice none 0 0] 52)).cell? ⟨c, 1, none⟩ = some (.int .i64 i) := HSA.out.c1
  obtain ⟨w0a, w0b⟩ := str_no (b := #[114, 101, 102]) h1
  have e0a : ¬ x.toList = [114, 101, 102] := w0a
  have e0b : (x.toList == [114, 101, 102]) = false := w0b
  clear w0a w0b
  obtain ⟨w1a, w1b⟩ := str_no (b := #[108, 105, 115, 116]) h2
  have e1a : ¬ x.toList = [108, 105, 115, 116] := w1a
  have e1b : (x.toList == [108, 105, 115, 116]) = false := w1b
  clear w1a w1b
  obtain ⟨w2a, w2b⟩ := str_no (b := #[102, 117, 110, 99]) h3
  have e2a : ¬ x.toList = [102, 117, 110, 99] := w2a
  have e2b : (x.toList == [102, 117, 110, 99]) = false := w2b
  clear w2a w2b
  have hxs : x.size ≤ 8000 := by rw [← hx]; exact ext_size _ _ _ hs
  have HE := hide (pOne_plain (f := f) hid (by rw [hx]; exact h1) (by rw [hx]; exact h2) (by rw [hx]; exact h3))
  rw [hx, hm] at HE
  clear h h1 h2 h3 hid hx hm H HT HPA hd
  cases hp : pParts s (pOne s f) (s.size + 1) [] x m with
  | bad e =>
    have HE2 := hide (show pOne s (f + 1) i = .bad e by rw [HE.out, hp]; rfl)
    have HPC := hide (show ∀ W, W.heap[c]? = some (.cells #[.string s, .int .i64 m, .int .i64 (-1)] 58 (0, 0)) → Calls Try.prog 27 #[.pointer (some ⟨c, 0, none⟩), .string x, .int .i64 (d + 1)] W fun r w' => ∃ (A : Option Addr) (n q : Nat), r = .returned (.slice A n q) ∧ ∃ i : Nat, i ≤ s.size ∧ Pb c 58 s i (e : Nat) W w' from fun W h => (HPT.out W x m hxs hms h).mono fun r w' ⟨A, n, q, h1, h2, _⟩ => ⟨A, n, q, h1, h2.bad hp⟩)
    clear hp
    go_enter Try.func56, Try.ntmps56
    go_wp2_with (first | (go_at_call 28; refine (HID.out _ HSA.out.box).mono ?_; rintro r w1 ⟨rfl, hq1⟩; have HQ1 := hide (HSA.out.trans hq1); have HB1 := hide (hq1.bu.keep _ _ HBX.out (by omega)); have c1 := HQ1.out.c1; have c2 := HQ1.out.c2; have hz1 := HQ1.out.size; have hl1 : w.heap.size < w1.heap.size := lt_of_block HB1.out; clear hq1) | (go_at_call 27; refine (HPC.out _ HQ1.out.box).mono ?_; rintro r w2 ⟨A2, n2, q2, rfl, y, hy, hq2⟩; have HQ2 := hide (HQ1.out.trans hq2); have HB2 := hide (hq2.bu.keep _ _ HB1.out (by omega)); have z0 : w2.cell? ⟨w.heap.size, 0, none⟩ = some (.int .i64 0) := (block_cell HB2.out 0).trans rfl; have zf0 : w2.frozen? ⟨w.heap.size, 0, none⟩ = false := block_free HB2.out 0; have z1 : w2.cell? ⟨w.heap.size, 1, none⟩ = some (.slice none 0 0) := (block_cell HB2.out 1).trans rfl; have zf1 : w2.frozen? ⟨w.heap.size, 1, none⟩ = false := block_free HB2.out 1; have z2 : w2.cell? ⟨w.heap.size, 2, none⟩ = some (.slice none 0 0) := (block_cell HB2.out 2).trans rfl; have zf2 : w2.frozen? ⟨w.heap.size, 2, none⟩ = false := block_free HB2.out 2; clear hq2))
    have hb3 := block_set (block_set (block_set HB2.out (i := 0) (.int .i64 1)) (i := 1) (.slice A2 n2 q2)) (i := 2) (.slice none 0 0)
    have hqz := ((HQ2.out.other (b := w.heap.size) (j := 0) (Nat.le_refl _) hcw (.int .i64 1)).other (b := w.heap.size) (j := 1) (Nat.le_refl _) hcw (.slice A2 n2 q2)).other (b := w.heap.size) (j := 2) (Nat.le_refl _) hcw (.slice none 0 0)
    have hst := stay_set3 w2 w.heap.size (.int .i64 1) (.slice A2 n2 q2) (.slice none 0 0)
    generalize (((w2.setCell ⟨w.heap.size, 0, none⟩ (.int .i64 1)).setCell ⟨w.heap.size, 1, none⟩ (.slice A2 n2 q2)).setCell ⟨w.heap.size, 2, none⟩ (.slice none 0 0)) = wf at hb3 hqz hst ⊢
    have r0 : wf.cell? ⟨w.heap.size, 0, none⟩ = some (.int .i64 1) := (block_cell hb3 0).trans rfl
    have r1 : wf.cell? ⟨w.heap.size, 1, none⟩ = some (.slice A2 n2 q2) := (block_cell hb3 1).trans rfl
    have r2 : wf.cell? ⟨w.heap.size, 2, none⟩ = some (.slice none 0 0) := (block_cell hb3 2).trans rfl
    refine bodyPost_ret (by simp [results, Try.results56, go_sem, r0, r1, r2]; try rfl) rfl ?_
    exact ⟨_, _, _, _, _, _, _, rfl, After.of_bad HE2.out hy hqz, fun j t h => by rw [HE2.out] at h; cases h⟩
  | ok y l =>
    have HE2 := hide (show pOne s (f + 1) i = .ok y (Ty.mk 1 l []) by rw [HE.out, hp]; rfl)
    have HPC := hide (show ∀ W, W.heap[c]? = some (.cells #[.string s, .int .i64 m, .int .i64 (-1)] 58 (0, 0)) → Calls Try.prog 27 #[.pointer (some ⟨c, 0, none⟩), .string x, .int .i64 (d + 1)] W fun r w' => ∃ (A : Option Addr) (n q : Nat), r = .returned (.slice A n q) ∧ Pb c 58 s y (-1) W w' ∧ PartsNew f W w' A n q l from fun W h => (HPT.out W x m hxs hms h).mono fun r w' ⟨A, n, q, h1, h2, h3⟩ => ⟨A, n, q, h1, h2.ok hp, h3 _ _ hp⟩)
    clear hp
    go_enter Try.func56, Try.ntmps56
    go_wp2_with (first | (go_at_call 28; refine (HID.out _ HSA.out.box).mono ?_; rintro r w1 ⟨rfl, hq1⟩; have HQ1 := hide (HSA.out.trans hq1); have HB1 := hide (hq1.bu.keep _ _ HBX.out (by omega)); have c1 := HQ1.out.c1; have c2 := HQ1.out.c2; have hz1 := HQ1.out.size; have hl1 : w.heap.size < w1.heap.size := lt_of_block HB1.out; clear hq1) | (go_at_call 27; refine (HPC.out _ HQ1.out.box).mono ?_; rintro r w2 ⟨A2, n2, q2, rfl, hq2, hpn⟩; have HPN := hide hpn; have HQ2 := hide (HQ1.out.trans hq2); have HB2 := hide (hq2.bu.keep _ _ HB1.out (by omega)); have z0 : w2.cell? ⟨w.heap.size, 0, none⟩ = some (.int .i64 0) := (block_cell HB2.out 0).trans rfl; have zf0 : w2.frozen? ⟨w.heap.size, 0, none⟩ = false := block_free HB2.out 0; have z1 : w2.cell? ⟨w.heap.size, 1, none⟩ = some (.slice none 0 0) := (block_cell HB2.out 1).trans rfl; have zf1 : w2.frozen? ⟨w.heap.size, 1, none⟩ = false := block_free HB2.out 1; have z2 : w2.cell? ⟨w.heap.size, 2, none⟩ = some (.slice none 0 0) := (block_cell HB2.out 2).trans rfl; have zf2 : w2.frozen? ⟨w.heap.size, 2, none⟩ = false := block_free HB2.out 2; clear hq2 hpn))
    have hb3 := block_set (block_set (block_set HB2.out (i := 0) (.int .i64 1)) (i := 1) (.slice A2 n2 q2)) (i := 2) (.slice none 0 0)
    have hqz := ((HQ2.out.other (b := w.heap.size) (j := 0) (Nat.le_refl _) hcw (.int .i64 1)).other (b := w.heap.size) (j := 1) (Nat.le_refl _) hcw (.slice A2 n2 q2)).other (b := w.heap.size) (j := 2) (Nat.le_refl _) hcw (.slice none 0 0)
    have hst := stay_set3 w2 w.heap.size (.int .i64 1) (.slice A2 n2 q2) (.slice none 0 0)
    generalize (((w2.setCell ⟨w.heap.size, 0, none⟩ (.int .i64 1)).setCell ⟨w.heap.size, 1, none⟩ (.slice A2 n2 q2)).setCell ⟨w.heap.size, 2, none⟩ (.slice none 0 0)) = wf at hb3 hqz hst ⊢
    have r0 : wf.cell? ⟨w.heap.size, 0, none⟩ = some (.int .i64 1) := (block_cell hb3 0).trans rfl
    have r1 : wf.cell? ⟨w.heap.size, 1, none⟩ = some (.slice A2 n2 q2) := (block_cell hb3 1).trans rfl
    have r2 : wf.cell? ⟨w.heap.size, 2, none⟩ = some (.slice none 0 0) := (block_cell hb3 2).trans rfl
    refine bodyPost_ret (by simp [results, Try.results56, go_sem, r0, r1, r2]; try rfl) rfl ?_
    exact ⟨_, _, _, _, _, _, _, rfl, After.of_ok HE2.out hqz, fun j t h => by rw [HE2.out] at h; cases h; exact plain_new HPN.out hst hl1⟩
set_option maxRecDepth 100000 in
set_option maxHeartbeats 8000000 in
theorem rOne_plain {f : Nat} (H : rOneOk f) (HT : rTysOk f) (HPA : rPartsOk f) (c : Nat) (s : ByteArray) (i m : Nat) (x : ByteArray) (d : Int) (w : World) (hs : s.size ≤ 8000) (hi : i ≤ s.size) (hd : d = 12 - ((f + 1 : Nat) : Int)) (hf : f + 1 ≤ 12) (hid : idL s i ≠ 0)
    (hx : s.extract i (i + idL s i) = x) (hm : i + idL s i = m) (hms : m ≤ s.size) (h1 : x ≠ refS) (h2 : x ≠ listS) (h3 : x ≠ funcS) (h : w.heap[c]? = some (.cells #[.string s, .int .i64 i, .int .i64 (-1)] 67 (0, 0))) :
  Calls Try.prog 59 #[.pointer (some ⟨c, 0, none⟩), .int .i64 d] w fun e w' => ∃ (k : Int) (A : Option Addr) (n q : Nat) (A' : Option Addr) (n' q' : Nat), e = .returned (.agg #[.int .i64 k, .slice A n q, .slice A' n' q']) ∧
    After c 67 s w (pOne s (f + 1) i) w' ∧ ∀ j t, pOne s (f + 1) i = .ok j t → TyR (f + 1) w' (fun b => w.heap.size ≤ b) t [.int .i64 k, .slice A n q, .slice A' n' q'] := by
  have HSA := hide ((Pb.start h).alloc (.cells #[.int .i64 0, .slice none 0 0, .slice none 0 0] 52))
  have HBX := hide (heap_alloc_new w (.cells #[.int .i64 0, .slice none 0 0, .slice none 0 0] 52))
  have hcw := lt_of_block h
  have hlw : w.heap.size < (w.alloc (.cells #[.int .i64 0, .slice none 0 0, .slice none 0 0] 52)).heap.size := by simp
  have HID := hide (show ∀ W, W.heap[c]? = some (.cells #[.string s, .int .i64 i, .int .i64 (-1)] 67 (0, 0)) → Calls Try.prog 57 #[.pointer (some ⟨c, 0, none⟩)] W fun e w' => e = .returned (.string x) ∧ Pb c 67 s m (-1) W w' from fun W h => by have h1 := rWord_on c s i W hs hi h; rw [idWr, if_neg hid, hx, hm] at h1; exact h1)
  have hd0 : 0 ≤ d := by omega
  have hd12 : decide (12 ≤ d) = false := by simp; omega
  have hd11 : d ≤ 11 := by omega
  have HON := hide (fun W j hj h => H c s j (d + 1) W hs hj (by omega) h)
  have HTY := hide (fun W j hj h => HT c s j (d + 1) W hs hj (by omega) h)
  have HPT := hide (fun W x j hx hj h => HPA c s x j (d + 1) W hs hx hj (by omega) h)
  have c1 : (w.alloc (.cells #[.int .i64 0, .slice none 0 0, .slice none 0 0] 52)).cell? ⟨c, 1, none⟩ = some (.int .i64 i) := HSA.out.c1
  obtain ⟨w0a, w0b⟩ := str_no (b := #[114, 101, 102]) h1
  have e0a : ¬ x.toList = [114, 101, 102] := w0a
  have e0b : (x.toList == [114, 101, 102]) = false := w0b
  clear w0a w0b
  obtain ⟨w1a, w1b⟩ := str_no (b := #[108, 105, 115, 116]) h2
  have e1a : ¬ x.toList = [108, 105, 115, 116] := w1a
  have e1b : (x.toList == [108, 105, 115, 116]) = false := w1b
  clear w1a w1b
  obtain ⟨w2a, w2b⟩ := str_no (b := #[102, 117, 110, 99]) h3
  have e2a : ¬ x.toList = [102, 117, 110, 99] := w2a
  have e2b : (x.toList == [102, 117, 110, 99]) = false := w2b
  clear w2a w2b
  have hxs : x.size ≤ 8000 := by rw [← hx]; exact ext_size _ _ _ hs
  have HE := hide (pOne_plain (f := f) hid (by rw [hx]; exact h1) (by rw [hx]; exact h2) (by rw [hx]; exact h3))
  rw [hx, hm] at HE
  have hx0 : x.size ≠ 0 := by rw [← hx]; simp; omega
  have HPT := hide (fun W x j hx hj h => HPT.out W x j hx hj h)
  clear h h1 h2 h3 hid hx hm H HT HPA hd
  cases hp : pParts s (pOne s f) (s.size + 1) [] x m with
  | bad e =>
    have HE2 := hide (show pOne s (f + 1) i = .bad e by rw [HE.out, hp]; rfl)
    have HPC := hide (show ∀ W, W.heap[c]? = some (.cells #[.string s, .int .i64 m, .int .i64 (-1)] 67 (0, 0)) → Calls Try.prog 33 #[.pointer (some ⟨c, 0, none⟩), .string x, .int .i64 (d + 1)] W fun r w' => ∃ (A : Option Addr) (n q : Nat), r = .returned (.slice A n q) ∧ ∃ i : Nat, i ≤ s.size ∧ Pb c 67 s i (e : Nat) W w' from fun W h => (HPT.out W x m hxs hms h).mono fun r w' ⟨A, n, q, h1, h2, _⟩ => ⟨A, n, q, h1, (pFrom_some hx0 _ _ _ _ _ ▸ h2).bad hp⟩)
    clear hp
    go_enter Try.func59, Try.ntmps59
    go_wp2_with (first | (go_at_call 57; refine (HID.out _ HSA.out.box).mono ?_; rintro r w1 ⟨rfl, hq1⟩; have HQ1 := hide (HSA.out.trans hq1); have HB1 := hide (hq1.bu.keep _ _ HBX.out (by omega)); have c1 := HQ1.out.c1; have c2 := HQ1.out.c2; have hz1 := HQ1.out.size; have hl1 : w.heap.size < w1.heap.size := lt_of_block HB1.out; clear hq1) | (go_at_call 33; refine (HPC.out _ HQ1.out.box).mono ?_; rintro r w2 ⟨A2, n2, q2, rfl, y, hy, hq2⟩; have HQ2 := hide (HQ1.out.trans hq2); have HB2 := hide (hq2.bu.keep _ _ HB1.out (by omega)); have z0 : w2.cell? ⟨w.heap.size, 0, none⟩ = some (.int .i64 0) := (block_cell HB2.out 0).trans rfl; have zf0 : w2.frozen? ⟨w.heap.size, 0, none⟩ = false := block_free HB2.out 0; have z1 : w2.cell? ⟨w.heap.size, 1, none⟩ = some (.slice none 0 0) := (block_cell HB2.out 1).trans rfl; have zf1 : w2.frozen? ⟨w.heap.size, 1, none⟩ = false := block_free HB2.out 1; have z2 : w2.cell? ⟨w.heap.size, 2, none⟩ = some (.slice none 0 0) := (block_cell HB2.out 2).trans rfl; have zf2 : w2.frozen? ⟨w.heap.size, 2, none⟩ = false := block_free HB2.out 2; clear hq2))
    have hb3 := block_set (block_set (block_set HB2.out (i := 0) (.int .i64 1)) (i := 1) (.slice A2 n2 q2)) (i := 2) (.slice none 0 0)
    have hqz := ((HQ2.out.other (b := w.heap.size) (j := 0) (Nat.le_refl _) hcw (.int .i64 1)).other (b := w.heap.size) (j := 1) (Nat.le_refl _) hcw (.slice A2 n2 q2)).other (b := w.heap.size) (j := 2) (Nat.le_refl _) hcw (.slice none 0 0)
    have hst := stay_set3 w2 w.heap.size (.int .i64 1) (.slice A2 n2 q2) (.slice none 0 0)
    generalize (((w2.setCell ⟨w.heap.size, 0, none⟩ (.int .i64 1)).setCell ⟨w.heap.size, 1, none⟩ (.slice A2 n2 q2)).setCell ⟨w.heap.size, 2, none⟩ (.slice none 0 0)) = wf at hb3 hqz hst ⊢
    have r0 : wf.cell? ⟨w.heap.size, 0, none⟩ = some (.int .i64 1) := (block_cell hb3 0).trans rfl
    have r1 : wf.cell? ⟨w.heap.size, 1, none⟩ = some (.slice A2 n2 q2) := (block_cell hb3 1).trans rfl
    have r2 : wf.cell? ⟨w.heap.size, 2, none⟩ = some (.slice none 0 0) := (block_cell hb3 2).trans rfl
    refine bodyPost_ret (by simp [results, Try.results59, go_sem, r0, r1, r2]; try rfl) rfl ?_
    exact ⟨_, _, _, _, _, _, _, rfl, After.of_bad HE2.out hy hqz, fun j t h => by rw [HE2.out] at h; cases h⟩
  | ok y l =>
    have HE2 := hide (show pOne s (f + 1) i = .ok y (Ty.mk 1 l []) by rw [HE.out, hp]; rfl)
    have HPC := hide (show ∀ W, W.heap[c]? = some (.cells #[.string s, .int .i64 m, .int .i64 (-1)] 67 (0, 0)) → Calls Try.prog 33 #[.pointer (some ⟨c, 0, none⟩), .string x, .int .i64 (d + 1)] W fun r w' => ∃ (A : Option Addr) (n q : Nat), r = .returned (.slice A n q) ∧ Pb c 67 s y (-1) W w' ∧ PartsNew f W w' A n q l from fun W h => (HPT.out W x m hxs hms h).mono fun r w' ⟨A, n, q, h1, h2, h3⟩ => ⟨A, n, q, h1, (pFrom_some hx0 _ _ _ _ _ ▸ h2).ok hp, h3 _ _ ((pFrom_some hx0 _ _ _ _ _).trans hp)⟩)
    clear hp
    go_enter Try.func59, Try.ntmps59
    go_wp2_with (first | (go_at_call 57; refine (HID.out _ HSA.out.box).mono ?_; rintro r w1 ⟨rfl, hq1⟩; have HQ1 := hide (HSA.out.trans hq1); have HB1 := hide (hq1.bu.keep _ _ HBX.out (by omega)); have c1 := HQ1.out.c1; have c2 := HQ1.out.c2; have hz1 := HQ1.out.size; have hl1 : w.heap.size < w1.heap.size := lt_of_block HB1.out; clear hq1) | (go_at_call 33; refine (HPC.out _ HQ1.out.box).mono ?_; rintro r w2 ⟨A2, n2, q2, rfl, hq2, hpn⟩; have HPN := hide hpn; have HQ2 := hide (HQ1.out.trans hq2); have HB2 := hide (hq2.bu.keep _ _ HB1.out (by omega)); have z0 : w2.cell? ⟨w.heap.size, 0, none⟩ = some (.int .i64 0) := (block_cell HB2.out 0).trans rfl; have zf0 : w2.frozen? ⟨w.heap.size, 0, none⟩ = false := block_free HB2.out 0; have z1 : w2.cell? ⟨w.heap.size, 1, none⟩ = some (.slice none 0 0) := (block_cell HB2.out 1).trans rfl; have zf1 : w2.frozen? ⟨w.heap.size, 1, none⟩ = false := block_free HB2.out 1; have z2 : w2.cell? ⟨w.heap.size, 2, none⟩ = some (.slice none 0 0) := (block_cell HB2.out 2).trans rfl; have zf2 : w2.frozen? ⟨w.heap.size, 2, none⟩ = false := block_free HB2.out 2; clear hq2 hpn))
    have hb3 := block_set (block_set (block_set HB2.out (i := 0) (.int .i64 1)) (i := 1) (.slice A2 n2 q2)) (i := 2) (.slice none 0 0)
    have hqz := ((HQ2.out.other (b := w.heap.size) (j := 0) (Nat.le_refl _) hcw (.int .i64 1)).other (b := w.heap.size) (j := 1) (Nat.le_refl _) hcw (.slice A2 n2 q2)).other (b := w.heap.size) (j := 2) (Nat.le_refl _) hcw (.slice none 0 0)
    have hst := stay_set3 w2 w.heap.size (.int .i64 1) (.slice A2 n2 q2) (.slice none 0 0)
    generalize (((w2.setCell ⟨w.heap.size, 0, none⟩ (.int .i64 1)).setCell ⟨w.heap.size, 1, none⟩ (.slice A2 n2 q2)).setCell ⟨w.heap.size, 2, none⟩ (.slice none 0 0)) = wf at hb3 hqz hst ⊢
    have r0 : wf.cell? ⟨w.heap.size, 0, none⟩ = some (.int .i64 1) := (block_cell hb3 0).trans rfl
    have r1 : wf.cell? ⟨w.heap.size, 1, none⟩ = some (.slice A2 n2 q2) := (block_cell hb3 1).trans rfl
    have r2 : wf.cell? ⟨w.heap.size, 2, none⟩ = some (.slice none 0 0) := (block_cell hb3 2).trans rfl
    refine bodyPost_ret (by simp [results, Try.results59, go_sem, r0, r1, r2]; try rfl) rfl ?_
    exact ⟨_, _, _, _, _, _, _, rfl, After.of_ok HE2.out hqz, fun j t h => by rw [HE2.out] at h; cases h; exact plain_new HPN.out hst hl1⟩
set_option maxRecDepth 100000 in
set_option maxHeartbeats 8000000 in
theorem nOne_ref {f : Nat} (H : nOneOk f) (HT : nTysOk f) (HPA : nPartsOk f) (c : Nat) (s : ByteArray) (i m : Nat) (x : ByteArray) (d : Int) (w : World) (hs : s.size ≤ 8000) (hi : i ≤ s.size) (hd : d = 12 - ((f + 1 : Nat) : Int)) (hf : f + 1 ≤ 12) (hid : idL s i ≠ 0)
    (hx : s.extract i (i + idL s i) = x) (hm : i + idL s i = m) (hms : m ≤ s.size) (h1 : x = refS) (h : w.heap[c]? = some (.cells #[.string s, .int .i64 i, .int .i64 (-1)] 58 (0, 0))) :
  Calls Try.prog 56 #[.pointer (some ⟨c, 0, none⟩), .int .i64 d] w fun e w' => ∃ (k : Int) (A : Option Addr) (n q : Nat) (A' : Option Addr) (n' q' : Nat), e = .returned (.agg #[.int .i64 k, .slice A n q, .slice A' n' q']) ∧
    After c 58 s w (pOne s (f + 1) i) w' ∧ ∀ j t, pOne s (f + 1) i = .ok j t → TyR (f + 1) w' (fun b => w.heap.size ≤ b) t [.int .i64 k, .slice A n q, .slice A' n' q'] := by
  have HSA := hide ((Pb.start h).alloc (.cells #[.int .i64 0, .slice none 0 0, .slice none 0 0] 52))
  have HBX := hide (heap_alloc_new w (.cells #[.int .i64 0, .slice none 0 0, .slice none 0 0] 52))
  have hcw := lt_of_block h
  have hlw : w.heap.size < (w.alloc (.cells #[.int .i64 0, .slice none 0 0, .slice none 0 0] 52)).heap.size := by simp
  have HID := hide (show ∀ W, W.heap[c]? = some (.cells #[.string s, .int .i64 i, .int .i64 (-1)] 58 (0, 0)) → Calls Try.prog 28 #[.pointer (some ⟨c, 0, none⟩)] W fun e w' => e = .returned (.string x) ∧ Pb c 58 s m (-1) W w' from fun W h => by have h1 := nIdent_on c s i W hs hi h; rw [idWr, if_neg hid, hx, hm] at h1; exact h1)
  have hd0 : 0 ≤ d := by omega
  have hd12 : decide (12 ≤ d) = false := by simp; omega
  have hd11 : d ≤ 11 := by omega
  have HON := hide (fun W j hj h => H c s j (d + 1) W hs hj (by omega) h)
  have HTY := hide (fun W j hj h => HT c s j (d + 1) W hs hj (by omega) h)
  have HPT := hide (fun W x j hx hj h => HPA c s x j (d + 1) W hs hx hj (by omega) h)
  have c1 : (w.alloc (.cells #[.int .i64 0, .slice none 0 0, .slice none 0 0] 52)).cell? ⟨c, 1, none⟩ = some (.int .i64 i) := HSA.out.c1
  have HE := hide (pOne_ref (f := f) hid (by rw [hx]; exact h1))
  rw [hm] at HE
  unfold pRef at HE
  have hxl : x = ⟨#[114, 101, 102]⟩ := h1
  subst hxl
  clear h h1 hid hx hm H HT HPA hd
  cases hk : needB s [32] m with
  | bad e =>
    have HE2 := hide (show pOne s (f + 1) i = .bad e by rw [HE.out, hk]; rfl)
    have HKB := hide (show ∀ W, W.heap[c]? = some (.cells #[.string s, .int .i64 m, .int .i64 (-1)] 58 (0, 0)) → Calls Try.prog 29 #[.pointer (some ⟨c, 0, none⟩), .string ⟨#[32]⟩] W fun r w' => r = .returned (.tuple #[]) ∧ ∃ i : Nat, i ≤ s.size ∧ Pb c 58 s i (e : Nat) W w' from fun W h => (nTake_on c s ⟨#[32]⟩ m W hs (by decide) hms h).mono fun r w' ⟨h1, h2⟩ => ⟨h1, h2.bad hk⟩)
    clear hk
    have hoff : decide (((e : Nat) : Int) < 0) = false := by simp
    go_enter Try.func56, Try.ntmps56
    go_wp2_with (first | (go_at_call 28; refine (HID.out _ HSA.out.box).mono ?_; rintro r w1 ⟨rfl, hq1⟩; have HQ1 := hide (HSA.out.trans hq1); have HB1 := hide (hq1.bu.keep _ _ HBX.out (by omega)); have c1 := HQ1.out.c1; have c2 := HQ1.out.c2; have hz1 := HQ1.out.size; have hl1 : w.heap.size < w1.heap.size := lt_of_block HB1.out; clear hq1) | (go_at_call 29; refine (HKB.out _ HQ1.out.box).mono ?_; rintro r w2 ⟨rfl, y, hy, hq2⟩; have HQ2 := hide (HQ1.out.trans hq2); have HB2 := hide (hq2.bu.keep _ _ HB1.out (by omega)); have hz2 := HQ2.out.size; have hl2 : w.heap.size < w2.heap.size := lt_of_block HB2.out; have c2 := HQ2.out.c2; clear hq2) | (go_at_call 56; refine (nOne_off c s y (e : Nat) _ _ (by omega) hs hy HQ2.out.box).mono ?_; rintro r w3 ⟨rfl, hq3⟩; have HQ3 := hide ((HQ2.out.trans hq3).alloc (.cells #[.int .i64 0, .slice none 0 0, .slice none 0 0] 52)); have HB3 := hide (block_below (hq3.bu.keep _ _ HB2.out (by omega)) ((Below.refl _ _).alloc (Nat.le_refl _) (.cells #[.int .i64 0, .slice none 0 0, .slice none 0 0] 52))); have z0 : (w3.alloc (.cells #[.int .i64 0, .slice none 0 0, .slice none 0 0] 52)).cell? ⟨w.heap.size, 0, none⟩ = some (.int .i64 0) := (block_cell HB3.out 0).trans rfl; have zf0 : (w3.alloc (.cells #[.int .i64 0, .slice none 0 0, .slice none 0 0] 52)).frozen? ⟨w.heap.size, 0, none⟩ = false := block_free HB3.out 0; have z1 : (w3.alloc (.cells #[.int .i64 0, .slice none 0 0, .slice none 0 0] 52)).cell? ⟨w.heap.size, 1, none⟩ = some (.slice none 0 0) := (block_cell HB3.out 1).trans rfl; have zf1 : (w3.alloc (.cells #[.int .i64 0, .slice none 0 0, .slice none 0 0] 52)).frozen? ⟨w.heap.size, 1, none⟩ = false := block_free HB3.out 1; have z2 : (w3.alloc (.cells #[.int .i64 0, .slice none 0 0, .slice none 0 0] 52)).cell? ⟨w.heap.size, 2, none⟩ = some (.slice none 0 0) := (block_cell HB3.out 2).trans rfl; have zf2 : (w3.alloc (.cells #[.int .i64 0, .slice none 0 0, .slice none 0 0] 52)).frozen? ⟨w.heap.size, 2, none⟩ = false := block_free HB3.out 2; clear hq3))
    have hb3 := block_set (block_set (block_set HB3.out (i := 0) (.int .i64 2)) (i := 1) (.slice none 0 0)) (i := 2) (.slice (some ⟨w3.heap.size, 0, none⟩) 1 1)
    have hqz := ((HQ3.out.other (b := w.heap.size) (j := 0) (Nat.le_refl _) hcw (.int .i64 2)).other (b := w.heap.size) (j := 1) (Nat.le_refl _) hcw (.slice none 0 0)).other (b := w.heap.size) (j := 2) (Nat.le_refl _) hcw (.slice (some ⟨w3.heap.size, 0, none⟩) 1 1)
    have hst := stay_set3 (w3.alloc (.cells #[.int .i64 0, .slice none 0 0, .slice none 0 0] 52)) w.heap.size (.int .i64 2) (.slice none 0 0) (.slice (some ⟨w3.heap.size, 0, none⟩) 1 1)
    generalize ((((w3.alloc (.cells #[.int .i64 0, .slice none 0 0, .slice none 0 0] 52)).setCell ⟨w.heap.size, 0, none⟩ (.int .i64 2)).setCell ⟨w.heap.size, 1, none⟩ (.slice none 0 0)).setCell ⟨w.heap.size, 2, none⟩ (.slice (some ⟨w3.heap.size, 0, none⟩) 1 1)) = wf at hb3 hqz hst ⊢
    have r0 : wf.cell? ⟨w.heap.size, 0, none⟩ = some (.int .i64 2) := (block_cell hb3 0).trans rfl
    have r1 : wf.cell? ⟨w.heap.size, 1, none⟩ = some (.slice none 0 0) := (block_cell hb3 1).trans rfl
    have r2 : wf.cell? ⟨w.heap.size, 2, none⟩ = some (.slice (some ⟨w3.heap.size, 0, none⟩) 1 1) := (block_cell hb3 2).trans rfl
    refine bodyPost_ret (by simp [results, Try.results56, go_sem, r0, r1, r2]; try rfl) rfl ?_
    exact ⟨_, _, _, _, _, _, _, rfl, After.of_bad HE2.out hy hqz, fun j t h => by rw [HE2.out] at h; cases h⟩
  | ok j u =>
    have hjs := (needB_ok s [32] m j u hms hk).2
    have HKG := hide (show ∀ W, W.heap[c]? = some (.cells #[.string s, .int .i64 m, .int .i64 (-1)] 58 (0, 0)) → Calls Try.prog 29 #[.pointer (some ⟨c, 0, none⟩), .string ⟨#[32]⟩] W fun r w' => r = .returned (.tuple #[]) ∧ Pb c 58 s j (-1) W w' from fun W h => (nTake_on c s ⟨#[32]⟩ m W hs (by decide) hms h).mono fun r w' ⟨h1, h2⟩ => ⟨h1, h2.ok hk⟩)
    cases hr : pOne s f j with
    | bad e =>
      have HE2 := hide (show pOne s (f + 1) i = .bad e by rw [HE.out, hk]; simp only [Res.bind]; rw [hr])
      have HOC := hide (show ∀ W, W.heap[c]? = some (.cells #[.string s, .int .i64 j, .int .i64 (-1)] 58 (0, 0)) → Calls Try.prog 56 #[.pointer (some ⟨c, 0, none⟩), .int .i64 (d + 1)] W fun r w' => ∃ (k : Int) (A : Option Addr) (n q : Nat) (A' : Option Addr) (n' q' : Nat), r = .returned (.agg #[.int .i64 k, .slice A n q, .slice A' n' q']) ∧ ∃ i : Nat, i ≤ s.size ∧ Pb c 58 s i (e : Nat) W w' from fun W h => (HON.out W j hjs h).mono fun r w' ⟨k, A, n, q, A', n', q', h1, h2, _⟩ => ⟨k, A, n, q, A', n', q', h1, h2.bad hr⟩)
      clear hk hr
      go_enter Try.func56, Try.ntmps56
      go_wp2_with (first | (go_at_call 28; refine (HID.out _ HSA.out.box).mono ?_; rintro r w1 ⟨rfl, hq1⟩; have HQ1 := hide (HSA.out.trans hq1); have HB1 := hide (hq1.bu.keep _ _ HBX.out (by omega)); have c1 := HQ1.out.c1; have c2 := HQ1.out.c2; have hz1 := HQ1.out.size; have hl1 : w.heap.size < w1.heap.size := lt_of_block HB1.out; clear hq1) | (go_at_call 29; refine (HKG.out _ HQ1.out.box).mono ?_; rintro r w2 ⟨rfl, hq2⟩; have HQ2 := hide (HQ1.out.trans hq2); have HB2 := hide (hq2.bu.keep _ _ HB1.out (by omega)); have hz2 := HQ2.out.size; have hl2 : w.heap.size < w2.heap.size := lt_of_block HB2.out; have c2 := HQ2.out.c2; clear hq2) | (go_at_call 56; refine (HOC.out _ HQ2.out.box).mono ?_; rintro r w3 ⟨k3, A3, n3, q3, A4, n4, q4, rfl, y, hy, hq3⟩; have HQ3 := hide ((HQ2.out.trans hq3).alloc (.cells #[.int .i64 k3, .slice A3 n3 q3, .slice A4 n4 q4] 52)); have HB3 := hide (block_below (hq3.bu.keep _ _ HB2.out (by omega)) ((Below.refl _ _).alloc (Nat.le_refl _) (.cells #[.int .i64 k3, .slice A3 n3 q3, .slice A4 n4 q4] 52))); have z0 : (w3.alloc (.cells #[.int .i64 k3, .slice A3 n3 q3, .slice A4 n4 q4] 52)).cell? ⟨w.heap.size, 0, none⟩ = some (.int .i64 0) := (block_cell HB3.out 0).trans rfl; have zf0 : (w3.alloc (.cells #[.int .i64 k3, .slice A3 n3 q3, .slice A4 n4 q4] 52)).frozen? ⟨w.heap.size, 0, none⟩ = false := block_free HB3.out 0; have z1 : (w3.alloc (.cells #[.int .i64 k3, .slice A3 n3 q3, .slice A4 n4 q4] 52)).cell? ⟨w.heap.size, 1, none⟩ = some (.slice none 0 0) := (block_cell HB3.out 1).trans rfl; have zf1 : (w3.alloc (.cells #[.int .i64 k3, .slice A3 n3 q3, .slice A4 n4 q4] 52)).frozen? ⟨w.heap.size, 1, none⟩ = false := block_free HB3.out 1; have z2 : (w3.alloc (.cells #[.int .i64 k3, .slice A3 n3 q3, .slice A4 n4 q4] 52)).cell? ⟨w.heap.size, 2, none⟩ = some (.slice none 0 0) := (block_cell HB3.out 2).trans rfl; have zf2 : (w3.alloc (.cells #[.int .i64 k3, .slice A3 n3 q3, .slice A4 n4 q4] 52)).frozen? ⟨w.heap.size, 2, none⟩ = false := block_free HB3.out 2; clear hq3))
      have hb3 := block_set (block_set (block_set HB3.out (i := 0) (.int .i64 2)) (i := 1) (.slice none 0 0)) (i := 2) (.slice (some ⟨w3.heap.size, 0, none⟩) 1 1)
      have hqz := ((HQ3.out.other (b := w.heap.size) (j := 0) (Nat.le_refl _) hcw (.int .i64 2)).other (b := w.heap.size) (j := 1) (Nat.le_refl _) hcw (.slice none 0 0)).other (b := w.heap.size) (j := 2) (Nat.le_refl _) hcw (.slice (some ⟨w3.heap.size, 0, none⟩) 1 1)
      have hst := stay_set3 (w3.alloc (.cells #[.int .i64 k3, .slice A3 n3 q3, .slice A4 n4 q4] 52)) w.heap.size (.int .i64 2) (.slice none 0 0) (.slice (some ⟨w3.heap.size, 0, none⟩) 1 1)
      generalize ((((w3.alloc (.cells #[.int .i64 k3, .slice A3 n3 q3, .slice A4 n4 q4] 52)).setCell ⟨w.heap.size, 0, none⟩ (.int .i64 2)).setCell ⟨w.heap.size, 1, none⟩ (.slice none 0 0)).setCell ⟨w.heap.size, 2, none⟩ (.slice (some ⟨w3.heap.size, 0, none⟩) 1 1)) = wf at hb3 hqz hst ⊢
      have r0 : wf.cell? ⟨w.heap.size, 0, none⟩ = some (.int .i64 2) := (block_cell hb3 0).trans rfl
      have r1 : wf.cell? ⟨w.heap.size, 1, none⟩ = some (.slice none 0 0) := (block_cell hb3 1).trans rfl
      have r2 : wf.cell? ⟨w.heap.size, 2, none⟩ = some (.slice (some ⟨w3.heap.size, 0, none⟩) 1 1) := (block_cell hb3 2).trans rfl
      refine bodyPost_ret (by simp [results, Try.results56, go_sem, r0, r1, r2]; try rfl) rfl ?_
      exact ⟨_, _, _, _, _, _, _, rfl, After.of_bad HE2.out hy hqz, fun j t h => by rw [HE2.out] at h; cases h⟩
    | ok y t =>
      have HE2 := hide (show pOne s (f + 1) i = .ok y (Ty.mk 2 [] [t]) by rw [HE.out, hk]; simp only [Res.bind]; rw [hr])
      have HOC := hide (show ∀ W, W.heap[c]? = some (.cells #[.string s, .int .i64 j, .int .i64 (-1)] 58 (0, 0)) → Calls Try.prog 56 #[.pointer (some ⟨c, 0, none⟩), .int .i64 (d + 1)] W fun r w' => ∃ (k : Int) (A : Option Addr) (n q : Nat) (A' : Option Addr) (n' q' : Nat), r = .returned (.agg #[.int .i64 k, .slice A n q, .slice A' n' q']) ∧ Pb c 58 s y (-1) W w' ∧ TyR f w' (fun b => W.heap.size ≤ b) t [.int .i64 k, .slice A n q, .slice A' n' q'] from fun W h => (HON.out W j hjs h).mono fun r w' ⟨k, A, n, q, A', n', q', h1, h2, h3⟩ => ⟨k, A, n, q, A', n', q', h1, h2.ok hr, h3 _ _ hr⟩)
      clear hk hr
      go_enter Try.func56, Try.ntmps56
      go_wp2_with (first | (go_at_call 28; refine (HID.out _ HSA.out.box).mono ?_; rintro r w1 ⟨rfl, hq1⟩; have HQ1 := hide (HSA.out.trans hq1); have HB1 := hide (hq1.bu.keep _ _ HBX.out (by omega)); have c1 := HQ1.out.c1; have c2 := HQ1.out.c2; have hz1 := HQ1.out.size; have hl1 : w.heap.size < w1.heap.size := lt_of_block HB1.out; clear hq1) | (go_at_call 29; refine (HKG.out _ HQ1.out.box).mono ?_; rintro r w2 ⟨rfl, hq2⟩; have HQ2 := hide (HQ1.out.trans hq2); have HB2 := hide (hq2.bu.keep _ _ HB1.out (by omega)); have hz2 := HQ2.out.size; have hl2 : w.heap.size < w2.heap.size := lt_of_block HB2.out; have c2 := HQ2.out.c2; clear hq2) | (go_at_call 56; refine (HOC.out _ HQ2.out.box).mono ?_; rintro r w3 ⟨k3, A3, n3, q3, A4, n4, q4, rfl, hq3, hty⟩; have HTR := hide hty; have hz3 := hq3.size; have HQ3 := hide ((HQ2.out.trans hq3).alloc (.cells #[.int .i64 k3, .slice A3 n3 q3, .slice A4 n4 q4] 52)); have HB3 := hide (block_below (hq3.bu.keep _ _ HB2.out (by omega)) ((Below.refl _ _).alloc (Nat.le_refl _) (.cells #[.int .i64 k3, .slice A3 n3 q3, .slice A4 n4 q4] 52))); have z0 : (w3.alloc (.cells #[.int .i64 k3, .slice A3 n3 q3, .slice A4 n4 q4] 52)).cell? ⟨w.heap.size, 0, none⟩ = some (.int .i64 0) := (block_cell HB3.out 0).trans rfl; have zf0 : (w3.alloc (.cells #[.int .i64 k3, .slice A3 n3 q3, .slice A4 n4 q4] 52)).frozen? ⟨w.heap.size, 0, none⟩ = false := block_free HB3.out 0; have z1 : (w3.alloc (.cells #[.int .i64 k3, .slice A3 n3 q3, .slice A4 n4 q4] 52)).cell? ⟨w.heap.size, 1, none⟩ = some (.slice none 0 0) := (block_cell HB3.out 1).trans rfl; have zf1 : (w3.alloc (.cells #[.int .i64 k3, .slice A3 n3 q3, .slice A4 n4 q4] 52)).frozen? ⟨w.heap.size, 1, none⟩ = false := block_free HB3.out 1; have z2 : (w3.alloc (.cells #[.int .i64 k3, .slice A3 n3 q3, .slice A4 n4 q4] 52)).cell? ⟨w.heap.size, 2, none⟩ = some (.slice none 0 0) := (block_cell HB3.out 2).trans rfl; have zf2 : (w3.alloc (.cells #[.int .i64 k3, .slice A3 n3 q3, .slice A4 n4 q4] 52)).frozen? ⟨w.heap.size, 2, none⟩ = false := block_free HB3.out 2; clear hq3 hty))
      have hb3 := block_set (block_set (block_set HB3.out (i := 0) (.int .i64 2)) (i := 1) (.slice none 0 0)) (i := 2) (.slice (some ⟨w3.heap.size, 0, none⟩) 1 1)
      have hqz := ((HQ3.out.other (b := w.heap.size) (j := 0) (Nat.le_refl _) hcw (.int .i64 2)).other (b := w.heap.size) (j := 1) (Nat.le_refl _) hcw (.slice none 0 0)).other (b := w.heap.size) (j := 2) (Nat.le_refl _) hcw (.slice (some ⟨w3.heap.size, 0, none⟩) 1 1)
      have hst := stay_set3 (w3.alloc (.cells #[.int .i64 k3, .slice A3 n3 q3, .slice A4 n4 q4] 52)) w.heap.size (.int .i64 2) (.slice none 0 0) (.slice (some ⟨w3.heap.size, 0, none⟩) 1 1)
      generalize ((((w3.alloc (.cells #[.int .i64 k3, .slice A3 n3 q3, .slice A4 n4 q4] 52)).setCell ⟨w.heap.size, 0, none⟩ (.int .i64 2)).setCell ⟨w.heap.size, 1, none⟩ (.slice none 0 0)).setCell ⟨w.heap.size, 2, none⟩ (.slice (some ⟨w3.heap.size, 0, none⟩) 1 1)) = wf at hb3 hqz hst ⊢
      have r0 : wf.cell? ⟨w.heap.size, 0, none⟩ = some (.int .i64 2) := (block_cell hb3 0).trans rfl
      have r1 : wf.cell? ⟨w.heap.size, 1, none⟩ = some (.slice none 0 0) := (block_cell hb3 1).trans rfl
      have r2 : wf.cell? ⟨w.heap.size, 2, none⟩ = some (.slice (some ⟨w3.heap.size, 0, none⟩) 1 1) := (block_cell hb3 2).trans rfl
      refine bodyPost_ret (by simp [results, Try.results56, go_sem, r0, r1, r2]; try rfl) rfl ?_
      exact ⟨_, _, _, _, _, _, _, rfl, After.of_ok HE2.out hqz, fun j t h => by rw [HE2.out] at h; cases h; exact ref_new HTR.out hst hl2 hz3⟩
set_option maxRecDepth 100000 in
set_option maxHeartbeats 8000000 in
theorem nOne_list {f : Nat} (H : nOneOk f) (HT : nTysOk f) (HPA : nPartsOk f) (c : Nat) (s : ByteArray) (i m : Nat) (x : ByteArray) (d : Int) (w : World) (hs : s.size ≤ 8000) (hi : i ≤ s.size) (hd : d = 12 - ((f + 1 : Nat) : Int)) (hf : f + 1 ≤ 12) (hid : idL s i ≠ 0)
    (hx : s.extract i (i + idL s i) = x) (hm : i + idL s i = m) (hms : m ≤ s.size) (h1 : x = listS) (h : w.heap[c]? = some (.cells #[.string s, .int .i64 i, .int .i64 (-1)] 58 (0, 0))) :
  Calls Try.prog 56 #[.pointer (some ⟨c, 0, none⟩), .int .i64 d] w fun e w' => ∃ (k : Int) (A : Option Addr) (n q : Nat) (A' : Option Addr) (n' q' : Nat), e = .returned (.agg #[.int .i64 k, .slice A n q, .slice A' n' q']) ∧
    After c 58 s w (pOne s (f + 1) i) w' ∧ ∀ j t, pOne s (f + 1) i = .ok j t → TyR (f + 1) w' (fun b => w.heap.size ≤ b) t [.int .i64 k, .slice A n q, .slice A' n' q'] := by
  have HSA := hide ((Pb.start h).alloc (.cells #[.int .i64 0, .slice none 0 0, .slice none 0 0] 52))
  have HBX := hide (heap_alloc_new w (.cells #[.int .i64 0, .slice none 0 0, .slice none 0 0] 52))
  have hcw := lt_of_block h
  have hlw : w.heap.size < (w.alloc (.cells #[.int .i64 0, .slice none 0 0, .slice none 0 0] 52)).heap.size := by simp
  have HID := hide (show ∀ W, W.heap[c]? = some (.cells #[.string s, .int .i64 i, .int .i64 (-1)] 58 (0, 0)) → Calls Try.prog 28 #[.pointer (some ⟨c, 0, none⟩)] W fun e w' => e = .returned (.string x) ∧ Pb c 58 s m (-1) W w' from fun W h => by have h1 := nIdent_on c s i W hs hi h; rw [idWr, if_neg hid, hx, hm] at h1; exact h1)
  have hd0 : 0 ≤ d := by omega
  have hd12 : decide (12 ≤ d) = false := by simp; omega
  have hd11 : d ≤ 11 := by omega
  have HON := hide (fun W j hj h => H c s j (d + 1) W hs hj (by omega) h)
  have HTY := hide (fun W j hj h => HT c s j (d + 1) W hs hj (by omega) h)
  have HPT := hide (fun W x j hx hj h => HPA c s x j (d + 1) W hs hx hj (by omega) h)
  have c1 : (w.alloc (.cells #[.int .i64 0, .slice none 0 0, .slice none 0 0] 52)).cell? ⟨c, 1, none⟩ = some (.int .i64 i) := HSA.out.c1
  have HE := hide (pOne_list (f := f) hid (by rw [hx, h1]; decide) (by rw [hx]; exact h1))
  rw [hm] at HE
  unfold pRef at HE
  have hxl : x = ⟨#[108, 105, 115, 116]⟩ := h1
  subst hxl
  clear h h1 hid hx hm H HT HPA hd
  cases hk : needB s [32] m with
  | bad e =>
    have HE2 := hide (show pOne s (f + 1) i = .bad e by rw [HE.out, hk]; rfl)
    have HKB := hide (show ∀ W, W.heap[c]? = some (.cells #[.string s, .int .i64 m, .int .i64 (-1)] 58 (0, 0)) → Calls Try.prog 29 #[.pointer (some ⟨c, 0, none⟩), .string ⟨#[32]⟩] W fun r w' => r = .returned (.tuple #[]) ∧ ∃ i : Nat, i ≤ s.size ∧ Pb c 58 s i (e : Nat) W w' from fun W h => (nTake_on c s ⟨#[32]⟩ m W hs (by decide) hms h).mono fun r w' ⟨h1, h2⟩ => ⟨h1, h2.bad hk⟩)
    clear hk
    have hoff : decide (((e : Nat) : Int) < 0) = false := by simp
    go_enter Try.func56, Try.ntmps56
    go_wp2_with (first | (go_at_call 28; refine (HID.out _ HSA.out.box).mono ?_; rintro r w1 ⟨rfl, hq1⟩; have HQ1 := hide (HSA.out.trans hq1); have HB1 := hide (hq1.bu.keep _ _ HBX.out (by omega)); have c1 := HQ1.out.c1; have c2 := HQ1.out.c2; have hz1 := HQ1.out.size; have hl1 : w.heap.size < w1.heap.size := lt_of_block HB1.out; clear hq1) | (go_at_call 29; refine (HKB.out _ HQ1.out.box).mono ?_; rintro r w2 ⟨rfl, y, hy, hq2⟩; have HQ2 := hide (HQ1.out.trans hq2); have HB2 := hide (hq2.bu.keep _ _ HB1.out (by omega)); have hz2 := HQ2.out.size; have hl2 : w.heap.size < w2.heap.size := lt_of_block HB2.out; have c2 := HQ2.out.c2; clear hq2) | (go_at_call 56; refine (nOne_off c s y (e : Nat) _ _ (by omega) hs hy HQ2.out.box).mono ?_; rintro r w3 ⟨rfl, hq3⟩; have HQ3 := hide ((HQ2.out.trans hq3).alloc (.cells #[.int .i64 0, .slice none 0 0, .slice none 0 0] 52)); have HB3 := hide (block_below (hq3.bu.keep _ _ HB2.out (by omega)) ((Below.refl _ _).alloc (Nat.le_refl _) (.cells #[.int .i64 0, .slice none 0 0, .slice none 0 0] 52))); have z0 : (w3.alloc (.cells #[.int .i64 0, .slice none 0 0, .slice none 0 0] 52)).cell? ⟨w.heap.size, 0, none⟩ = some (.int .i64 0) := (block_cell HB3.out 0).trans rfl; have zf0 : (w3.alloc (.cells #[.int .i64 0, .slice none 0 0, .slice none 0 0] 52)).frozen? ⟨w.heap.size, 0, none⟩ = false := block_free HB3.out 0; have z1 : (w3.alloc (.cells #[.int .i64 0, .slice none 0 0, .slice none 0 0] 52)).cell? ⟨w.heap.size, 1, none⟩ = some (.slice none 0 0) := (block_cell HB3.out 1).trans rfl; have zf1 : (w3.alloc (.cells #[.int .i64 0, .slice none 0 0, .slice none 0 0] 52)).frozen? ⟨w.heap.size, 1, none⟩ = false := block_free HB3.out 1; have z2 : (w3.alloc (.cells #[.int .i64 0, .slice none 0 0, .slice none 0 0] 52)).cell? ⟨w.heap.size, 2, none⟩ = some (.slice none 0 0) := (block_cell HB3.out 2).trans rfl; have zf2 : (w3.alloc (.cells #[.int .i64 0, .slice none 0 0, .slice none 0 0] 52)).frozen? ⟨w.heap.size, 2, none⟩ = false := block_free HB3.out 2; clear hq3))
    have hb3 := block_set (block_set (block_set HB3.out (i := 0) (.int .i64 3)) (i := 1) (.slice none 0 0)) (i := 2) (.slice (some ⟨w3.heap.size, 0, none⟩) 1 1)
    have hqz := ((HQ3.out.other (b := w.heap.size) (j := 0) (Nat.le_refl _) hcw (.int .i64 3)).other (b := w.heap.size) (j := 1) (Nat.le_refl _) hcw (.slice none 0 0)).other (b := w.heap.size) (j := 2) (Nat.le_refl _) hcw (.slice (some ⟨w3.heap.size, 0, none⟩) 1 1)
    have hst := stay_set3 (w3.alloc (.cells #[.int .i64 0, .slice none 0 0, .slice none 0 0] 52)) w.heap.size (.int .i64 3) (.slice none 0 0) (.slice (some ⟨w3.heap.size, 0, none⟩) 1 1)
    generalize ((((w3.alloc (.cells #[.int .i64 0, .slice none 0 0, .slice none 0 0] 52)).setCell ⟨w.heap.size, 0, none⟩ (.int .i64 3)).setCell ⟨w.heap.size, 1, none⟩ (.slice none 0 0)).setCell ⟨w.heap.size, 2, none⟩ (.slice (some ⟨w3.heap.size, 0, none⟩) 1 1)) = wf at hb3 hqz hst ⊢
    have r0 : wf.cell? ⟨w.heap.size, 0, none⟩ = some (.int .i64 3) := (block_cell hb3 0).trans rfl
    have r1 : wf.cell? ⟨w.heap.size, 1, none⟩ = some (.slice none 0 0) := (block_cell hb3 1).trans rfl
    have r2 : wf.cell? ⟨w.heap.size, 2, none⟩ = some (.slice (some ⟨w3.heap.size, 0, none⟩) 1 1) := (block_cell hb3 2).trans rfl
    refine bodyPost_ret (by simp [results, Try.results56, go_sem, r0, r1, r2]; try rfl) rfl ?_
    exact ⟨_, _, _, _, _, _, _, rfl, After.of_bad HE2.out hy hqz, fun j t h => by rw [HE2.out] at h; cases h⟩
  | ok j u =>
    have hjs := (needB_ok s [32] m j u hms hk).2
    have HKG := hide (show ∀ W, W.heap[c]? = some (.cells #[.string s, .int .i64 m, .int .i64 (-1)] 58 (0, 0)) → Calls Try.prog 29 #[.pointer (some ⟨c, 0, none⟩), .string ⟨#[32]⟩] W fun r w' => r = .returned (.tuple #[]) ∧ Pb c 58 s j (-1) W w' from fun W h => (nTake_on c s ⟨#[32]⟩ m W hs (by decide) hms h).mono fun r w' ⟨h1, h2⟩ => ⟨h1, h2.ok hk⟩)
    cases hr : pOne s f j with
    | bad e =>
      have HE2 := hide (show pOne s (f + 1) i = .bad e by rw [HE.out, hk]; simp only [Res.bind]; rw [hr])
      have HOC := hide (show ∀ W, W.heap[c]? = some (.cells #[.string s, .int .i64 j, .int .i64 (-1)] 58 (0, 0)) → Calls Try.prog 56 #[.pointer (some ⟨c, 0, none⟩), .int .i64 (d + 1)] W fun r w' => ∃ (k : Int) (A : Option Addr) (n q : Nat) (A' : Option Addr) (n' q' : Nat), r = .returned (.agg #[.int .i64 k, .slice A n q, .slice A' n' q']) ∧ ∃ i : Nat, i ≤ s.size ∧ Pb c 58 s i (e : Nat) W w' from fun W h => (HON.out W j hjs h).mono fun r w' ⟨k, A, n, q, A', n', q', h1, h2, _⟩ => ⟨k, A, n, q, A', n', q', h1, h2.bad hr⟩)
      clear hk hr
      go_enter Try.func56, Try.ntmps56
      go_wp2_with (first | (go_at_call 28; refine (HID.out _ HSA.out.box).mono ?_; rintro r w1 ⟨rfl, hq1⟩; have HQ1 := hide (HSA.out.trans hq1); have HB1 := hide (hq1.bu.keep _ _ HBX.out (by omega)); have c1 := HQ1.out.c1; have c2 := HQ1.out.c2; have hz1 := HQ1.out.size; have hl1 : w.heap.size < w1.heap.size := lt_of_block HB1.out; clear hq1) | (go_at_call 29; refine (HKG.out _ HQ1.out.box).mono ?_; rintro r w2 ⟨rfl, hq2⟩; have HQ2 := hide (HQ1.out.trans hq2); have HB2 := hide (hq2.bu.keep _ _ HB1.out (by omega)); have hz2 := HQ2.out.size; have hl2 : w.heap.size < w2.heap.size := lt_of_block HB2.out; have c2 := HQ2.out.c2; clear hq2) | (go_at_call 56; refine (HOC.out _ HQ2.out.box).mono ?_; rintro r w3 ⟨k3, A3, n3, q3, A4, n4, q4, rfl, y, hy, hq3⟩; have HQ3 := hide ((HQ2.out.trans hq3).alloc (.cells #[.int .i64 k3, .slice A3 n3 q3, .slice A4 n4 q4] 52)); have HB3 := hide (block_below (hq3.bu.keep _ _ HB2.out (by omega)) ((Below.refl _ _).alloc (Nat.le_refl _) (.cells #[.int .i64 k3, .slice A3 n3 q3, .slice A4 n4 q4] 52))); have z0 : (w3.alloc (.cells #[.int .i64 k3, .slice A3 n3 q3, .slice A4 n4 q4] 52)).cell? ⟨w.heap.size, 0, none⟩ = some (.int .i64 0) := (block_cell HB3.out 0).trans rfl; have zf0 : (w3.alloc (.cells #[.int .i64 k3, .slice A3 n3 q3, .slice A4 n4 q4] 52)).frozen? ⟨w.heap.size, 0, none⟩ = false := block_free HB3.out 0; have z1 : (w3.alloc (.cells #[.int .i64 k3, .slice A3 n3 q3, .slice A4 n4 q4] 52)).cell? ⟨w.heap.size, 1, none⟩ = some (.slice none 0 0) := (block_cell HB3.out 1).trans rfl; have zf1 : (w3.alloc (.cells #[.int .i64 k3, .slice A3 n3 q3, .slice A4 n4 q4] 52)).frozen? ⟨w.heap.size, 1, none⟩ = false := block_free HB3.out 1; have z2 : (w3.alloc (.cells #[.int .i64 k3, .slice A3 n3 q3, .slice A4 n4 q4] 52)).cell? ⟨w.heap.size, 2, none⟩ = some (.slice none 0 0) := (block_cell HB3.out 2).trans rfl; have zf2 : (w3.alloc (.cells #[.int .i64 k3, .slice A3 n3 q3, .slice A4 n4 q4] 52)).frozen? ⟨w.heap.size, 2, none⟩ = false := block_free HB3.out 2; clear hq3))
      have hb3 := block_set (block_set (block_set HB3.out (i := 0) (.int .i64 3)) (i := 1) (.slice none 0 0)) (i := 2) (.slice (some ⟨w3.heap.size, 0, none⟩) 1 1)
      have hqz := ((HQ3.out.other (b := w.heap.size) (j := 0) (Nat.le_refl _) hcw (.int .i64 3)).other (b := w.heap.size) (j := 1) (Nat.le_refl _) hcw (.slice none 0 0)).other (b := w.heap.size) (j := 2) (Nat.le_refl _) hcw (.slice (some ⟨w3.heap.size, 0, none⟩) 1 1)
      have hst := stay_set3 (w3.alloc (.cells #[.int .i64 k3, .slice A3 n3 q3, .slice A4 n4 q4] 52)) w.heap.size (.int .i64 3) (.slice none 0 0) (.slice (some ⟨w3.heap.size, 0, none⟩) 1 1)
      generalize ((((w3.alloc (.cells #[.int .i64 k3, .slice A3 n3 q3, .slice A4 n4 q4] 52)).setCell ⟨w.heap.size, 0, none⟩ (.int .i64 3)).setCell ⟨w.heap.size, 1, none⟩ (.slice none 0 0)).setCell ⟨w.heap.size, 2, none⟩ (.slice (some ⟨w3.heap.size, 0, none⟩) 1 1)) = wf at hb3 hqz hst ⊢
      have r0 : wf.cell? ⟨w.heap.size, 0, none⟩ = some (.int .i64 3) := (block_cell hb3 0).trans rfl
      have r1 : wf.cell? ⟨w.heap.size, 1, none⟩ = some (.slice none 0 0) := (block_cell hb3 1).trans rfl
      have r2 : wf.cell? ⟨w.heap.size, 2, none⟩ = some (.slice (some ⟨w3.heap.size, 0, none⟩) 1 1) := (block_cell hb3 2).trans rfl
      refine bodyPost_ret (by simp [results, Try.results56, go_sem, r0, r1, r2]; try rfl) rfl ?_
      exact ⟨_, _, _, _, _, _, _, rfl, After.of_bad HE2.out hy hqz, fun j t h => by rw [HE2.out] at h; cases h⟩
    | ok y t =>
      have HE2 := hide (show pOne s (f + 1) i = .ok y (Ty.mk 3 [] [t]) by rw [HE.out, hk]; simp only [Res.bind]; rw [hr])
      have HOC := hide (show ∀ W, W.heap[c]? = some (.cells #[.string s, .int .i64 j, .int .i64 (-1)] 58 (0, 0)) → Calls Try.prog 56 #[.pointer (some ⟨c, 0, none⟩), .int .i64 (d + 1)] W fun r w' => ∃ (k : Int) (A : Option Addr) (n q : Nat) (A' : Option Addr) (n' q' : Nat), r = .returned (.agg #[.int .i64 k, .slice A n q, .slice A' n' q']) ∧ Pb c 58 s y (-1) W w' ∧ TyR f w' (fun b => W.heap.size ≤ b) t [.int .i64 k, .slice A n q, .slice A' n' q'] from fun W h => (HON.out W j hjs h).mono fun r w' ⟨k, A, n, q, A', n', q', h1, h2, h3⟩ => ⟨k, A, n, q, A', n', q', h1, h2.ok hr, h3 _ _ hr⟩)
      clear hk hr
      go_enter Try.func56, Try.ntmps56
      go_wp2_with (first | (go_at_call 28; refine (HID.out _ HSA.out.box).mono ?_; rintro r w1 ⟨rfl, hq1⟩; have HQ1 := hide (HSA.out.trans hq1); have HB1 := hide (hq1.bu.keep _ _ HBX.out (by omega)); have c1 := HQ1.out.c1; have c2 := HQ1.out.c2; have hz1 := HQ1.out.size; have hl1 : w.heap.size < w1.heap.size := lt_of_block HB1.out; clear hq1) | (go_at_call 29; refine (HKG.out _ HQ1.out.box).mono ?_; rintro r w2 ⟨rfl, hq2⟩; have HQ2 := hide (HQ1.out.trans hq2); have HB2 := hide (hq2.bu.keep _ _ HB1.out (by omega)); have hz2 := HQ2.out.size; have hl2 : w.heap.size < w2.heap.size := lt_of_block HB2.out; have c2 := HQ2.out.c2; clear hq2) | (go_at_call 56; refine (HOC.out _ HQ2.out.box).mono ?_; rintro r w3 ⟨k3, A3, n3, q3, A4, n4, q4, rfl, hq3, hty⟩; have HTR := hide hty; have hz3 := hq3.size; have HQ3 := hide ((HQ2.out.trans hq3).alloc (.cells #[.int .i64 k3, .slice A3 n3 q3, .slice A4 n4 q4] 52)); have HB3 := hide (block_below (hq3.bu.keep _ _ HB2.out (by omega)) ((Below.refl _ _).alloc (Nat.le_refl _) (.cells #[.int .i64 k3, .slice A3 n3 q3, .slice A4 n4 q4] 52))); have z0 : (w3.alloc (.cells #[.int .i64 k3, .slice A3 n3 q3, .slice A4 n4 q4] 52)).cell? ⟨w.heap.size, 0, none⟩ = some (.int .i64 0) := (block_cell HB3.out 0).trans rfl; have zf0 : (w3.alloc (.cells #[.int .i64 k3, .slice A3 n3 q3, .slice A4 n4 q4] 52)).frozen? ⟨w.heap.size, 0, none⟩ = false := block_free HB3.out 0; have z1 : (w3.alloc (.cells #[.int .i64 k3, .slice A3 n3 q3, .slice A4 n4 q4] 52)).cell? ⟨w.heap.size, 1, none⟩ = some (.slice none 0 0) := (block_cell HB3.out 1).trans rfl; have zf1 : (w3.alloc (.cells #[.int .i64 k3, .slice A3 n3 q3, .slice A4 n4 q4] 52)).frozen? ⟨w.heap.size, 1, none⟩ = false := block_free HB3.out 1; have z2 : (w3.alloc (.cells #[.int .i64 k3, .slice A3 n3 q3, .slice A4 n4 q4] 52)).cell? ⟨w.heap.size, 2, none⟩ = some (.slice none 0 0) := (block_cell HB3.out 2).trans rfl; have zf2 : (w3.alloc (.cells #[.int .i64 k3, .slice A3 n3 q3, .slice A4 n4 q4] 52)).frozen? ⟨w.heap.size, 2, none⟩ = false := block_free HB3.out 2; clear hq3 hty))
      have hb3 := block_set (block_set (block_set HB3.out (i := 0) (.int .i64 3)) (i := 1) (.slice none 0 0)) (i := 2) (.slice (some ⟨w3.heap.size, 0, none⟩) 1 1)
      have hqz := ((HQ3.out.other (b := w.heap.size) (j := 0) (Nat.le_refl _) hcw (.int .i64 3)).other (b := w.heap.size) (j := 1) (Nat.le_refl _) hcw (.slice none 0 0)).other (b := w.heap.size) (j := 2) (Nat.le_refl _) hcw (.slice (some ⟨w3.heap.size, 0, none⟩) 1 1)
      have hst := stay_set3 (w3.alloc (.cells #[.int .i64 k3, .slice A3 n3 q3, .slice A4 n4 q4] 52)) w.heap.size (.int .i64 3) (.slice none 0 0) (.slice (some ⟨w3.heap.size, 0, none⟩) 1 1)
      generalize ((((w3.alloc (.cells #[.int .i64 k3, .slice A3 n3 q3, .slice A4 n4 q4] 52)).setCell ⟨w.heap.size, 0, none⟩ (.int .i64 3)).setCell ⟨w.heap.size, 1, none⟩ (.slice none 0 0)).setCell ⟨w.heap.size, 2, none⟩ (.slice (some ⟨w3.heap.size, 0, none⟩) 1 1)) = wf at hb3 hqz hst ⊢
      have r0 : wf.cell? ⟨w.heap.size, 0, none⟩ = some (.int .i64 3) := (block_cell hb3 0).trans rfl
      have r1 : wf.cell? ⟨w.heap.size, 1, none⟩ = some (.slice none 0 0) := (block_cell hb3 1).trans rfl
      have r2 : wf.cell? ⟨w.heap.size, 2, none⟩ = some (.slice (some ⟨w3.heap.size, 0, none⟩) 1 1) := (block_cell hb3 2).trans rfl
      refine bodyPost_ret (by simp [results, Try.results56, go_sem, r0, r1, r2]; try rfl) rfl ?_
      exact ⟨_, _, _, _, _, _, _, rfl, After.of_ok HE2.out hqz, fun j t h => by rw [HE2.out] at h; cases h; exact ref_new HTR.out hst hl2 hz3⟩
end Go.Proofs.Ythlhiegbiapllaa
