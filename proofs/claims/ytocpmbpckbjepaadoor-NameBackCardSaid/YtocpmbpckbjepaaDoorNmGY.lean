/- NmPaO4, NmPaO5, NmPaO6: texts of one's own, in one file. -/
import Derived.Test.YtocpmbpckbjepaaDoorNmPaO
/- Walks of the parsers' one: function types of the program (printed by gen_po.py). -/
namespace Go.Proofs.YtocpmbpckbjepaaDoor
open Go.RowKit
set_option linter.unusedVariables false
set_option linter.unusedSimpArgs false
set_option maxRecDepth 100000 in
set_option maxHeartbeats 8000000 in
theorem nOne_func4a {f : Nat} (H : nOneOkP f) (HT : nTysOkP f) (HPA : nPartsOk f) (c : Nat) (s : ByteArray) (i m : Nat) (x : ByteArray) (d : Int) (w : World) (hs : s.size ≤ 8000) (hi : i ≤ s.size) (hd : d = 12 - ((f + 1 : Nat) : Int)) (hf : f + 1 ≤ 12) (hid : idL s i ≠ 0)
    (hx : s.extract i (i + idL s i) = x) (hm : i + idL s i = m) (hms : m ≤ s.size) (h1 : x ≠ refS) (h2 : x ≠ listS) (h3 : x = funcS) (j : Nat) (u : Unit) (hjs : j ≤ s.size) (hk0 : needB s [40] m = .ok j u) (k : Nat) (l : List Ty) (hks : k ≤ s.size) (hv : isB s j 41 = false) (ht : pTys s (pOne s f) (s.size + 1) [] j = .ok k l) (e : Nat) (hk5 : needB s [41, 32] k = .bad e) (h : w.heap[c]? = some (.cells #[.string s, .int .i64 i, .int .i64 (-1)] 86 (0, 0))) :
  Calls Tryd.prog 65 #[.pointer (some ⟨c, 0, none⟩), .int .i64 d] w fun e w' => ∃ (k : Int) (A : Option Addr) (n q : Nat) (A' : Option Addr) (n' q' : Nat), e = .returned (.agg #[.int .i64 k, .slice A n q, .slice A' n' q']) ∧
    After c 86 s w (pOne s (f + 1) i) w' ∧ ∀ j t, pOne s (f + 1) i = .ok j t → TyR (f + 1) w' (fun b => w.heap.size ≤ b) t [.int .i64 k, .slice A n q, .slice A' n' q'] := by
  have HSA := hide ((Pb.start h).alloc (.cells #[.int .i64 0, .slice none 0 0, .slice none 0 0] 75))
  have HBX := hide (heap_alloc_new w (.cells #[.int .i64 0, .slice none 0 0, .slice none 0 0] 75))
  have hcw := lt_of_block h
  have hlw : w.heap.size < (w.alloc (.cells #[.int .i64 0, .slice none 0 0, .slice none 0 0] 75)).heap.size := by simp
  have HID := hide (show ∀ W, W.heap[c]? = some (.cells #[.string s, .int .i64 i, .int .i64 (-1)] 86 (0, 0)) → Calls Tryd.prog 36 #[.pointer (some ⟨c, 0, none⟩)] W fun e w' => e = .returned (.string x) ∧ Pb c 86 s m (-1) W w' from fun W h => by have h1 := nIdent_onP c s i W hs hi h; rw [idWr, if_neg hid, hx, hm] at h1; exact h1)
  have hd0 : 0 ≤ d := by omega
  have hd12 : decide (12 ≤ d) = false := by simp; omega
  have hd11 : d ≤ 11 := by omega
  have HON := hide (fun W j hj h => H c s j (d + 1) W hs hj (by omega) h)
  have HTY := hide (fun W j hj h => HT c s j (d + 1) W hs hj (by omega) h)
  have HPT := hide (fun W x j hx hj h => HPA c s x j (d + 1) W hs hx hj (by omega) h)
  have c1 : (w.alloc (.cells #[.int .i64 0, .slice none 0 0, .slice none 0 0] 75)).cell? ⟨c, 1, none⟩ = some (.int .i64 i) := HSA.out.c1
  obtain ⟨i0, hi0, iz0, iz1, iz2⟩ := info_parts info_tyP
  have HE := hide (pOne_func (f := f) hid (by rw [hx]; exact h1) (by rw [hx]; exact h2) (by rw [hx]; exact h3))
  rw [hm] at HE
  unfold pFunc at HE
  have hxl : x = ⟨#[102, 117, 110, 99]⟩ := h3
  subst hxl
  clear h1 h2 h3
  have HK0 := hide (show ∀ W, W.heap[c]? = some (.cells #[.string s, .int .i64 m, .int .i64 (-1)] 86 (0, 0)) → Calls Tryd.prog 37 #[.pointer (some ⟨c, 0, none⟩), .string ⟨#[40]⟩] W fun r w' => r = .returned (.tuple #[]) ∧ Pb c 86 s j (-1) W w' from fun W h => (nTake_on c s ⟨#[40]⟩ m W hs (by decide) hms h).mono fun r w' ⟨h1, h2⟩ => ⟨h1, h2.ok hk0⟩)
  have HIS := hide (show ∀ W, W.heap[c]? = some (.cells #[.string s, .int .i64 j, .int .i64 (-1)] 86 (0, 0)) → Calls Tryd.prog 38 #[.pointer (some ⟨c, 0, none⟩), .int .u8 41] W fun r w' => r = .returned (.bool false) ∧ Pb c 86 s j (-1) W w' from fun W h => nIs_no c s j 41 W hs hjs hv h)
  have hpt : pTakes s (pOne s f) j = .ok k l := by rw [pTakes, if_neg (isB_false hv)]; exact ht
  have HTC := hide (show ∀ W, W.heap[c]? = some (.cells #[.string s, .int .i64 j, .int .i64 (-1)] 86 (0, 0)) → Calls Tryd.prog 39 #[.pointer (some ⟨c, 0, none⟩), .int .i64 (d + 1)] W fun r w' => ∃ (A : Option Addr) (n q : Nat), r = .returned (.slice A n q) ∧ n ≤ s.size + 1 ∧ OwnT w' W.heap.size 75 3 (TyR f) (.slice A n q) n l ∧ Pb c 86 s k (-1) W w' from fun W h => (HTY.out W j hjs h).mono fun r w' ⟨A, n, q, h1, h2, _, h3, h4⟩ => ⟨A, n, q, h1, h2, h4 _ _ ht, h3.ok ht⟩)
  have HK5 := hide (show ∀ W, W.heap[c]? = some (.cells #[.string s, .int .i64 k, .int .i64 (-1)] 86 (0, 0)) → Calls Tryd.prog 37 #[.pointer (some ⟨c, 0, none⟩), .string ⟨#[41, 32]⟩] W fun r w' => r = .returned (.tuple #[]) ∧ ∃ i : Nat, i ≤ s.size ∧ Pb c 86 s i (e : Nat) W w' from fun W h => (nTake_on c s ⟨#[41, 32]⟩ k W hs (by decide) hks h).mono fun r w' ⟨h1, h2⟩ => ⟨h1, h2.bad hk5⟩)
  have HOC := hide (fun (yy : Nat) (hyy : yy ≤ s.size) W h => nOne_off c s yy (e : Nat) (d + 1) W (by omega) hs hyy h)
  have HE2 := hide (show pOne s (f + 1) i = .bad e by rw [HE.out, hk0]; simp only [Res.bind]; rw [hpt]; simp only [Res.bind]; rw [hk5])
  have hoff : decide (((e : Nat) : Int) < 0) = false := by simp
  clear hk0 hv hk5 ht hpt
  clear h hid hx hm H HT HPA hd
  go_enter Tryd.func65, Tryd.ntmps65
  go_wp2_with (first
    | (go_at_call 36; refine (HID.out _ HSA.out.box).mono ?_; rintro r w1 ⟨rfl, hq1⟩; have HQ1 := hide (HSA.out.trans hq1); have HB1 := hide (hq1.bu.keep _ _ HBX.out (by omega)); have c1 := HQ1.out.c1; have c2 := HQ1.out.c2; have hz1 := HQ1.out.size; have hl1 : w.heap.size < w1.heap.size := lt_of_block HB1.out; clear hq1)
    | (go_at_call 37; ((with_reducible refine (HK0.out _ HQ1.out.box).mono ?_)); rintro r w2 ⟨rfl, hq2⟩; have HQ2 := hide (HQ1.out.trans hq2); have HB2 := hide (hq2.bu.keep _ _ HB1.out (by omega)); have hz2 := HQ2.out.size; have hl2 : w.heap.size < w2.heap.size := lt_of_block HB2.out; have HNT := hide (show w2.heap.size ≠ c from by have := HQ2.out.lt; omega); have HXT := hide (heap_alloc_new w2 (.cells #[.int .i64 4, .slice none 0 0, .slice none 0 0] 75)); have HQT := hide (HQ2.out.alloc (.cells #[.int .i64 4, .slice none 0 0, .slice none 0 0] 75)); have HBT := hide (block_below HB2.out ((Below.refl _ _).alloc (Nat.le_refl _) (.cells #[.int .i64 4, .slice none 0 0, .slice none 0 0] 75))); clear hq2)
    | (go_at_call 38; ((with_reducible refine (HIS.out _ HQT.out.box).mono ?_)); rintro r w3 ⟨rfl, hq3⟩; have HQ3 := hide (HQT.out.trans hq3); have HX3 := hide (hq3.bu.keep _ _ HXT.out HNT.out); have HB3 := hide (hq3.bu.keep _ _ HBT.out (by omega)); have hl3 : w2.heap.size < w3.heap.size := lt_of_block HX3.out; have t0 : w3.cell? ⟨w2.heap.size, 0, none⟩ = some (.int .i64 4) := (block_cell HX3.out 0).trans rfl; have tf0 : w3.frozen? ⟨w2.heap.size, 0, none⟩ = false := block_free HX3.out 0; have t1 : w3.cell? ⟨w2.heap.size, 1, none⟩ = some (.slice none 0 0) := (block_cell HX3.out 1).trans rfl; have tf1 : w3.frozen? ⟨w2.heap.size, 1, none⟩ = false := block_free HX3.out 1; have t2 : w3.cell? ⟨w2.heap.size, 2, none⟩ = some (.slice none 0 0) := (block_cell HX3.out 2).trans rfl; have tf2 : w3.frozen? ⟨w2.heap.size, 2, none⟩ = false := block_free HX3.out 2; have c2 := HQ3.out.c2; clear hq3)
    | (go_at_call 39; ((with_reducible refine (HTC.out _ HQ3.out.box).mono ?_)); rintro r w4 ⟨A5, n5, q5, rfl, hn5, hoa, hq4⟩; have HX4 := hide (hq4.bu.keep _ _ HX3.out HNT.out); have HXS := hide (block_set HX4.out (i := 2) (.slice A5 n5 q5)); have HBS := hide (block_set_other (hq4.bu.keep _ _ HB3.out (by omega)) ⟨w2.heap.size, 2, none⟩ (.slice A5 n5 q5) (by simp; omega)); have HQ4 := hide (HQ3.out.trans hq4); have HQS := hide (HQ4.out.other (b := w2.heap.size) (j := 2) (by omega) hcw (.slice A5 n5 q5)); have hz4 := hq4.size; have HO4 := hide (hoa.butAt (stay_ty f) (ButAt.set w4 2 (.slice A5 n5 q5)) hl3); have t0 : w4.cell? ⟨w2.heap.size, 0, none⟩ = some (.int .i64 4) := (block_cell HX4.out 0).trans rfl; have tf0 : w4.frozen? ⟨w2.heap.size, 0, none⟩ = false := block_free HX4.out 0; have t1 : w4.cell? ⟨w2.heap.size, 1, none⟩ = some (.slice none 0 0) := (block_cell HX4.out 1).trans rfl; have tf1 : w4.frozen? ⟨w2.heap.size, 1, none⟩ = false := block_free HX4.out 1; have t2 : w4.cell? ⟨w2.heap.size, 2, none⟩ = some (.slice none 0 0) := (block_cell HX4.out 2).trans rfl; have tf2 : w4.frozen? ⟨w2.heap.size, 2, none⟩ = false := block_free HX4.out 2; clear hq4 hoa)
    | (go_at_call 37; ((with_reducible refine (HK5.out _ HQS.out.box).mono ?_)); rintro r w5 ⟨rfl, y5, hy5, hq5⟩; have HQ5 := hide (HQS.out.trans hq5); have HX5 := hide (hq5.bu.keep _ _ HXS.out HNT.out); have HB5 := hide (hq5.bu.keep _ _ HBS.out (by omega)); have HO5 := hide (HO4.out.butAt (stay_ty f) hq5.bu (by omega)); have hz5 := hq5.size; have t0 : w5.cell? ⟨w2.heap.size, 0, none⟩ = some (.int .i64 4) := (block_cell HX5.out 0).trans rfl; have tf0 : w5.frozen? ⟨w2.heap.size, 0, none⟩ = false := block_free HX5.out 0; have t1 : w5.cell? ⟨w2.heap.size, 1, none⟩ = some (.slice none 0 0) := (block_cell HX5.out 1).trans rfl; have tf1 : w5.frozen? ⟨w2.heap.size, 1, none⟩ = false := block_free HX5.out 1; have t2 : w5.cell? ⟨w2.heap.size, 2, none⟩ = some (.slice A5 n5 q5) := (block_cell HX5.out 2).trans rfl; have tf2 : w5.frozen? ⟨w2.heap.size, 2, none⟩ = false := block_free HX5.out 2; have z0 : w5.cell? ⟨w.heap.size, 0, none⟩ = some (.int .i64 0) := (block_cell HB5.out 0).trans rfl; have zf0 : w5.frozen? ⟨w.heap.size, 0, none⟩ = false := block_free HB5.out 0; have z1 : w5.cell? ⟨w.heap.size, 1, none⟩ = some (.slice none 0 0) := (block_cell HB5.out 1).trans rfl; have zf1 : w5.frozen? ⟨w.heap.size, 1, none⟩ = false := block_free HB5.out 1; have z2 : w5.cell? ⟨w.heap.size, 2, none⟩ = some (.slice none 0 0) := (block_cell HB5.out 2).trans rfl; have zf2 : w5.frozen? ⟨w.heap.size, 2, none⟩ = false := block_free HB5.out 2; have c2 := HQ5.out.c2; clear hq5))
  have HO5T := HO5
  have HO5 := hide HO5T.out.any
  have hcb : c < w3.heap.size := by omega
  have hz35 : w3.heap.size ≤ w5.heap.size := by have h5 := hz5; (try simp at h5); omega
  have HQD := hide HQ5.out.drew
  have hwr : IntKind.i64.wrap (d + 1) = d + 1 := IntWalk.i64_in _ (by omega)
  have HXD := hide (show w5.drew.heap[w2.heap.size]? = _ from HX5.out)
  have HBD := hide (show w5.drew.heap[w.heap.size]? = _ from HB5.out)
  go_region_law (first
    | (go_simp; go_at_call 65; ((with_reducible refine (HOC.out _ hy5 _ HQD.out.box).mono ?_)); rintro r w6 ⟨rfl, hq6⟩; have HO6 := hide ((HO5.out.butAt (c := c) (ButAt.of_below (Below.refl _ _).drew (by have := HQ5.out.lt; omega)) hcb).butAt hq6.bu hcb); have HQ6 := hide (HQD.out.trans hq6); have HX6 := hide (hq6.bu.keep _ _ HXD.out HNT.out); have HB6 := hide (hq6.bu.keep _ _ HBD.out (by omega)); have hz6 : w5.heap.size ≤ w6.heap.size := hq6.size; have t0 : w6.cell? ⟨w2.heap.size, 0, none⟩ = some (.int .i64 4) := (block_cell HX6.out 0).trans rfl; have tf0 : w6.frozen? ⟨w2.heap.size, 0, none⟩ = false := block_free HX6.out 0; have t1 : w6.cell? ⟨w2.heap.size, 1, none⟩ = some (.slice none 0 0) := (block_cell HX6.out 1).trans rfl; have tf1 : w6.frozen? ⟨w2.heap.size, 1, none⟩ = false := block_free HX6.out 1; have t2 : w6.cell? ⟨w2.heap.size, 2, none⟩ = some (.slice A5 n5 q5) := (block_cell HX6.out 2).trans rfl; have tf2 : w6.frozen? ⟨w2.heap.size, 2, none⟩ = false := block_free HX6.out 2; clear hq6)
    | (refine step_append_lies _ (by rfl) (.tmp 71) (.tmp 76) 23 (by rfl) w3.heap.size 75 i0 (.agg #[.int .i64 0, .slice none 0 0, .slice none 0 0]) 3 56 Tryd.underlying23 hi0 iz0 iz1 iz2 rfl (by omega) (.slice A5 n5 q5) n5 _ (by rfl) (HO6.out.choose_spec.alloc _) ⟨w6.heap.size, 0, none⟩ 1 1 [.int .i64 0, .slice none 0 0, .slice none 0 0] (by rfl) (by rfl) (cells_new w6 [.int .i64 0, .slice none 0 0, .slice none 0 0] _) (by intro u hu; simp at hu; rcases hu with rfl | rfl | rfl <;> rfl) (by omega) (by unfold maxLen; omega) (by omega) (by simp; omega) (w6.heap.size + 1) (by simp) ?_; intro g7 q9 w7 hown7 hgr7 hat7 hlt7; have HQ7 := hide (HQ6.out.grown hgr7 HO6.out.lt (by omega) hcb); have HX7 := hide ((hgr7.block w2.heap.size (by simp; omega) (fun e => by have := (HO6.out.lt _ e.symm).1; omega)).trans (block_below HX6.out ((Below.refl _ _).alloc (Nat.le_refl _) (.cells #[.int .i64 0, .slice none 0 0, .slice none 0 0] 75)))); have HB7 := hide ((hgr7.block w.heap.size (by simp; omega) (fun e => by have := (HO6.out.lt _ e.symm).1; omega)).trans (block_below HB6.out ((Below.refl _ _).alloc (Nat.le_refl _) (.cells #[.int .i64 0, .slice none 0 0, .slice none 0 0] 75)))); have t0 : w7.cell? ⟨w2.heap.size, 0, none⟩ = some (.int .i64 4) := (block_cell HX7.out 0).trans rfl; have tf0 : w7.frozen? ⟨w2.heap.size, 0, none⟩ = false := block_free HX7.out 0; have t1 : w7.cell? ⟨w2.heap.size, 1, none⟩ = some (.slice none 0 0) := (block_cell HX7.out 1).trans rfl; have tf1 : w7.frozen? ⟨w2.heap.size, 1, none⟩ = false := block_free HX7.out 1; have t2 : w7.cell? ⟨w2.heap.size, 2, none⟩ = some (.slice A5 n5 q5) := (block_cell HX7.out 2).trans rfl; have tf2 : w7.frozen? ⟨w2.heap.size, 2, none⟩ = false := block_free HX7.out 2; clear hown7 hgr7 hat7 hlt7))
  all_goals
    have hx8 := block_set HX7.out (i := 2) (.slice (some ⟨g7, 0, none⟩) (n5 + 1) q9)
    have hb8 := block_set_other HB7.out ⟨w2.heap.size, 2, none⟩ (.slice (some ⟨g7, 0, none⟩) (n5 + 1) q9) (by simp; omega)
    have hq8 := HQ7.out.other (b := w2.heap.size) (j := 2) (by omega) hcw (.slice (some ⟨g7, 0, none⟩) (n5 + 1) q9)
    have HX8 := hide hx8
    have HB8 := hide hb8
    have HQ8 := hide hq8
    skip
    clear hx8 hb8 hq8
    obtain ⟨w8, hw8⟩ : ∃ w8, w7.setCell ⟨w2.heap.size, 2, none⟩ (.slice (some ⟨g7, 0, none⟩) (n5 + 1) q9) = w8 := ⟨_, rfl⟩
    rw [hw8] at HX8 HB8 HQ8 ⊢
    clear hw8
    have t0 : w8.cell? ⟨w2.heap.size, 0, none⟩ = some (.int .i64 4) := (block_cell HX8.out 0).trans rfl
    have tf0 : w8.frozen? ⟨w2.heap.size, 0, none⟩ = false := block_free HX8.out 0
    have t1 : w8.cell? ⟨w2.heap.size, 1, none⟩ = some (.slice none 0 0) := (block_cell HX8.out 1).trans rfl
    have tf1 : w8.frozen? ⟨w2.heap.size, 1, none⟩ = false := block_free HX8.out 1
    have t2 : w8.cell? ⟨w2.heap.size, 2, none⟩ = some (.slice (some ⟨g7, 0, none⟩) (n5 + 1) q9) := (block_cell HX8.out 2).trans rfl
    have tf2 : w8.frozen? ⟨w2.heap.size, 2, none⟩ = false := block_free HX8.out 2
    have z0 : w8.cell? ⟨w.heap.size, 0, none⟩ = some (.int .i64 0) := (block_cell HB8.out 0).trans rfl
    have zf0 : w8.frozen? ⟨w.heap.size, 0, none⟩ = false := block_free HB8.out 0
    have z1 : w8.cell? ⟨w.heap.size, 1, none⟩ = some (.slice none 0 0) := (block_cell HB8.out 1).trans rfl
    have zf1 : w8.frozen? ⟨w.heap.size, 1, none⟩ = false := block_free HB8.out 1
    have z2 : w8.cell? ⟨w.heap.size, 2, none⟩ = some (.slice none 0 0) := (block_cell HB8.out 2).trans rfl
    have zf2 : w8.frozen? ⟨w.heap.size, 2, none⟩ = false := block_free HB8.out 2
    go_wp2_with (fail)
    have hb3 := block_set (block_set (block_set HB8.out (i := 0) (.int .i64 4)) (i := 1) (.slice none 0 0)) (i := 2) (.slice (some ⟨g7, 0, none⟩) (n5 + 1) q9)
    have hqz := ((HQ8.out.other (b := w.heap.size) (j := 0) (Nat.le_refl _) hcw (.int .i64 4)).other (b := w.heap.size) (j := 1) (Nat.le_refl _) hcw (.slice none 0 0)).other (b := w.heap.size) (j := 2) (Nat.le_refl _) hcw (.slice (some ⟨g7, 0, none⟩) (n5 + 1) q9)
    have hst := stay_set3 w8 w.heap.size (.int .i64 4) (.slice none 0 0) (.slice (some ⟨g7, 0, none⟩) (n5 + 1) q9)
    generalize (((w8.setCell ⟨w.heap.size, 0, none⟩ (.int .i64 4)).setCell ⟨w.heap.size, 1, none⟩ (.slice none 0 0)).setCell ⟨w.heap.size, 2, none⟩ (.slice (some ⟨g7, 0, none⟩) (n5 + 1) q9)) = wf at hb3 hqz hst ⊢
    have r0 : wf.cell? ⟨w.heap.size, 0, none⟩ = some (.int .i64 4) := (block_cell hb3 0).trans rfl
    have r1 : wf.cell? ⟨w.heap.size, 1, none⟩ = some (.slice none 0 0) := (block_cell hb3 1).trans rfl
    have r2 : wf.cell? ⟨w.heap.size, 2, none⟩ = some (.slice (some ⟨g7, 0, none⟩) (n5 + 1) q9) := (block_cell hb3 2).trans rfl
    refine bodyPost_ret (by simp [results, Tryd.results65, go_sem, r0, r1, r2]; try rfl) rfl ?_
    exact ⟨_, _, _, _, _, _, _, rfl, After.of_bad HE2.out hy5 hqz, fun j t h => by rw [HE2.out] at h; cases h⟩
set_option maxRecDepth 100000 in
set_option maxHeartbeats 8000000 in
theorem nOne_func4b {f : Nat} (H : nOneOkP f) (HT : nTysOkP f) (HPA : nPartsOk f) (c : Nat) (s : ByteArray) (i m : Nat) (x : ByteArray) (d : Int) (w : World) (hs : s.size ≤ 8000) (hi : i ≤ s.size) (hd : d = 12 - ((f + 1 : Nat) : Int)) (hf : f + 1 ≤ 12) (hid : idL s i ≠ 0)
    (hx : s.extract i (i + idL s i) = x) (hm : i + idL s i = m) (hms : m ≤ s.size) (h1 : x ≠ refS) (h2 : x ≠ listS) (h3 : x = funcS) (j : Nat) (u : Unit) (hjs : j ≤ s.size) (hk0 : needB s [40] m = .ok j u) (k : Nat) (l : List Ty) (hks : k ≤ s.size) (hv : isB s j 41 = false) (ht : pTys s (pOne s f) (s.size + 1) [] j = .ok k l) (z : Nat) (u2 : Unit) (hzs : z ≤ s.size) (hk5 : needB s [41, 32] k = .ok z u2) (e : Nat) (hr : pOne s f z = .bad e) (h : w.heap[c]? = some (.cells #[.string s, .int .i64 i, .int .i64 (-1)] 86 (0, 0))) :
  Calls Tryd.prog 65 #[.pointer (some ⟨c, 0, none⟩), .int .i64 d] w fun e w' => ∃ (k : Int) (A : Option Addr) (n q : Nat) (A' : Option Addr) (n' q' : Nat), e = .returned (.agg #[.int .i64 k, .slice A n q, .slice A' n' q']) ∧
    After c 86 s w (pOne s (f + 1) i) w' ∧ ∀ j t, pOne s (f + 1) i = .ok j t → TyR (f + 1) w' (fun b => w.heap.size ≤ b) t [.int .i64 k, .slice A n q, .slice A' n' q'] := by
  have HSA := hide ((Pb.start h).alloc (.cells #[.int .i64 0, .slice none 0 0, .slice none 0 0] 75))
  have HBX := hide (heap_alloc_new w (.cells #[.int .i64 0, .slice none 0 0, .slice none 0 0] 75))
  have hcw := lt_of_block h
  have hlw : w.heap.size < (w.alloc (.cells #[.int .i64 0, .slice none 0 0, .slice none 0 0] 75)).heap.size := by simp
  have HID := hide (show ∀ W, W.heap[c]? = some (.cells #[.string s, .int .i64 i, .int .i64 (-1)] 86 (0, 0)) → Calls Tryd.prog 36 #[.pointer (some ⟨c, 0, none⟩)] W fun e w' => e = .returned (.string x) ∧ Pb c 86 s m (-1) W w' from fun W h => by have h1 := nIdent_onP c s i W hs hi h; rw [idWr, if_neg hid, hx, hm] at h1; exact h1)
  have hd0 : 0 ≤ d := by omega
  have hd12 : decide (12 ≤ d) = false := by simp; omega
  have hd11 : d ≤ 11 := by omega
  have HON := hide (fun W j hj h => H c s j (d + 1) W hs hj (by omega) h)
  have HTY := hide (fun W j hj h => HT c s j (d + 1) W hs hj (by omega) h)
  have HPT := hide (fun W x j hx hj h => HPA c s x j (d + 1) W hs hx hj (by omega) h)
  have c1 : (w.alloc (.cells #[.int .i64 0, .slice none 0 0, .slice none 0 0] 75)).cell? ⟨c, 1, none⟩ = some (.int .i64 i) := HSA.out.c1
  obtain ⟨i0, hi0, iz0, iz1, iz2⟩ := info_parts info_tyP
  have HE := hide (pOne_func (f := f) hid (by rw [hx]; exact h1) (by rw [hx]; exact h2) (by rw [hx]; exact h3))
  rw [hm] at HE
  unfold pFunc at HE
  have hxl : x = ⟨#[102, 117, 110, 99]⟩ := h3
  subst hxl
  clear h1 h2 h3
  have HK0 := hide (show ∀ W, W.heap[c]? = some (.cells #[.string s, .int .i64 m, .int .i64 (-1)] 86 (0, 0)) → Calls Tryd.prog 37 #[.pointer (some ⟨c, 0, none⟩), .string ⟨#[40]⟩] W fun r w' => r = .returned (.tuple #[]) ∧ Pb c 86 s j (-1) W w' from fun W h => (nTake_on c s ⟨#[40]⟩ m W hs (by decide) hms h).mono fun r w' ⟨h1, h2⟩ => ⟨h1, h2.ok hk0⟩)
  have HIS := hide (show ∀ W, W.heap[c]? = some (.cells #[.string s, .int .i64 j, .int .i64 (-1)] 86 (0, 0)) → Calls Tryd.prog 38 #[.pointer (some ⟨c, 0, none⟩), .int .u8 41] W fun r w' => r = .returned (.bool false) ∧ Pb c 86 s j (-1) W w' from fun W h => nIs_no c s j 41 W hs hjs hv h)
  have hpt : pTakes s (pOne s f) j = .ok k l := by rw [pTakes, if_neg (isB_false hv)]; exact ht
  have HTC := hide (show ∀ W, W.heap[c]? = some (.cells #[.string s, .int .i64 j, .int .i64 (-1)] 86 (0, 0)) → Calls Tryd.prog 39 #[.pointer (some ⟨c, 0, none⟩), .int .i64 (d + 1)] W fun r w' => ∃ (A : Option Addr) (n q : Nat), r = .returned (.slice A n q) ∧ n ≤ s.size + 1 ∧ OwnT w' W.heap.size 75 3 (TyR f) (.slice A n q) n l ∧ Pb c 86 s k (-1) W w' from fun W h => (HTY.out W j hjs h).mono fun r w' ⟨A, n, q, h1, h2, _, h3, h4⟩ => ⟨A, n, q, h1, h2, h4 _ _ ht, h3.ok ht⟩)
  have HK5 := hide (show ∀ W, W.heap[c]? = some (.cells #[.string s, .int .i64 k, .int .i64 (-1)] 86 (0, 0)) → Calls Tryd.prog 37 #[.pointer (some ⟨c, 0, none⟩), .string ⟨#[41, 32]⟩] W fun r w' => r = .returned (.tuple #[]) ∧ Pb c 86 s z (-1) W w' from fun W h => (nTake_on c s ⟨#[41, 32]⟩ k W hs (by decide) hks h).mono fun r w' ⟨h1, h2⟩ => ⟨h1, h2.ok hk5⟩)
  have HOC := hide (show ∀ W, W.heap[c]? = some (.cells #[.string s, .int .i64 z, .int .i64 (-1)] 86 (0, 0)) → Calls Tryd.prog 65 #[.pointer (some ⟨c, 0, none⟩), .int .i64 (d + 1)] W fun r w' => ∃ (k : Int) (A : Option Addr) (n q : Nat) (A' : Option Addr) (n' q' : Nat), r = .returned (.agg #[.int .i64 k, .slice A n q, .slice A' n' q']) ∧ ∃ i : Nat, i ≤ s.size ∧ Pb c 86 s i (e : Nat) W w' from fun W h => (HON.out W z hzs h).mono fun r w' ⟨k, A, n, q, A', n', q', h1, h2, _⟩ => ⟨k, A, n, q, A', n', q', h1, h2.bad hr⟩)
  have HE2 := hide (show pOne s (f + 1) i = .bad e by rw [HE.out, hk0]; simp only [Res.bind]; rw [hpt]; simp only [Res.bind]; rw [hk5]; simp only [Res.bind]; rw [hr])
  clear hk0 hv hk5 ht hpt hr
  clear h hid hx hm H HT HPA hd
  go_enter Tryd.func65, Tryd.ntmps65
  go_wp2_with (first
    | (go_at_call 36; refine (HID.out _ HSA.out.box).mono ?_; rintro r w1 ⟨rfl, hq1⟩; have HQ1 := hide (HSA.out.trans hq1); have HB1 := hide (hq1.bu.keep _ _ HBX.out (by omega)); have c1 := HQ1.out.c1; have c2 := HQ1.out.c2; have hz1 := HQ1.out.size; have hl1 : w.heap.size < w1.heap.size := lt_of_block HB1.out; clear hq1)
    | (go_at_call 37; ((with_reducible refine (HK0.out _ HQ1.out.box).mono ?_)); rintro r w2 ⟨rfl, hq2⟩; have HQ2 := hide (HQ1.out.trans hq2); have HB2 := hide (hq2.bu.keep _ _ HB1.out (by omega)); have hz2 := HQ2.out.size; have hl2 : w.heap.size < w2.heap.size := lt_of_block HB2.out; have HNT := hide (show w2.heap.size ≠ c from by have := HQ2.out.lt; omega); have HXT := hide (heap_alloc_new w2 (.cells #[.int .i64 4, .slice none 0 0, .slice none 0 0] 75)); have HQT := hide (HQ2.out.alloc (.cells #[.int .i64 4, .slice none 0 0, .slice none 0 0] 75)); have HBT := hide (block_below HB2.out ((Below.refl _ _).alloc (Nat.le_refl _) (.cells #[.int .i64 4, .slice none 0 0, .slice none 0 0] 75))); clear hq2)
    | (go_at_call 38; ((with_reducible refine (HIS.out _ HQT.out.box).mono ?_)); rintro r w3 ⟨rfl, hq3⟩; have HQ3 := hide (HQT.out.trans hq3); have HX3 := hide (hq3.bu.keep _ _ HXT.out HNT.out); have HB3 := hide (hq3.bu.keep _ _ HBT.out (by omega)); have hl3 : w2.heap.size < w3.heap.size := lt_of_block HX3.out; have t0 : w3.cell? ⟨w2.heap.size, 0, none⟩ = some (.int .i64 4) := (block_cell HX3.out 0).trans rfl; have tf0 : w3.frozen? ⟨w2.heap.size, 0, none⟩ = false := block_free HX3.out 0; have t1 : w3.cell? ⟨w2.heap.size, 1, none⟩ = some (.slice none 0 0) := (block_cell HX3.out 1).trans rfl; have tf1 : w3.frozen? ⟨w2.heap.size, 1, none⟩ = false := block_free HX3.out 1; have t2 : w3.cell? ⟨w2.heap.size, 2, none⟩ = some (.slice none 0 0) := (block_cell HX3.out 2).trans rfl; have tf2 : w3.frozen? ⟨w2.heap.size, 2, none⟩ = false := block_free HX3.out 2; have c2 := HQ3.out.c2; clear hq3)
    | (go_at_call 39; ((with_reducible refine (HTC.out _ HQ3.out.box).mono ?_)); rintro r w4 ⟨A5, n5, q5, rfl, hn5, hoa, hq4⟩; have HX4 := hide (hq4.bu.keep _ _ HX3.out HNT.out); have HXS := hide (block_set HX4.out (i := 2) (.slice A5 n5 q5)); have HBS := hide (block_set_other (hq4.bu.keep _ _ HB3.out (by omega)) ⟨w2.heap.size, 2, none⟩ (.slice A5 n5 q5) (by simp; omega)); have HQ4 := hide (HQ3.out.trans hq4); have HQS := hide (HQ4.out.other (b := w2.heap.size) (j := 2) (by omega) hcw (.slice A5 n5 q5)); have hz4 := hq4.size; have HO4 := hide (hoa.butAt (stay_ty f) (ButAt.set w4 2 (.slice A5 n5 q5)) hl3); have t0 : w4.cell? ⟨w2.heap.size, 0, none⟩ = some (.int .i64 4) := (block_cell HX4.out 0).trans rfl; have tf0 : w4.frozen? ⟨w2.heap.size, 0, none⟩ = false := block_free HX4.out 0; have t1 : w4.cell? ⟨w2.heap.size, 1, none⟩ = some (.slice none 0 0) := (block_cell HX4.out 1).trans rfl; have tf1 : w4.frozen? ⟨w2.heap.size, 1, none⟩ = false := block_free HX4.out 1; have t2 : w4.cell? ⟨w2.heap.size, 2, none⟩ = some (.slice none 0 0) := (block_cell HX4.out 2).trans rfl; have tf2 : w4.frozen? ⟨w2.heap.size, 2, none⟩ = false := block_free HX4.out 2; clear hq4 hoa)
    | (go_at_call 37; ((with_reducible refine (HK5.out _ HQS.out.box).mono ?_)); rintro r w5 ⟨rfl, hq5⟩; have HQ5 := hide (HQS.out.trans hq5); have HX5 := hide (hq5.bu.keep _ _ HXS.out HNT.out); have HB5 := hide (hq5.bu.keep _ _ HBS.out (by omega)); have HO5 := hide (HO4.out.butAt (stay_ty f) hq5.bu (by omega)); have hz5 := hq5.size; have t0 : w5.cell? ⟨w2.heap.size, 0, none⟩ = some (.int .i64 4) := (block_cell HX5.out 0).trans rfl; have tf0 : w5.frozen? ⟨w2.heap.size, 0, none⟩ = false := block_free HX5.out 0; have t1 : w5.cell? ⟨w2.heap.size, 1, none⟩ = some (.slice none 0 0) := (block_cell HX5.out 1).trans rfl; have tf1 : w5.frozen? ⟨w2.heap.size, 1, none⟩ = false := block_free HX5.out 1; have t2 : w5.cell? ⟨w2.heap.size, 2, none⟩ = some (.slice A5 n5 q5) := (block_cell HX5.out 2).trans rfl; have tf2 : w5.frozen? ⟨w2.heap.size, 2, none⟩ = false := block_free HX5.out 2; have z0 : w5.cell? ⟨w.heap.size, 0, none⟩ = some (.int .i64 0) := (block_cell HB5.out 0).trans rfl; have zf0 : w5.frozen? ⟨w.heap.size, 0, none⟩ = false := block_free HB5.out 0; have z1 : w5.cell? ⟨w.heap.size, 1, none⟩ = some (.slice none 0 0) := (block_cell HB5.out 1).trans rfl; have zf1 : w5.frozen? ⟨w.heap.size, 1, none⟩ = false := block_free HB5.out 1; have z2 : w5.cell? ⟨w.heap.size, 2, none⟩ = some (.slice none 0 0) := (block_cell HB5.out 2).trans rfl; have zf2 : w5.frozen? ⟨w.heap.size, 2, none⟩ = false := block_free HB5.out 2; have c2 := HQ5.out.c2; clear hq5))
  have HO5T := HO5
  have HO5 := hide HO5T.out.any
  have hcb : c < w3.heap.size := by omega
  have hz35 : w3.heap.size ≤ w5.heap.size := by have h5 := hz5; (try simp at h5); omega
  have HQD := hide HQ5.out.drew
  have hwr : IntKind.i64.wrap (d + 1) = d + 1 := IntWalk.i64_in _ (by omega)
  have HXD := hide (show w5.drew.heap[w2.heap.size]? = _ from HX5.out)
  have HBD := hide (show w5.drew.heap[w.heap.size]? = _ from HB5.out)
  go_region_law (first
    | (go_simp; go_at_call 65; ((with_reducible refine (HOC.out _ HQD.out.box).mono ?_)); rintro r w6 ⟨k6, A6, n6, q6, A7, n7, q7, rfl, y6, hy6, hq6⟩; have HO6 := hide ((HO5.out.butAt (c := c) (ButAt.of_below (Below.refl _ _).drew (by have := HQ5.out.lt; omega)) hcb).butAt hq6.bu hcb); have HQ6 := hide (HQD.out.trans hq6); have HX6 := hide (hq6.bu.keep _ _ HXD.out HNT.out); have HB6 := hide (hq6.bu.keep _ _ HBD.out (by omega)); have hz6 : w5.heap.size ≤ w6.heap.size := hq6.size; have t0 : w6.cell? ⟨w2.heap.size, 0, none⟩ = some (.int .i64 4) := (block_cell HX6.out 0).trans rfl; have tf0 : w6.frozen? ⟨w2.heap.size, 0, none⟩ = false := block_free HX6.out 0; have t1 : w6.cell? ⟨w2.heap.size, 1, none⟩ = some (.slice none 0 0) := (block_cell HX6.out 1).trans rfl; have tf1 : w6.frozen? ⟨w2.heap.size, 1, none⟩ = false := block_free HX6.out 1; have t2 : w6.cell? ⟨w2.heap.size, 2, none⟩ = some (.slice A5 n5 q5) := (block_cell HX6.out 2).trans rfl; have tf2 : w6.frozen? ⟨w2.heap.size, 2, none⟩ = false := block_free HX6.out 2; clear hq6)
    | (refine step_append_lies _ (by rfl) (.tmp 71) (.tmp 76) 23 (by rfl) w3.heap.size 75 i0 (.agg #[.int .i64 0, .slice none 0 0, .slice none 0 0]) 3 56 Tryd.underlying23 hi0 iz0 iz1 iz2 rfl (by omega) (.slice A5 n5 q5) n5 _ (by rfl) (HO6.out.choose_spec.alloc _) ⟨w6.heap.size, 0, none⟩ 1 1 [.int .i64 k6, .slice A6 n6 q6, .slice A7 n7 q7] (by rfl) (by rfl) (cells_new w6 [.int .i64 k6, .slice A6 n6 q6, .slice A7 n7 q7] _) (by intro u hu; simp at hu; rcases hu with rfl | rfl | rfl <;> rfl) (by omega) (by unfold maxLen; omega) (by omega) (by simp; omega) (w6.heap.size + 1) (by simp) ?_; intro g7 q9 w7 hown7 hgr7 hat7 hlt7; have HQ7 := hide (HQ6.out.grown hgr7 HO6.out.lt (by omega) hcb); have HX7 := hide ((hgr7.block w2.heap.size (by simp; omega) (fun e => by have := (HO6.out.lt _ e.symm).1; omega)).trans (block_below HX6.out ((Below.refl _ _).alloc (Nat.le_refl _) (.cells #[.int .i64 k6, .slice A6 n6 q6, .slice A7 n7 q7] 75)))); have HB7 := hide ((hgr7.block w.heap.size (by simp; omega) (fun e => by have := (HO6.out.lt _ e.symm).1; omega)).trans (block_below HB6.out ((Below.refl _ _).alloc (Nat.le_refl _) (.cells #[.int .i64 k6, .slice A6 n6 q6, .slice A7 n7 q7] 75)))); have t0 : w7.cell? ⟨w2.heap.size, 0, none⟩ = some (.int .i64 4) := (block_cell HX7.out 0).trans rfl; have tf0 : w7.frozen? ⟨w2.heap.size, 0, none⟩ = false := block_free HX7.out 0; have t1 : w7.cell? ⟨w2.heap.size, 1, none⟩ = some (.slice none 0 0) := (block_cell HX7.out 1).trans rfl; have tf1 : w7.frozen? ⟨w2.heap.size, 1, none⟩ = false := block_free HX7.out 1; have t2 : w7.cell? ⟨w2.heap.size, 2, none⟩ = some (.slice A5 n5 q5) := (block_cell HX7.out 2).trans rfl; have tf2 : w7.frozen? ⟨w2.heap.size, 2, none⟩ = false := block_free HX7.out 2; clear hown7 hgr7 hat7 hlt7))
  all_goals
    have hx8 := block_set HX7.out (i := 2) (.slice (some ⟨g7, 0, none⟩) (n5 + 1) q9)
    have hb8 := block_set_other HB7.out ⟨w2.heap.size, 2, none⟩ (.slice (some ⟨g7, 0, none⟩) (n5 + 1) q9) (by simp; omega)
    have hq8 := HQ7.out.other (b := w2.heap.size) (j := 2) (by omega) hcw (.slice (some ⟨g7, 0, none⟩) (n5 + 1) q9)
    have HX8 := hide hx8
    have HB8 := hide hb8
    have HQ8 := hide hq8
    skip
    clear hx8 hb8 hq8
    obtain ⟨w8, hw8⟩ : ∃ w8, w7.setCell ⟨w2.heap.size, 2, none⟩ (.slice (some ⟨g7, 0, none⟩) (n5 + 1) q9) = w8 := ⟨_, rfl⟩
    rw [hw8] at HX8 HB8 HQ8 ⊢
    clear hw8
    have t0 : w8.cell? ⟨w2.heap.size, 0, none⟩ = some (.int .i64 4) := (block_cell HX8.out 0).trans rfl
    have tf0 : w8.frozen? ⟨w2.heap.size, 0, none⟩ = false := block_free HX8.out 0
    have t1 : w8.cell? ⟨w2.heap.size, 1, none⟩ = some (.slice none 0 0) := (block_cell HX8.out 1).trans rfl
    have tf1 : w8.frozen? ⟨w2.heap.size, 1, none⟩ = false := block_free HX8.out 1
    have t2 : w8.cell? ⟨w2.heap.size, 2, none⟩ = some (.slice (some ⟨g7, 0, none⟩) (n5 + 1) q9) := (block_cell HX8.out 2).trans rfl
    have tf2 : w8.frozen? ⟨w2.heap.size, 2, none⟩ = false := block_free HX8.out 2
    have z0 : w8.cell? ⟨w.heap.size, 0, none⟩ = some (.int .i64 0) := (block_cell HB8.out 0).trans rfl
    have zf0 : w8.frozen? ⟨w.heap.size, 0, none⟩ = false := block_free HB8.out 0
    have z1 : w8.cell? ⟨w.heap.size, 1, none⟩ = some (.slice none 0 0) := (block_cell HB8.out 1).trans rfl
    have zf1 : w8.frozen? ⟨w.heap.size, 1, none⟩ = false := block_free HB8.out 1
    have z2 : w8.cell? ⟨w.heap.size, 2, none⟩ = some (.slice none 0 0) := (block_cell HB8.out 2).trans rfl
    have zf2 : w8.frozen? ⟨w.heap.size, 2, none⟩ = false := block_free HB8.out 2
    go_wp2_with (fail)
    have hb3 := block_set (block_set (block_set HB8.out (i := 0) (.int .i64 4)) (i := 1) (.slice none 0 0)) (i := 2) (.slice (some ⟨g7, 0, none⟩) (n5 + 1) q9)
    have hqz := ((HQ8.out.other (b := w.heap.size) (j := 0) (Nat.le_refl _) hcw (.int .i64 4)).other (b := w.heap.size) (j := 1) (Nat.le_refl _) hcw (.slice none 0 0)).other (b := w.heap.size) (j := 2) (Nat.le_refl _) hcw (.slice (some ⟨g7, 0, none⟩) (n5 + 1) q9)
    have hst := stay_set3 w8 w.heap.size (.int .i64 4) (.slice none 0 0) (.slice (some ⟨g7, 0, none⟩) (n5 + 1) q9)
    generalize (((w8.setCell ⟨w.heap.size, 0, none⟩ (.int .i64 4)).setCell ⟨w.heap.size, 1, none⟩ (.slice none 0 0)).setCell ⟨w.heap.size, 2, none⟩ (.slice (some ⟨g7, 0, none⟩) (n5 + 1) q9)) = wf at hb3 hqz hst ⊢
    have r0 : wf.cell? ⟨w.heap.size, 0, none⟩ = some (.int .i64 4) := (block_cell hb3 0).trans rfl
    have r1 : wf.cell? ⟨w.heap.size, 1, none⟩ = some (.slice none 0 0) := (block_cell hb3 1).trans rfl
    have r2 : wf.cell? ⟨w.heap.size, 2, none⟩ = some (.slice (some ⟨g7, 0, none⟩) (n5 + 1) q9) := (block_cell hb3 2).trans rfl
    refine bodyPost_ret (by simp [results, Tryd.results65, go_sem, r0, r1, r2]; try rfl) rfl ?_
    exact ⟨_, _, _, _, _, _, _, rfl, After.of_bad HE2.out hy6 hqz, fun j t h => by rw [HE2.out] at h; cases h⟩
set_option maxRecDepth 100000 in
set_option maxHeartbeats 8000000 in
theorem nOne_func4c {f : Nat} (H : nOneOkP f) (HT : nTysOkP f) (HPA : nPartsOk f) (c : Nat) (s : ByteArray) (i m : Nat) (x : ByteArray) (d : Int) (w : World) (hs : s.size ≤ 8000) (hi : i ≤ s.size) (hd : d = 12 - ((f + 1 : Nat) : Int)) (hf : f + 1 ≤ 12) (hid : idL s i ≠ 0)
    (hx : s.extract i (i + idL s i) = x) (hm : i + idL s i = m) (hms : m ≤ s.size) (h1 : x ≠ refS) (h2 : x ≠ listS) (h3 : x = funcS) (j : Nat) (u : Unit) (hjs : j ≤ s.size) (hk0 : needB s [40] m = .ok j u) (k : Nat) (l : List Ty) (hks : k ≤ s.size) (hv : isB s j 41 = false) (ht : pTys s (pOne s f) (s.size + 1) [] j = .ok k l) (z : Nat) (u2 : Unit) (hzs : z ≤ s.size) (hk5 : needB s [41, 32] k = .ok z u2) (y : Nat) (t : Ty) (hr : pOne s f z = .ok y t) (h : w.heap[c]? = some (.cells #[.string s, .int .i64 i, .int .i64 (-1)] 86 (0, 0))) :
  Calls Tryd.prog 65 #[.pointer (some ⟨c, 0, none⟩), .int .i64 d] w fun e w' => ∃ (k : Int) (A : Option Addr) (n q : Nat) (A' : Option Addr) (n' q' : Nat), e = .returned (.agg #[.int .i64 k, .slice A n q, .slice A' n' q']) ∧
    After c 86 s w (pOne s (f + 1) i) w' ∧ ∀ j t, pOne s (f + 1) i = .ok j t → TyR (f + 1) w' (fun b => w.heap.size ≤ b) t [.int .i64 k, .slice A n q, .slice A' n' q'] := by
  have HSA := hide ((Pb.start h).alloc (.cells #[.int .i64 0, .slice none 0 0, .slice none 0 0] 75))
  have HBX := hide (heap_alloc_new w (.cells #[.int .i64 0, .slice none 0 0, .slice none 0 0] 75))
  have hcw := lt_of_block h
  have hlw : w.heap.size < (w.alloc (.cells #[.int .i64 0, .slice none 0 0, .slice none 0 0] 75)).heap.size := by simp
  have HID := hide (show ∀ W, W.heap[c]? = some (.cells #[.string s, .int .i64 i, .int .i64 (-1)] 86 (0, 0)) → Calls Tryd.prog 36 #[.pointer (some ⟨c, 0, none⟩)] W fun e w' => e = .returned (.string x) ∧ Pb c 86 s m (-1) W w' from fun W h => by have h1 := nIdent_onP c s i W hs hi h; rw [idWr, if_neg hid, hx, hm] at h1; exact h1)
  have hd0 : 0 ≤ d := by omega
  have hd12 : decide (12 ≤ d) = false := by simp; omega
  have hd11 : d ≤ 11 := by omega
  have HON := hide (fun W j hj h => H c s j (d + 1) W hs hj (by omega) h)
  have HTY := hide (fun W j hj h => HT c s j (d + 1) W hs hj (by omega) h)
  have HPT := hide (fun W x j hx hj h => HPA c s x j (d + 1) W hs hx hj (by omega) h)
  have c1 : (w.alloc (.cells #[.int .i64 0, .slice none 0 0, .slice none 0 0] 75)).cell? ⟨c, 1, none⟩ = some (.int .i64 i) := HSA.out.c1
  obtain ⟨i0, hi0, iz0, iz1, iz2⟩ := info_parts info_tyP
  have HE := hide (pOne_func (f := f) hid (by rw [hx]; exact h1) (by rw [hx]; exact h2) (by rw [hx]; exact h3))
  rw [hm] at HE
  unfold pFunc at HE
  have hxl : x = ⟨#[102, 117, 110, 99]⟩ := h3
  subst hxl
  clear h1 h2 h3
  have HK0 := hide (show ∀ W, W.heap[c]? = some (.cells #[.string s, .int .i64 m, .int .i64 (-1)] 86 (0, 0)) → Calls Tryd.prog 37 #[.pointer (some ⟨c, 0, none⟩), .string ⟨#[40]⟩] W fun r w' => r = .returned (.tuple #[]) ∧ Pb c 86 s j (-1) W w' from fun W h => (nTake_on c s ⟨#[40]⟩ m W hs (by decide) hms h).mono fun r w' ⟨h1, h2⟩ => ⟨h1, h2.ok hk0⟩)
  have HIS := hide (show ∀ W, W.heap[c]? = some (.cells #[.string s, .int .i64 j, .int .i64 (-1)] 86 (0, 0)) → Calls Tryd.prog 38 #[.pointer (some ⟨c, 0, none⟩), .int .u8 41] W fun r w' => r = .returned (.bool false) ∧ Pb c 86 s j (-1) W w' from fun W h => nIs_no c s j 41 W hs hjs hv h)
  have hpt : pTakes s (pOne s f) j = .ok k l := by rw [pTakes, if_neg (isB_false hv)]; exact ht
  have HTC := hide (show ∀ W, W.heap[c]? = some (.cells #[.string s, .int .i64 j, .int .i64 (-1)] 86 (0, 0)) → Calls Tryd.prog 39 #[.pointer (some ⟨c, 0, none⟩), .int .i64 (d + 1)] W fun r w' => ∃ (A : Option Addr) (n q : Nat), r = .returned (.slice A n q) ∧ n ≤ s.size + 1 ∧ OwnT w' W.heap.size 75 3 (TyR f) (.slice A n q) n l ∧ Pb c 86 s k (-1) W w' from fun W h => (HTY.out W j hjs h).mono fun r w' ⟨A, n, q, h1, h2, _, h3, h4⟩ => ⟨A, n, q, h1, h2, h4 _ _ ht, h3.ok ht⟩)
  have HK5 := hide (show ∀ W, W.heap[c]? = some (.cells #[.string s, .int .i64 k, .int .i64 (-1)] 86 (0, 0)) → Calls Tryd.prog 37 #[.pointer (some ⟨c, 0, none⟩), .string ⟨#[41, 32]⟩] W fun r w' => r = .returned (.tuple #[]) ∧ Pb c 86 s z (-1) W w' from fun W h => (nTake_on c s ⟨#[41, 32]⟩ k W hs (by decide) hks h).mono fun r w' ⟨h1, h2⟩ => ⟨h1, h2.ok hk5⟩)
  have HOC := hide (show ∀ W, W.heap[c]? = some (.cells #[.string s, .int .i64 z, .int .i64 (-1)] 86 (0, 0)) → Calls Tryd.prog 65 #[.pointer (some ⟨c, 0, none⟩), .int .i64 (d + 1)] W fun r w' => ∃ (k : Int) (A : Option Addr) (n q : Nat) (A' : Option Addr) (n' q' : Nat), r = .returned (.agg #[.int .i64 k, .slice A n q, .slice A' n' q']) ∧ Pb c 86 s y (-1) W w' ∧ TyR f w' (fun b => W.heap.size ≤ b) t [.int .i64 k, .slice A n q, .slice A' n' q'] from fun W h => (HON.out W z hzs h).mono fun r w' ⟨k, A, n, q, A', n', q', h1, h2, h3⟩ => ⟨k, A, n, q, A', n', q', h1, h2.ok hr, h3 _ _ hr⟩)
  have HE2 := hide (show pOne s (f + 1) i = .ok y (Ty.mk 4 [] (l ++ [t])) by rw [HE.out, hk0]; simp only [Res.bind]; rw [hpt]; simp only [Res.bind]; rw [hk5]; simp only [Res.bind]; rw [hr])
  clear hk0 hv hk5 ht hpt hr
  clear h hid hx hm H HT HPA hd
  go_enter Tryd.func65, Tryd.ntmps65
  go_wp2_with (first
    | (go_at_call 36; refine (HID.out _ HSA.out.box).mono ?_; rintro r w1 ⟨rfl, hq1⟩; have HQ1 := hide (HSA.out.trans hq1); have HB1 := hide (hq1.bu.keep _ _ HBX.out (by omega)); have c1 := HQ1.out.c1; have c2 := HQ1.out.c2; have hz1 := HQ1.out.size; have hl1 : w.heap.size < w1.heap.size := lt_of_block HB1.out; clear hq1)
    | (go_at_call 37; ((with_reducible refine (HK0.out _ HQ1.out.box).mono ?_)); rintro r w2 ⟨rfl, hq2⟩; have HQ2 := hide (HQ1.out.trans hq2); have HB2 := hide (hq2.bu.keep _ _ HB1.out (by omega)); have hz2 := HQ2.out.size; have hl2 : w.heap.size < w2.heap.size := lt_of_block HB2.out; have HNT := hide (show w2.heap.size ≠ c from by have := HQ2.out.lt; omega); have HXT := hide (heap_alloc_new w2 (.cells #[.int .i64 4, .slice none 0 0, .slice none 0 0] 75)); have HQT := hide (HQ2.out.alloc (.cells #[.int .i64 4, .slice none 0 0, .slice none 0 0] 75)); have HBT := hide (block_below HB2.out ((Below.refl _ _).alloc (Nat.le_refl _) (.cells #[.int .i64 4, .slice none 0 0, .slice none 0 0] 75))); clear hq2)
    | (go_at_call 38; ((with_reducible refine (HIS.out _ HQT.out.box).mono ?_)); rintro r w3 ⟨rfl, hq3⟩; have HQ3 := hide (HQT.out.trans hq3); have HX3 := hide (hq3.bu.keep _ _ HXT.out HNT.out); have HB3 := hide (hq3.bu.keep _ _ HBT.out (by omega)); have hl3 : w2.heap.size < w3.heap.size := lt_of_block HX3.out; have t0 : w3.cell? ⟨w2.heap.size, 0, none⟩ = some (.int .i64 4) := (block_cell HX3.out 0).trans rfl; have tf0 : w3.frozen? ⟨w2.heap.size, 0, none⟩ = false := block_free HX3.out 0; have t1 : w3.cell? ⟨w2.heap.size, 1, none⟩ = some (.slice none 0 0) := (block_cell HX3.out 1).trans rfl; have tf1 : w3.frozen? ⟨w2.heap.size, 1, none⟩ = false := block_free HX3.out 1; have t2 : w3.cell? ⟨w2.heap.size, 2, none⟩ = some (.slice none 0 0) := (block_cell HX3.out 2).trans rfl; have tf2 : w3.frozen? ⟨w2.heap.size, 2, none⟩ = false := block_free HX3.out 2; have c2 := HQ3.out.c2; clear hq3)
    | (go_at_call 39; ((with_reducible refine (HTC.out _ HQ3.out.box).mono ?_)); rintro r w4 ⟨A5, n5, q5, rfl, hn5, hoa, hq4⟩; have HX4 := hide (hq4.bu.keep _ _ HX3.out HNT.out); have HXS := hide (block_set HX4.out (i := 2) (.slice A5 n5 q5)); have HBS := hide (block_set_other (hq4.bu.keep _ _ HB3.out (by omega)) ⟨w2.heap.size, 2, none⟩ (.slice A5 n5 q5) (by simp; omega)); have HQ4 := hide (HQ3.out.trans hq4); have HQS := hide (HQ4.out.other (b := w2.heap.size) (j := 2) (by omega) hcw (.slice A5 n5 q5)); have hz4 := hq4.size; have HO4 := hide (hoa.butAt (stay_ty f) (ButAt.set w4 2 (.slice A5 n5 q5)) hl3); have t0 : w4.cell? ⟨w2.heap.size, 0, none⟩ = some (.int .i64 4) := (block_cell HX4.out 0).trans rfl; have tf0 : w4.frozen? ⟨w2.heap.size, 0, none⟩ = false := block_free HX4.out 0; have t1 : w4.cell? ⟨w2.heap.size, 1, none⟩ = some (.slice none 0 0) := (block_cell HX4.out 1).trans rfl; have tf1 : w4.frozen? ⟨w2.heap.size, 1, none⟩ = false := block_free HX4.out 1; have t2 : w4.cell? ⟨w2.heap.size, 2, none⟩ = some (.slice none 0 0) := (block_cell HX4.out 2).trans rfl; have tf2 : w4.frozen? ⟨w2.heap.size, 2, none⟩ = false := block_free HX4.out 2; clear hq4 hoa)
    | (go_at_call 37; ((with_reducible refine (HK5.out _ HQS.out.box).mono ?_)); rintro r w5 ⟨rfl, hq5⟩; have HQ5 := hide (HQS.out.trans hq5); have HX5 := hide (hq5.bu.keep _ _ HXS.out HNT.out); have HB5 := hide (hq5.bu.keep _ _ HBS.out (by omega)); have HO5 := hide (HO4.out.butAt (stay_ty f) hq5.bu (by omega)); have hz5 := hq5.size; have t0 : w5.cell? ⟨w2.heap.size, 0, none⟩ = some (.int .i64 4) := (block_cell HX5.out 0).trans rfl; have tf0 : w5.frozen? ⟨w2.heap.size, 0, none⟩ = false := block_free HX5.out 0; have t1 : w5.cell? ⟨w2.heap.size, 1, none⟩ = some (.slice none 0 0) := (block_cell HX5.out 1).trans rfl; have tf1 : w5.frozen? ⟨w2.heap.size, 1, none⟩ = false := block_free HX5.out 1; have t2 : w5.cell? ⟨w2.heap.size, 2, none⟩ = some (.slice A5 n5 q5) := (block_cell HX5.out 2).trans rfl; have tf2 : w5.frozen? ⟨w2.heap.size, 2, none⟩ = false := block_free HX5.out 2; have z0 : w5.cell? ⟨w.heap.size, 0, none⟩ = some (.int .i64 0) := (block_cell HB5.out 0).trans rfl; have zf0 : w5.frozen? ⟨w.heap.size, 0, none⟩ = false := block_free HB5.out 0; have z1 : w5.cell? ⟨w.heap.size, 1, none⟩ = some (.slice none 0 0) := (block_cell HB5.out 1).trans rfl; have zf1 : w5.frozen? ⟨w.heap.size, 1, none⟩ = false := block_free HB5.out 1; have z2 : w5.cell? ⟨w.heap.size, 2, none⟩ = some (.slice none 0 0) := (block_cell HB5.out 2).trans rfl; have zf2 : w5.frozen? ⟨w.heap.size, 2, none⟩ = false := block_free HB5.out 2; have c2 := HQ5.out.c2; clear hq5))
  have hcb : c < w3.heap.size := by omega
  have hz35 : w3.heap.size ≤ w5.heap.size := by have h5 := hz5; (try simp at h5); omega
  have HQD := hide HQ5.out.drew
  have hwr : IntKind.i64.wrap (d + 1) = d + 1 := IntWalk.i64_in _ (by omega)
  have HXD := hide (show w5.drew.heap[w2.heap.size]? = _ from HX5.out)
  have HBD := hide (show w5.drew.heap[w.heap.size]? = _ from HB5.out)
  go_region_law (first
    | (go_simp; go_at_call 65; ((with_reducible refine (HOC.out _ HQD.out.box).mono ?_)); rintro r w6 ⟨k6, A6, n6, q6, A7, n7, q7, rfl, hq6, hty⟩; have HO6 := hide ((HO5.out.butAt (stay_ty f) (c := c) (ButAt.of_below (Below.refl _ _).drew (by have := HQ5.out.lt; omega)) hcb).butAt (stay_ty f) hq6.bu hcb); have HQ6 := hide (HQD.out.trans hq6); have HX6 := hide (hq6.bu.keep _ _ HXD.out HNT.out); have HB6 := hide (hq6.bu.keep _ _ HBD.out (by omega)); have hz6 : w5.heap.size ≤ w6.heap.size := hq6.size; have t0 : w6.cell? ⟨w2.heap.size, 0, none⟩ = some (.int .i64 4) := (block_cell HX6.out 0).trans rfl; have tf0 : w6.frozen? ⟨w2.heap.size, 0, none⟩ = false := block_free HX6.out 0; have t1 : w6.cell? ⟨w2.heap.size, 1, none⟩ = some (.slice none 0 0) := (block_cell HX6.out 1).trans rfl; have tf1 : w6.frozen? ⟨w2.heap.size, 1, none⟩ = false := block_free HX6.out 1; have t2 : w6.cell? ⟨w2.heap.size, 2, none⟩ = some (.slice A5 n5 q5) := (block_cell HX6.out 2).trans rfl; have tf2 : w6.frozen? ⟨w2.heap.size, 2, none⟩ = false := block_free HX6.out 2; have HT6 := hide hty; clear hq6 hty)
    | (refine step_append_lies _ (by rfl) (.tmp 71) (.tmp 76) 23 (by rfl) w3.heap.size 75 i0 (.agg #[.int .i64 0, .slice none 0 0, .slice none 0 0]) 3 56 Tryd.underlying23 hi0 iz0 iz1 iz2 rfl (by omega) (.slice A5 n5 q5) n5 _ (by rfl) (HO6.out.choose_spec.1.alloc _) ⟨w6.heap.size, 0, none⟩ 1 1 [.int .i64 k6, .slice A6 n6 q6, .slice A7 n7 q7] (by rfl) (by rfl) (cells_new w6 [.int .i64 k6, .slice A6 n6 q6, .slice A7 n7 q7] _) (by intro u hu; simp at hu; rcases hu with rfl | rfl | rfl <;> rfl) (by omega) (by unfold maxLen; omega) (by omega) (by simp; omega) (w6.heap.size + 1) (by simp) ?_; intro g7 q9 w7 hown7 hgr7 hat7 hlt7; have HQ7 := hide (HQ6.out.grown hgr7 HO6.out.lt (by omega) hcb); have HX7 := hide ((hgr7.block w2.heap.size (by simp; omega) (fun e => by have := (HO6.out.lt _ e.symm).1; omega)).trans (block_below HX6.out ((Below.refl _ _).alloc (Nat.le_refl _) (.cells #[.int .i64 k6, .slice A6 n6 q6, .slice A7 n7 q7] 75)))); have HB7 := hide ((hgr7.block w.heap.size (by simp; omega) (fun e => by have := (HO6.out.lt _ e.symm).1; omega)).trans (block_below HB6.out ((Below.refl _ _).alloc (Nat.le_refl _) (.cells #[.int .i64 k6, .slice A6 n6 q6, .slice A7 n7 q7] 75)))); have t0 : w7.cell? ⟨w2.heap.size, 0, none⟩ = some (.int .i64 4) := (block_cell HX7.out 0).trans rfl; have tf0 : w7.frozen? ⟨w2.heap.size, 0, none⟩ = false := block_free HX7.out 0; have t1 : w7.cell? ⟨w2.heap.size, 1, none⟩ = some (.slice none 0 0) := (block_cell HX7.out 1).trans rfl; have tf1 : w7.frozen? ⟨w2.heap.size, 1, none⟩ = false := block_free HX7.out 1; have t2 : w7.cell? ⟨w2.heap.size, 2, none⟩ = some (.slice A5 n5 q5) := (block_cell HX7.out 2).trans rfl; have tf2 : w7.frozen? ⟨w2.heap.size, 2, none⟩ = false := block_free HX7.out 2; have HO7 := hide (OwnT.push1 (stay_ty f) HO6.out rfl (stay_ty f _ _ _ _ _ _ HT6.out (StayS.refl _ _) (fun b h1 h2 => ⟨by have h3 : w5.heap.size ≤ b := h1; omega, fun e => by have h3 : w5.heap.size ≤ b := h1; have := (HO5.out.lt b e).2; omega⟩)) hown7 hgr7 (by rcases hat7 with e | e; exact .inl e.symm; (right; subst e; simp [Value.ownBlock]))); clear hown7 hgr7 hat7 hlt7))
  all_goals
    have hx8 := block_set HX7.out (i := 2) (.slice (some ⟨g7, 0, none⟩) (n5 + 1) q9)
    have hb8 := block_set_other HB7.out ⟨w2.heap.size, 2, none⟩ (.slice (some ⟨g7, 0, none⟩) (n5 + 1) q9) (by simp; omega)
    have hq8 := HQ7.out.other (b := w2.heap.size) (j := 2) (by omega) hcw (.slice (some ⟨g7, 0, none⟩) (n5 + 1) q9)
    have HX8 := hide hx8
    have HB8 := hide hb8
    have HQ8 := hide hq8
    have HO8 := hide (HO7.out.butAt (stay_ty f) (ButAt.set w7 2 (.slice (some ⟨g7, 0, none⟩) (n5 + 1) q9)) hl3)
    clear hx8 hb8 hq8
    obtain ⟨w8, hw8⟩ : ∃ w8, w7.setCell ⟨w2.heap.size, 2, none⟩ (.slice (some ⟨g7, 0, none⟩) (n5 + 1) q9) = w8 := ⟨_, rfl⟩
    rw [hw8] at HX8 HB8 HQ8 HO8 ⊢
    clear hw8
    have t0 : w8.cell? ⟨w2.heap.size, 0, none⟩ = some (.int .i64 4) := (block_cell HX8.out 0).trans rfl
    have tf0 : w8.frozen? ⟨w2.heap.size, 0, none⟩ = false := block_free HX8.out 0
    have t1 : w8.cell? ⟨w2.heap.size, 1, none⟩ = some (.slice none 0 0) := (block_cell HX8.out 1).trans rfl
    have tf1 : w8.frozen? ⟨w2.heap.size, 1, none⟩ = false := block_free HX8.out 1
    have t2 : w8.cell? ⟨w2.heap.size, 2, none⟩ = some (.slice (some ⟨g7, 0, none⟩) (n5 + 1) q9) := (block_cell HX8.out 2).trans rfl
    have tf2 : w8.frozen? ⟨w2.heap.size, 2, none⟩ = false := block_free HX8.out 2
    have z0 : w8.cell? ⟨w.heap.size, 0, none⟩ = some (.int .i64 0) := (block_cell HB8.out 0).trans rfl
    have zf0 : w8.frozen? ⟨w.heap.size, 0, none⟩ = false := block_free HB8.out 0
    have z1 : w8.cell? ⟨w.heap.size, 1, none⟩ = some (.slice none 0 0) := (block_cell HB8.out 1).trans rfl
    have zf1 : w8.frozen? ⟨w.heap.size, 1, none⟩ = false := block_free HB8.out 1
    have z2 : w8.cell? ⟨w.heap.size, 2, none⟩ = some (.slice none 0 0) := (block_cell HB8.out 2).trans rfl
    have zf2 : w8.frozen? ⟨w.heap.size, 2, none⟩ = false := block_free HB8.out 2
    go_wp2_with (fail)
    have hb3 := block_set (block_set (block_set HB8.out (i := 0) (.int .i64 4)) (i := 1) (.slice none 0 0)) (i := 2) (.slice (some ⟨g7, 0, none⟩) (n5 + 1) q9)
    have hqz := ((HQ8.out.other (b := w.heap.size) (j := 0) (Nat.le_refl _) hcw (.int .i64 4)).other (b := w.heap.size) (j := 1) (Nat.le_refl _) hcw (.slice none 0 0)).other (b := w.heap.size) (j := 2) (Nat.le_refl _) hcw (.slice (some ⟨g7, 0, none⟩) (n5 + 1) q9)
    have hst := stay_set3 w8 w.heap.size (.int .i64 4) (.slice none 0 0) (.slice (some ⟨g7, 0, none⟩) (n5 + 1) q9)
    generalize (((w8.setCell ⟨w.heap.size, 0, none⟩ (.int .i64 4)).setCell ⟨w.heap.size, 1, none⟩ (.slice none 0 0)).setCell ⟨w.heap.size, 2, none⟩ (.slice (some ⟨g7, 0, none⟩) (n5 + 1) q9)) = wf at hb3 hqz hst ⊢
    have r0 : wf.cell? ⟨w.heap.size, 0, none⟩ = some (.int .i64 4) := (block_cell hb3 0).trans rfl
    have r1 : wf.cell? ⟨w.heap.size, 1, none⟩ = some (.slice none 0 0) := (block_cell hb3 1).trans rfl
    have r2 : wf.cell? ⟨w.heap.size, 2, none⟩ = some (.slice (some ⟨g7, 0, none⟩) (n5 + 1) q9) := (block_cell hb3 2).trans rfl
    refine bodyPost_ret (by simp [results, Tryd.results65, go_sem, r0, r1, r2]; try rfl) rfl ?_
    exact ⟨_, _, _, _, _, _, _, rfl, After.of_ok HE2.out hqz, fun j t h => by rw [HE2.out] at h; cases h; exact func_new HO8.out hst hl2 (by omega)⟩
set_option maxRecDepth 100000 in
set_option maxHeartbeats 8000000 in
theorem nOne_func3 {f : Nat} (H : nOneOkP f) (HT : nTysOkP f) (HPA : nPartsOk f) (c : Nat) (s : ByteArray) (i m : Nat) (x : ByteArray) (d : Int) (w : World) (hs : s.size ≤ 8000) (hi : i ≤ s.size) (hd : d = 12 - ((f + 1 : Nat) : Int)) (hf : f + 1 ≤ 12) (hid : idL s i ≠ 0)
    (hx : s.extract i (i + idL s i) = x) (hm : i + idL s i = m) (hms : m ≤ s.size) (h1 : x ≠ refS) (h2 : x ≠ listS) (h3 : x = funcS) (j : Nat) (u : Unit) (hjs : j ≤ s.size) (hk0 : needB s [40] m = .ok j u) (hv : isB s j 41 = false) (e : Nat) (ht : pTys s (pOne s f) (s.size + 1) [] j = .bad e) (h : w.heap[c]? = some (.cells #[.string s, .int .i64 i, .int .i64 (-1)] 86 (0, 0))) :
  Calls Tryd.prog 65 #[.pointer (some ⟨c, 0, none⟩), .int .i64 d] w fun e w' => ∃ (k : Int) (A : Option Addr) (n q : Nat) (A' : Option Addr) (n' q' : Nat), e = .returned (.agg #[.int .i64 k, .slice A n q, .slice A' n' q']) ∧
    After c 86 s w (pOne s (f + 1) i) w' ∧ ∀ j t, pOne s (f + 1) i = .ok j t → TyR (f + 1) w' (fun b => w.heap.size ≤ b) t [.int .i64 k, .slice A n q, .slice A' n' q'] := by
  have HSA := hide ((Pb.start h).alloc (.cells #[.int .i64 0, .slice none 0 0, .slice none 0 0] 75))
  have HBX := hide (heap_alloc_new w (.cells #[.int .i64 0, .slice none 0 0, .slice none 0 0] 75))
  have hcw := lt_of_block h
  have hlw : w.heap.size < (w.alloc (.cells #[.int .i64 0, .slice none 0 0, .slice none 0 0] 75)).heap.size := by simp
  have HID := hide (show ∀ W, W.heap[c]? = some (.cells #[.string s, .int .i64 i, .int .i64 (-1)] 86 (0, 0)) → Calls Tryd.prog 36 #[.pointer (some ⟨c, 0, none⟩)] W fun e w' => e = .returned (.string x) ∧ Pb c 86 s m (-1) W w' from fun W h => by have h1 := nIdent_onP c s i W hs hi h; rw [idWr, if_neg hid, hx, hm] at h1; exact h1)
  have hd0 : 0 ≤ d := by omega
  have hd12 : decide (12 ≤ d) = false := by simp; omega
  have hd11 : d ≤ 11 := by omega
  have HON := hide (fun W j hj h => H c s j (d + 1) W hs hj (by omega) h)
  have HTY := hide (fun W j hj h => HT c s j (d + 1) W hs hj (by omega) h)
  have HPT := hide (fun W x j hx hj h => HPA c s x j (d + 1) W hs hx hj (by omega) h)
  have c1 : (w.alloc (.cells #[.int .i64 0, .slice none 0 0, .slice none 0 0] 75)).cell? ⟨c, 1, none⟩ = some (.int .i64 i) := HSA.out.c1
  obtain ⟨i0, hi0, iz0, iz1, iz2⟩ := info_parts info_tyP
  have HE := hide (pOne_func (f := f) hid (by rw [hx]; exact h1) (by rw [hx]; exact h2) (by rw [hx]; exact h3))
  rw [hm] at HE
  unfold pFunc at HE
  have hxl : x = ⟨#[102, 117, 110, 99]⟩ := h3
  subst hxl
  clear h1 h2 h3
  have HK0 := hide (show ∀ W, W.heap[c]? = some (.cells #[.string s, .int .i64 m, .int .i64 (-1)] 86 (0, 0)) → Calls Tryd.prog 37 #[.pointer (some ⟨c, 0, none⟩), .string ⟨#[40]⟩] W fun r w' => r = .returned (.tuple #[]) ∧ Pb c 86 s j (-1) W w' from fun W h => (nTake_on c s ⟨#[40]⟩ m W hs (by decide) hms h).mono fun r w' ⟨h1, h2⟩ => ⟨h1, h2.ok hk0⟩)
  have HIS := hide (show ∀ W, W.heap[c]? = some (.cells #[.string s, .int .i64 j, .int .i64 (-1)] 86 (0, 0)) → Calls Tryd.prog 38 #[.pointer (some ⟨c, 0, none⟩), .int .u8 41] W fun r w' => r = .returned (.bool false) ∧ Pb c 86 s j (-1) W w' from fun W h => nIs_no c s j 41 W hs hjs hv h)
  have hpt : pTakes s (pOne s f) j = .bad e := by rw [pTakes, if_neg (isB_false hv)]; exact ht
  have HTC := hide (show ∀ W, W.heap[c]? = some (.cells #[.string s, .int .i64 j, .int .i64 (-1)] 86 (0, 0)) → Calls Tryd.prog 39 #[.pointer (some ⟨c, 0, none⟩), .int .i64 (d + 1)] W fun r w' => ∃ (A : Option Addr) (n q : Nat), r = .returned (.slice A n q) ∧ n ≤ s.size + 1 ∧ OwnAny w' W.heap.size 75 3 (.slice A n q) n ∧ ∃ i : Nat, i ≤ s.size ∧ Pb c 86 s i (e : Nat) W w' from fun W h => (HTY.out W j hjs h).mono fun r w' ⟨A, n, q, h1, h2, h5, h3, h4⟩ => ⟨A, n, q, h1, h2, h5, h3.bad ht⟩)
  have HK5 := hide (show ∀ (yy : Nat) W, W.heap[c]? = some (.cells #[.string s, .int .i64 yy, .int .i64 (e : Nat)] 86 (0, 0)) → Calls Tryd.prog 37 #[.pointer (some ⟨c, 0, none⟩), .string ⟨#[41, 32]⟩] W fun r w' => r = .returned (.tuple #[]) ∧ Pb c 86 s yy (e : Nat) W w' from fun yy W h => nTake_offP c s ⟨#[41, 32]⟩ yy (e : Nat) W (by omega) (by decide) (by decide) h)
  have HOC := hide (fun (yy : Nat) (hyy : yy ≤ s.size) W h => nOne_off c s yy (e : Nat) (d + 1) W (by omega) hs hyy h)
  have HE2 := hide (show pOne s (f + 1) i = .bad e by rw [HE.out, hk0]; simp only [Res.bind]; rw [hpt])
  have hoff : decide (((e : Nat) : Int) < 0) = false := by simp
  clear hk0 hv ht hpt
  clear h hid hx hm H HT HPA hd
  go_enter Tryd.func65, Tryd.ntmps65
  go_wp2_with (first
    | (go_at_call 36; refine (HID.out _ HSA.out.box).mono ?_; rintro r w1 ⟨rfl, hq1⟩; have HQ1 := hide (HSA.out.trans hq1); have HB1 := hide (hq1.bu.keep _ _ HBX.out (by omega)); have c1 := HQ1.out.c1; have c2 := HQ1.out.c2; have hz1 := HQ1.out.size; have hl1 : w.heap.size < w1.heap.size := lt_of_block HB1.out; clear hq1)
    | (go_at_call 37; ((with_reducible refine (HK0.out _ HQ1.out.box).mono ?_)); rintro r w2 ⟨rfl, hq2⟩; have HQ2 := hide (HQ1.out.trans hq2); have HB2 := hide (hq2.bu.keep _ _ HB1.out (by omega)); have hz2 := HQ2.out.size; have hl2 : w.heap.size < w2.heap.size := lt_of_block HB2.out; have HNT := hide (show w2.heap.size ≠ c from by have := HQ2.out.lt; omega); have HXT := hide (heap_alloc_new w2 (.cells #[.int .i64 4, .slice none 0 0, .slice none 0 0] 75)); have HQT := hide (HQ2.out.alloc (.cells #[.int .i64 4, .slice none 0 0, .slice none 0 0] 75)); have HBT := hide (block_below HB2.out ((Below.refl _ _).alloc (Nat.le_refl _) (.cells #[.int .i64 4, .slice none 0 0, .slice none 0 0] 75))); clear hq2)
    | (go_at_call 38; ((with_reducible refine (HIS.out _ HQT.out.box).mono ?_)); rintro r w3 ⟨rfl, hq3⟩; have HQ3 := hide (HQT.out.trans hq3); have HX3 := hide (hq3.bu.keep _ _ HXT.out HNT.out); have HB3 := hide (hq3.bu.keep _ _ HBT.out (by omega)); have hl3 : w2.heap.size < w3.heap.size := lt_of_block HX3.out; have t0 : w3.cell? ⟨w2.heap.size, 0, none⟩ = some (.int .i64 4) := (block_cell HX3.out 0).trans rfl; have tf0 : w3.frozen? ⟨w2.heap.size, 0, none⟩ = false := block_free HX3.out 0; have t1 : w3.cell? ⟨w2.heap.size, 1, none⟩ = some (.slice none 0 0) := (block_cell HX3.out 1).trans rfl; have tf1 : w3.frozen? ⟨w2.heap.size, 1, none⟩ = false := block_free HX3.out 1; have t2 : w3.cell? ⟨w2.heap.size, 2, none⟩ = some (.slice none 0 0) := (block_cell HX3.out 2).trans rfl; have tf2 : w3.frozen? ⟨w2.heap.size, 2, none⟩ = false := block_free HX3.out 2; have c2 := HQ3.out.c2; clear hq3)
    | (go_at_call 39; ((with_reducible refine (HTC.out _ HQ3.out.box).mono ?_)); rintro r w4 ⟨A5, n5, q5, rfl, hn5, hoa, y4, hy4, hq4⟩; have HX4 := hide (hq4.bu.keep _ _ HX3.out HNT.out); have HXS := hide (block_set HX4.out (i := 2) (.slice A5 n5 q5)); have HBS := hide (block_set_other (hq4.bu.keep _ _ HB3.out (by omega)) ⟨w2.heap.size, 2, none⟩ (.slice A5 n5 q5) (by simp; omega)); have HQ4 := hide (HQ3.out.trans hq4); have HQS := hide (HQ4.out.other (b := w2.heap.size) (j := 2) (by omega) hcw (.slice A5 n5 q5)); have hz4 := hq4.size; have HO4 := hide (hoa.butAt (ButAt.set w4 2 (.slice A5 n5 q5)) hl3); have t0 : w4.cell? ⟨w2.heap.size, 0, none⟩ = some (.int .i64 4) := (block_cell HX4.out 0).trans rfl; have tf0 : w4.frozen? ⟨w2.heap.size, 0, none⟩ = false := block_free HX4.out 0; have t1 : w4.cell? ⟨w2.heap.size, 1, none⟩ = some (.slice none 0 0) := (block_cell HX4.out 1).trans rfl; have tf1 : w4.frozen? ⟨w2.heap.size, 1, none⟩ = false := block_free HX4.out 1; have t2 : w4.cell? ⟨w2.heap.size, 2, none⟩ = some (.slice none 0 0) := (block_cell HX4.out 2).trans rfl; have tf2 : w4.frozen? ⟨w2.heap.size, 2, none⟩ = false := block_free HX4.out 2; clear hq4 hoa)
    | (go_at_call 37; ((with_reducible refine (HK5.out _ _ HQS.out.box).mono ?_)); rintro r w5 ⟨rfl, hq5⟩; have HQ5 := hide (HQS.out.trans hq5); have HX5 := hide (hq5.bu.keep _ _ HXS.out HNT.out); have HB5 := hide (hq5.bu.keep _ _ HBS.out (by omega)); have HO5 := hide (HO4.out.butAt hq5.bu (by omega)); have hz5 := hq5.size; have t0 : w5.cell? ⟨w2.heap.size, 0, none⟩ = some (.int .i64 4) := (block_cell HX5.out 0).trans rfl; have tf0 : w5.frozen? ⟨w2.heap.size, 0, none⟩ = false := block_free HX5.out 0; have t1 : w5.cell? ⟨w2.heap.size, 1, none⟩ = some (.slice none 0 0) := (block_cell HX5.out 1).trans rfl; have tf1 : w5.frozen? ⟨w2.heap.size, 1, none⟩ = false := block_free HX5.out 1; have t2 : w5.cell? ⟨w2.heap.size, 2, none⟩ = some (.slice A5 n5 q5) := (block_cell HX5.out 2).trans rfl; have tf2 : w5.frozen? ⟨w2.heap.size, 2, none⟩ = false := block_free HX5.out 2; have z0 : w5.cell? ⟨w.heap.size, 0, none⟩ = some (.int .i64 0) := (block_cell HB5.out 0).trans rfl; have zf0 : w5.frozen? ⟨w.heap.size, 0, none⟩ = false := block_free HB5.out 0; have z1 : w5.cell? ⟨w.heap.size, 1, none⟩ = some (.slice none 0 0) := (block_cell HB5.out 1).trans rfl; have zf1 : w5.frozen? ⟨w.heap.size, 1, none⟩ = false := block_free HB5.out 1; have z2 : w5.cell? ⟨w.heap.size, 2, none⟩ = some (.slice none 0 0) := (block_cell HB5.out 2).trans rfl; have zf2 : w5.frozen? ⟨w.heap.size, 2, none⟩ = false := block_free HB5.out 2; have c2 := HQ5.out.c2; clear hq5))
  have hcb : c < w3.heap.size := by omega
  have hz35 : w3.heap.size ≤ w5.heap.size := by have h5 := hz5; (try simp at h5); omega
  have HQD := hide HQ5.out.drew
  have hwr : IntKind.i64.wrap (d + 1) = d + 1 := IntWalk.i64_in _ (by omega)
  have HXD := hide (show w5.drew.heap[w2.heap.size]? = _ from HX5.out)
  have HBD := hide (show w5.drew.heap[w.heap.size]? = _ from HB5.out)
  go_region_law (first
    | (go_simp; go_at_call 65; ((with_reducible refine (HOC.out _ hy4 _ HQD.out.box).mono ?_)); rintro r w6 ⟨rfl, hq6⟩; have HO6 := hide ((HO5.out.butAt (c := c) (ButAt.of_below (Below.refl _ _).drew (by have := HQ5.out.lt; omega)) hcb).butAt hq6.bu hcb); have HQ6 := hide (HQD.out.trans hq6); have HX6 := hide (hq6.bu.keep _ _ HXD.out HNT.out); have HB6 := hide (hq6.bu.keep _ _ HBD.out (by omega)); have hz6 : w5.heap.size ≤ w6.heap.size := hq6.size; have t0 : w6.cell? ⟨w2.heap.size, 0, none⟩ = some (.int .i64 4) := (block_cell HX6.out 0).trans rfl; have tf0 : w6.frozen? ⟨w2.heap.size, 0, none⟩ = false := block_free HX6.out 0; have t1 : w6.cell? ⟨w2.heap.size, 1, none⟩ = some (.slice none 0 0) := (block_cell HX6.out 1).trans rfl; have tf1 : w6.frozen? ⟨w2.heap.size, 1, none⟩ = false := block_free HX6.out 1; have t2 : w6.cell? ⟨w2.heap.size, 2, none⟩ = some (.slice A5 n5 q5) := (block_cell HX6.out 2).trans rfl; have tf2 : w6.frozen? ⟨w2.heap.size, 2, none⟩ = false := block_free HX6.out 2; clear hq6)
    | (refine step_append_lies _ (by rfl) (.tmp 71) (.tmp 76) 23 (by rfl) w3.heap.size 75 i0 (.agg #[.int .i64 0, .slice none 0 0, .slice none 0 0]) 3 56 Tryd.underlying23 hi0 iz0 iz1 iz2 rfl (by omega) (.slice A5 n5 q5) n5 _ (by rfl) (HO6.out.choose_spec.alloc _) ⟨w6.heap.size, 0, none⟩ 1 1 [.int .i64 0, .slice none 0 0, .slice none 0 0] (by rfl) (by rfl) (cells_new w6 [.int .i64 0, .slice none 0 0, .slice none 0 0] _) (by intro u hu; simp at hu; rcases hu with rfl | rfl | rfl <;> rfl) (by omega) (by unfold maxLen; omega) (by omega) (by simp; omega) (w6.heap.size + 1) (by simp) ?_; intro g7 q9 w7 hown7 hgr7 hat7 hlt7; have HQ7 := hide (HQ6.out.grown hgr7 HO6.out.lt (by omega) hcb); have HX7 := hide ((hgr7.block w2.heap.size (by simp; omega) (fun e => by have := (HO6.out.lt _ e.symm).1; omega)).trans (block_below HX6.out ((Below.refl _ _).alloc (Nat.le_refl _) (.cells #[.int .i64 0, .slice none 0 0, .slice none 0 0] 75)))); have HB7 := hide ((hgr7.block w.heap.size (by simp; omega) (fun e => by have := (HO6.out.lt _ e.symm).1; omega)).trans (block_below HB6.out ((Below.refl _ _).alloc (Nat.le_refl _) (.cells #[.int .i64 0, .slice none 0 0, .slice none 0 0] 75)))); have t0 : w7.cell? ⟨w2.heap.size, 0, none⟩ = some (.int .i64 4) := (block_cell HX7.out 0).trans rfl; have tf0 : w7.frozen? ⟨w2.heap.size, 0, none⟩ = false := block_free HX7.out 0; have t1 : w7.cell? ⟨w2.heap.size, 1, none⟩ = some (.slice none 0 0) := (block_cell HX7.out 1).trans rfl; have tf1 : w7.frozen? ⟨w2.heap.size, 1, none⟩ = false := block_free HX7.out 1; have t2 : w7.cell? ⟨w2.heap.size, 2, none⟩ = some (.slice A5 n5 q5) := (block_cell HX7.out 2).trans rfl; have tf2 : w7.frozen? ⟨w2.heap.size, 2, none⟩ = false := block_free HX7.out 2; clear hown7 hgr7 hat7 hlt7))
  all_goals
    have hx8 := block_set HX7.out (i := 2) (.slice (some ⟨g7, 0, none⟩) (n5 + 1) q9)
    have hb8 := block_set_other HB7.out ⟨w2.heap.size, 2, none⟩ (.slice (some ⟨g7, 0, none⟩) (n5 + 1) q9) (by simp; omega)
    have hq8 := HQ7.out.other (b := w2.heap.size) (j := 2) (by omega) hcw (.slice (some ⟨g7, 0, none⟩) (n5 + 1) q9)
    have HX8 := hide hx8
    have HB8 := hide hb8
    have HQ8 := hide hq8
    skip
    clear hx8 hb8 hq8
    obtain ⟨w8, hw8⟩ : ∃ w8, w7.setCell ⟨w2.heap.size, 2, none⟩ (.slice (some ⟨g7, 0, none⟩) (n5 + 1) q9) = w8 := ⟨_, rfl⟩
    rw [hw8] at HX8 HB8 HQ8 ⊢
    clear hw8
    have t0 : w8.cell? ⟨w2.heap.size, 0, none⟩ = some (.int .i64 4) := (block_cell HX8.out 0).trans rfl
    have tf0 : w8.frozen? ⟨w2.heap.size, 0, none⟩ = false := block_free HX8.out 0
    have t1 : w8.cell? ⟨w2.heap.size, 1, none⟩ = some (.slice none 0 0) := (block_cell HX8.out 1).trans rfl
    have tf1 : w8.frozen? ⟨w2.heap.size, 1, none⟩ = false := block_free HX8.out 1
    have t2 : w8.cell? ⟨w2.heap.size, 2, none⟩ = some (.slice (some ⟨g7, 0, none⟩) (n5 + 1) q9) := (block_cell HX8.out 2).trans rfl
    have tf2 : w8.frozen? ⟨w2.heap.size, 2, none⟩ = false := block_free HX8.out 2
    have z0 : w8.cell? ⟨w.heap.size, 0, none⟩ = some (.int .i64 0) := (block_cell HB8.out 0).trans rfl
    have zf0 : w8.frozen? ⟨w.heap.size, 0, none⟩ = false := block_free HB8.out 0
    have z1 : w8.cell? ⟨w.heap.size, 1, none⟩ = some (.slice none 0 0) := (block_cell HB8.out 1).trans rfl
    have zf1 : w8.frozen? ⟨w.heap.size, 1, none⟩ = false := block_free HB8.out 1
    have z2 : w8.cell? ⟨w.heap.size, 2, none⟩ = some (.slice none 0 0) := (block_cell HB8.out 2).trans rfl
    have zf2 : w8.frozen? ⟨w.heap.size, 2, none⟩ = false := block_free HB8.out 2
    go_wp2_with (fail)
    have hb3 := block_set (block_set (block_set HB8.out (i := 0) (.int .i64 4)) (i := 1) (.slice none 0 0)) (i := 2) (.slice (some ⟨g7, 0, none⟩) (n5 + 1) q9)
    have hqz := ((HQ8.out.other (b := w.heap.size) (j := 0) (Nat.le_refl _) hcw (.int .i64 4)).other (b := w.heap.size) (j := 1) (Nat.le_refl _) hcw (.slice none 0 0)).other (b := w.heap.size) (j := 2) (Nat.le_refl _) hcw (.slice (some ⟨g7, 0, none⟩) (n5 + 1) q9)
    have hst := stay_set3 w8 w.heap.size (.int .i64 4) (.slice none 0 0) (.slice (some ⟨g7, 0, none⟩) (n5 + 1) q9)
    generalize (((w8.setCell ⟨w.heap.size, 0, none⟩ (.int .i64 4)).setCell ⟨w.heap.size, 1, none⟩ (.slice none 0 0)).setCell ⟨w.heap.size, 2, none⟩ (.slice (some ⟨g7, 0, none⟩) (n5 + 1) q9)) = wf at hb3 hqz hst ⊢
    have r0 : wf.cell? ⟨w.heap.size, 0, none⟩ = some (.int .i64 4) := (block_cell hb3 0).trans rfl
    have r1 : wf.cell? ⟨w.heap.size, 1, none⟩ = some (.slice none 0 0) := (block_cell hb3 1).trans rfl
    have r2 : wf.cell? ⟨w.heap.size, 2, none⟩ = some (.slice (some ⟨g7, 0, none⟩) (n5 + 1) q9) := (block_cell hb3 2).trans rfl
    refine bodyPost_ret (by simp [results, Tryd.results65, go_sem, r0, r1, r2]; try rfl) rfl ?_
    exact ⟨_, _, _, _, _, _, _, rfl, After.of_bad HE2.out hy4 hqz, fun j t h => by rw [HE2.out] at h; cases h⟩
end Go.Proofs.YtocpmbpckbjepaaDoor

/- Walks of the parsers' one: function types of the reference (printed by gen_po.py). -/
namespace Go.Proofs.YtocpmbpckbjepaaDoor
open Go.RowKit
set_option linter.unusedVariables false
set_option linter.unusedSimpArgs false
end Go.Proofs.YtocpmbpckbjepaaDoor

/- Walks of the parsers' one: function types of the reference (printed by gen_po.py). -/
namespace Go.Proofs.YtocpmbpckbjepaaDoor
open Go.RowKit
set_option linter.unusedVariables false
set_option linter.unusedSimpArgs false
end Go.Proofs.YtocpmbpckbjepaaDoor
