/- Walks of the source's fault and frame (printed by gen_st.py). -/
import Derived.Test.YtkjpojaanocfjaaGreatDoorStRdT
namespace Go.Proofs.YtkjpojaanocfjaaGreatDoor
open Go.RowKit
set_option linter.unusedVariables false
set_option linter.unusedSimpArgs false
theorem put3 {W : World} {b : Nat} {ty : TypeId} {u0 u1 u2 : Value} (h : W.heap[b]? = some (.cells #[u0, u1, u2] ty (0, 0))) (v0 v1 v2 : Value) :
    ∃ Wf, ((W.setCell ⟨b, 0, none⟩ v0).setCell ⟨b, 1, none⟩ v1).setCell ⟨b, 2, none⟩ v2 = Wf ∧ Wf.heap[b]? = some (.cells #[v0, v1, v2] ty (0, 0)) ∧ ButAt b W Wf := by
  refine ⟨_, rfl, block_set (block_set (block_set h (i := 0) v0) (i := 1) v1) (i := 2) v2, ?_⟩
  exact ((ButAt.set W 0 v0).trans (ButAt.set _ 1 v1)).trans (ButAt.set _ 2 v2)
theorem put6' {W : World} {b : Nat} {ty : TypeId} {u0 u1 u2 u3 u4 u5 : Value} (h : W.heap[b]? = some (.cells #[u0, u1, u2, u3, u4, u5] ty (0, 0))) (v0 v1 v2 v3 v4 v5 : Value) :
    ∃ Wf, (((((W.setCell ⟨b, 0, none⟩ v0).setCell ⟨b, 1, none⟩ v1).setCell ⟨b, 2, none⟩ v2).setCell ⟨b, 3, none⟩ v3).setCell ⟨b, 4, none⟩ v4).setCell ⟨b, 5, none⟩ v5 = Wf ∧ Wf.heap[b]? = some (.cells #[v0, v1, v2, v3, v4, v5] ty (0, 0)) ∧ ButAt b W Wf := by
  refine ⟨_, rfl, block_set (block_set (block_set (block_set (block_set (block_set h (i := 0) v0) (i := 1) v1) (i := 2) v2) (i := 3) v3) (i := 4) v4) (i := 5) v5, ?_⟩
  exact (((((ButAt.set W 0 v0).trans (ButAt.set _ 1 v1)).trans (ButAt.set _ 2 v2)).trans (ButAt.set _ 3 v3)).trans (ButAt.set _ 4 v4)).trans (ButAt.set _ 5 v5)
/-- A block of one's own is written: nothing else that was there is. -/
theorem ButAt.own {p b : Nat} {w W W' : World} (h : ButAt p w W) (hw : ButAt b W W') (hb : w.heap.size ≤ b) (hp : p ≤ w.heap.size) : ButAt p w W' :=
  ⟨h.be.trans (hw.be.mono (by omega)), fun k o e ne => hw.keep k o (h.keep k o e ne) (by have := lt_of_block e; omega)⟩
theorem Src.other {p b : Nat} {A : Option Addr} {n c : Nat} {L : List ByteArray} {t : ByteArray} {k : Nat} {W W' : World} (h : Src p A n c L t k W) (hw : ButAt b W W') (hb : p < b) : Src p A n c L t k W' :=
  h.keep (hw.be.mono (by omega)) (by rw [hw.keep p _ h.box (by omega)]; exact h.box.symm)
theorem lineR_size {p : Nat} {A : Option Addr} {n c : Nat} {L : List ByteArray} {t : ByteArray} {k : Nat} {w : World} (h : Src p A n c L t k w) (pre : ByteArray) : (lineR L k pre).size ≤ 1000000 := by
  unfold lineR
  cases hx : L[k]? with
  | none => exact Nat.zero_le _
  | some x => have := h.szs x (List.mem_of_getElem? hx); simp only [ByteArray.size_extract]; omega
/-- The line of a fault, of a frame, that is taken. -/
def fltS (L : List ByteArray) (k : Nat) (pre : ByteArray) : Option (ByteArray × ByteArray) := if begK L k pre && headK (lineR L k pre) then some (cutL (lineR L k pre) 58, headS (lineR L k pre)) else none
def frmS (L : List ByteArray) (k : Nat) (pre : ByteArray) : Option Frm := if begK L k pre then frR (wordsOf (lineR L k pre)) else none
def kN (b : Bool) (k : Nat) : Nat := if b then k + 1 else k
def FsOut (R : Option (ByteArray × ByteArray)) (e : Ending) : Prop := ∃ X Y : ByteArray, e = .returned (.tuple #[.agg #[.string X, .string Y, .slice none 0 0], .bool R.isSome]) ∧ (R = some (X, Y) ∨ R = none) ∧ X.size ≤ 1000000 ∧ Y.size ≤ 1000000
def FmOut (R : Option Frm) (e : Ending) : Prop := ∃ M F f l a o, e = .returned (.tuple #[frAgg M F f l a o, .bool R.isSome]) ∧ (R = some (M, F, f, l, a, o) ∨ R = none) ∧ M.size ≤ 1000000 ∧ F.size ≤ 1000000 ∧ f.size ≤ 1000000
set_option maxRecDepth 100000 in
set_option maxHeartbeats 8000000 in
theorem sfault_any {p : Nat} {A : Option Addr} {n c : Nat} {L : List ByteArray} {t : ByteArray} {k : Nat} (pre : ByteArray) {w : World} (h : Src p A n c L t k w) :
    Calls Tryz.prog 37 #[.pointer (some ⟨p, 0, none⟩), .string pre] w fun e w' => FsOut (fltS L k pre) e ∧ Src p A n c L t (kN (fltS L k pre).isSome k) w' ∧ ButAt p w w' := by
  have hn := h.nl
  have hp := h.lt
  have hzs := lineR_size h pre
  have hk1 : begK L k pre = true → k < n := fun hb => by
    obtain ⟨x, hx, _⟩ := begK_some hb
    have := (List.getElem?_eq_some_iff.1 hx).1
    have := h.sl.len
    omega
  obtain ⟨w0, hw0⟩ : ∃ w0, w.alloc (.cells #[.string ⟨#[]⟩, .string ⟨#[]⟩, .slice none 0 0] 40) = w0 := ⟨_, rfl⟩
  have HB0 := hide (show Below w.heap.size w w0 from hw0 ▸ (Below.refl _ _).alloc (Nat.le_refl _) _)
  have HX := hide (show w0.heap[w.heap.size]? = some (.cells #[.string ⟨#[]⟩, .string ⟨#[]⟩, .slice none 0 0] 40 (0, 0)) from hw0 ▸ heap_alloc_new w _)
  have hz0 : w0.heap.size = w.heap.size + 1 := by rw [← hw0]; simp
  have H0 := hide (h.below HB0.out)
  have hnx := next_any pre H0.out
  unfold NxOut nextK at hnx
  obtain ⟨S, hS⟩ : ∃ S, lineR L k pre = S := ⟨_, rfl⟩
  rw [hS] at hnx hzs
  have HRH := hide (fun W hm => readHead_any S W hzs hm)
  have hR : fltS L k pre = fltS L k pre := rfl
  conv at hR => lhs; unfold fltS
  rw [hS] at hR
  obtain ⟨R, hRR⟩ : ∃ R, fltS L k pre = R := ⟨_, rfl⟩
  rw [hRR] at hR
  simp only [hRR]
  clear hRR hS h
  cases hb : begK L k pre
  · have E := hide (show R = none by rw [← hR, hb]; rfl)
    clear hR HRH
    rw [hb] at hnx
    have HN := hide hnx
    clear hnx hb hk1
    go_enter Tryz.func37, Tryz.ntmps37
    go_wp2_with ((go_at_call 40; refine HN.out.mono ?_; rintro e W1 ⟨rfl, hs1, hb1⟩; have HS1 := hide hs1; have HX1 := hide (hb1.keep _ _ HX.out (by omega)); have HB1 := hide ((ButAt.of_below HB0.out (Nat.le_of_lt hp)).trans hb1); have hsz1 := hb1.be.size; clear hs1 hb1; have f0 := block_free HX1.out 0; have f1 := block_free HX1.out 1; have f2 := block_free HX1.out 2; have q0 : W1.cell? ⟨w.heap.size, 0, none⟩ = some (.string (⟨#[]⟩ : ByteArray)) := (block_cell HX1.out 0).trans rfl; have q1 : W1.cell? ⟨w.heap.size, 1, none⟩ = some (.string (⟨#[]⟩ : ByteArray)) := (block_cell HX1.out 1).trans rfl; have q2 : W1.cell? ⟨w.heap.size, 2, none⟩ = some (.slice none 0 0) := (block_cell HX1.out 2).trans rfl))
    obtain ⟨wf, hwf, b3, hbut⟩ := put3 HX1.out (.string (⟨#[]⟩ : ByteArray)) (.string (⟨#[]⟩ : ByteArray)) (.slice none 0 0)
    rw [hwf]
    have r0 : wf.cell? ⟨w.heap.size, 0, none⟩ = some (.string (⟨#[]⟩ : ByteArray)) := (block_cell b3 0).trans rfl
    have r1 : wf.cell? ⟨w.heap.size, 1, none⟩ = some (.string (⟨#[]⟩ : ByteArray)) := (block_cell b3 1).trans rfl
    have r2 : wf.cell? ⟨w.heap.size, 2, none⟩ = some (.slice none 0 0) := (block_cell b3 2).trans rfl
    refine bodyPost_ret (by simp [results, Tryz.results37, go_sem, r0, r1, r2]; try rfl) rfl ?_
    refine ⟨⟨(⟨#[]⟩ : ByteArray), (⟨#[]⟩ : ByteArray), (by rw [E.out] <;> rfl), .inr E.out, Nat.zero_le _, Nat.zero_le _⟩, ?_, HB1.out.own hbut (Nat.le_refl _) (Nat.le_of_lt hp)⟩
    rw [E.out]; simp only [kN, Option.isSome]; exact HS1.out.other hbut hp
  · rw [hb] at hnx hR
    have HN := hide hnx
    have hkn := hk1 hb
    clear hnx hk1 hb
    simp only [HdOut] at HRH
    obtain ⟨K, hK⟩ : ∃ K, headK S = K := ⟨_, rfl⟩
    simp only [hK] at HRH hR
    cases K
    · have E := hide (show R = none from hR.symm)
      clear hK hR
      go_enter Tryz.func37, Tryz.ntmps37
      go_wp2_with (first | (go_at_call 40; refine HN.out.mono ?_; rintro e W1 ⟨rfl, hs1, hb1⟩; have HS1 := hide hs1; have HX1 := hide (hb1.keep _ _ HX.out (by omega)); have HB1 := hide ((ButAt.of_below HB0.out (Nat.le_of_lt hp)).trans hb1); have hsz1 := hb1.be.size; clear hs1 hb1) | (go_at_call 61; refine (HRH.out _ HS1.out.mx).mono ?_; rintro e W2 ⟨⟨X, Y, rfl, hxy, zx', zy'⟩, hb2⟩; have HXY := hide hxy; clear hxy; have zx : X.size ≤ 1000000 := (by omega); have zy : Y.size ≤ 1000000 := (by omega); have HY0 := hide (heap_alloc_new W2 (.cells #[.string X, .string Y, .slice none 0 0] 40)); obtain ⟨W3, hW3⟩ : ∃ W3, W2.alloc (.cells #[.string X, .string Y, .slice none 0 0] 40) = W3 := ⟨_, rfl⟩; have hb3' : Below W1.heap.size W1 W3 := hW3 ▸ hb2.alloc hb2.size _; rw [hW3] at HY0; have yf := block_free HY0.out 2; have yc : W3.cell? ⟨W2.heap.size, 2, none⟩ = some (.slice none 0 0) := (block_cell HY0.out 2).trans rfl; have HY := hide ((block_set HY0.out (i := 2) (.slice none 0 0)).trans rfl : _ = some (.cells #[.string X, .string Y, .slice none 0 0] 40 (0, 0))); obtain ⟨V3, hV3⟩ : ∃ V3, W3.setCell ⟨W2.heap.size, 2, none⟩ (.slice none 0 0) = V3 := ⟨_, rfl⟩; rw [hV3] at HY; have hb3 : Below W1.heap.size W1 V3 := hV3 ▸ hb3'.setCell (p := ⟨W2.heap.size, 2, none⟩) hb2.size _; have HS3 := hide (HS1.out.below hb3); have HX3 := hide (block_below HX1.out hb3); have HB3 := hide (HB1.out.trans (ButAt.of_below hb3 (Nat.le_of_lt HS1.out.lt))); have hsz2 := hb2.size; have x1 : V3.cell? ⟨p, 1, none⟩ = some (.int .i64 ((k : Int) + 1)) := (block_cell HS3.out.box 1).trans (by simp); have g1 := block_free HS3.out.box 1; clear hb2 hb3; have HS4 := hide (HS3.out.set (j := k) (by omega) (u := (k : Int)) rfl); have HY4 := hide (block_set_other HY.out ⟨p, 1, none⟩ (.int .i64 (k : Int)) (by show W2.heap.size ≠ p; omega)); have HX4 := hide (block_set_other HX3.out ⟨p, 1, none⟩ (.int .i64 (k : Int)) (by show w.heap.size ≠ p; omega)); have HB4 := hide (HB3.out.trans (ButAt.set V3 1 (.int .i64 (k : Int)))); obtain ⟨W4, hW4⟩ : ∃ W4, V3.setCell ⟨p, 1, none⟩ (.int .i64 (k : Int)) = W4 := ⟨_, rfl⟩; rw [hW4] at HS4 HY4 HX4 HB4; have z0 : W4.cell? ⟨W2.heap.size, 0, none⟩ = some (.string X) := (block_cell HY4.out 0).trans rfl; have z1 : W4.cell? ⟨W2.heap.size, 1, none⟩ = some (.string Y) := (block_cell HY4.out 1).trans rfl; have z2 : W4.cell? ⟨W2.heap.size, 2, none⟩ = some (.slice none 0 0) := (block_cell HY4.out 2).trans rfl; have f0 := block_free HX4.out 0; have f1 := block_free HX4.out 1; have f2 := block_free HX4.out 2; have q0 : W4.cell? ⟨w.heap.size, 0, none⟩ = some (.string (⟨#[]⟩ : ByteArray)) := (block_cell HX4.out 0).trans rfl; have q1 : W4.cell? ⟨w.heap.size, 1, none⟩ = some (.string (⟨#[]⟩ : ByteArray)) := (block_cell HX4.out 1).trans rfl; have q2 : W4.cell? ⟨w.heap.size, 2, none⟩ = some (.slice none 0 0) := (block_cell HX4.out 2).trans rfl))
      obtain ⟨wf, hwf, b3, hbut⟩ := put3 HX4.out (.string X) (.string Y) (.slice none 0 0)
      rw [hwf]
      have r0 : wf.cell? ⟨w.heap.size, 0, none⟩ = some (.string X) := (block_cell b3 0).trans rfl
      have r1 : wf.cell? ⟨w.heap.size, 1, none⟩ = some (.string Y) := (block_cell b3 1).trans rfl
      have r2 : wf.cell? ⟨w.heap.size, 2, none⟩ = some (.slice none 0 0) := (block_cell b3 2).trans rfl
      refine bodyPost_ret (by simp [results, Tryz.results37, go_sem, r0, r1, r2]; try rfl) rfl ?_
      refine ⟨⟨X, Y, (by rw [E.out] <;> rfl), .inr E.out, zx, zy⟩, ?_, HB4.out.own hbut (Nat.le_refl _) (Nat.le_of_lt hp)⟩
      rw [E.out]; simp only [kN, Option.isSome]; exact HS4.out.other hbut hp
    · have E0 := hide (show (some (cutL S 58, headS S) : Option (ByteArray × ByteArray)) = R from hR)
      clear hK hR
      go_enter Tryz.func37, Tryz.ntmps37
      go_wp2_with (first | (go_at_call 40; refine HN.out.mono ?_; rintro e W1 ⟨rfl, hs1, hb1⟩; have HS1 := hide hs1; have HX1 := hide (hb1.keep _ _ HX.out (by omega)); have HB1 := hide ((ButAt.of_below HB0.out (Nat.le_of_lt hp)).trans hb1); have hsz1 := hb1.be.size; clear hs1 hb1) | (go_at_call 61; refine (HRH.out _ HS1.out.mx).mono ?_; rintro e W2 ⟨⟨X, Y, rfl, hxy, zx', zy'⟩, hb2⟩; have HXY := hide hxy; clear hxy; have zx : X.size ≤ 1000000 := (by omega); have zy : Y.size ≤ 1000000 := (by omega); have HY0 := hide (heap_alloc_new W2 (.cells #[.string X, .string Y, .slice none 0 0] 40)); obtain ⟨W3, hW3⟩ : ∃ W3, W2.alloc (.cells #[.string X, .string Y, .slice none 0 0] 40) = W3 := ⟨_, rfl⟩; have hb3' : Below W1.heap.size W1 W3 := hW3 ▸ hb2.alloc hb2.size _; rw [hW3] at HY0; have yf := block_free HY0.out 2; have yc : W3.cell? ⟨W2.heap.size, 2, none⟩ = some (.slice none 0 0) := (block_cell HY0.out 2).trans rfl; have HY := hide ((block_set HY0.out (i := 2) (.slice none 0 0)).trans rfl : _ = some (.cells #[.string X, .string Y, .slice none 0 0] 40 (0, 0))); obtain ⟨V3, hV3⟩ : ∃ V3, W3.setCell ⟨W2.heap.size, 2, none⟩ (.slice none 0 0) = V3 := ⟨_, rfl⟩; rw [hV3] at HY; have hb3 : Below W1.heap.size W1 V3 := hV3 ▸ hb3'.setCell (p := ⟨W2.heap.size, 2, none⟩) hb2.size _; have HS3 := hide (HS1.out.below hb3); have HX3 := hide (block_below HX1.out hb3); have HB3 := hide (HB1.out.trans (ButAt.of_below hb3 (Nat.le_of_lt HS1.out.lt))); have hsz2 := hb2.size; have x1 : V3.cell? ⟨p, 1, none⟩ = some (.int .i64 ((k : Int) + 1)) := (block_cell HS3.out.box 1).trans (by simp); have g1 := block_free HS3.out.box 1; clear hb2 hb3; have z0 : V3.cell? ⟨W2.heap.size, 0, none⟩ = some (.string X) := (block_cell HY.out 0).trans rfl; have z1 : V3.cell? ⟨W2.heap.size, 1, none⟩ = some (.string Y) := (block_cell HY.out 1).trans rfl; have z2 : V3.cell? ⟨W2.heap.size, 2, none⟩ = some (.slice none 0 0) := (block_cell HY.out 2).trans rfl; have f0 := block_free HX3.out 0; have f1 := block_free HX3.out 1; have f2 := block_free HX3.out 2; have q0 : V3.cell? ⟨w.heap.size, 0, none⟩ = some (.string (⟨#[]⟩ : ByteArray)) := (block_cell HX3.out 0).trans rfl; have q1 : V3.cell? ⟨w.heap.size, 1, none⟩ = some (.string (⟨#[]⟩ : ByteArray)) := (block_cell HX3.out 1).trans rfl; have q2 : V3.cell? ⟨w.heap.size, 2, none⟩ = some (.slice none 0 0) := (block_cell HX3.out 2).trans rfl))
      have E := hide (show R = some (X, Y) by rw [← E0.out, (HXY.out (by simp)).1, (HXY.out (by simp)).2])
      obtain ⟨wf, hwf, b3, hbut⟩ := put3 HX3.out (.string X) (.string Y) (.slice none 0 0)
      rw [hwf]
      have r0 : wf.cell? ⟨w.heap.size, 0, none⟩ = some (.string X) := (block_cell b3 0).trans rfl
      have r1 : wf.cell? ⟨w.heap.size, 1, none⟩ = some (.string Y) := (block_cell b3 1).trans rfl
      have r2 : wf.cell? ⟨w.heap.size, 2, none⟩ = some (.slice none 0 0) := (block_cell b3 2).trans rfl
      refine bodyPost_ret (by simp [results, Tryz.results37, go_sem, r0, r1, r2]; try rfl) rfl ?_
      refine ⟨⟨X, Y, (by rw [E.out] <;> rfl), .inl E.out, zx, zy⟩, ?_, HB3.out.own hbut (Nat.le_refl _) (Nat.le_of_lt hp)⟩
      rw [E.out]; simp only [kN, Option.isSome]; exact HS3.out.other hbut hp
set_option maxRecDepth 100000 in
set_option maxHeartbeats 8000000 in
theorem sframe_any {p : Nat} {A : Option Addr} {n c : Nat} {L : List ByteArray} {t : ByteArray} {k : Nat} (pre : ByteArray) {w : World} (h : Src p A n c L t k w) :
    Calls Tryz.prog 39 #[.pointer (some ⟨p, 0, none⟩), .string pre] w fun e w' => FmOut (frmS L k pre) e ∧ Src p A n c L t (kN (frmS L k pre).isSome k) w' ∧ ButAt p w w' := by
  have hn := h.nl
  have hp := h.lt
  have hzs := lineR_size h pre
  have hk1 : begK L k pre = true → k < n := fun hb => by
    obtain ⟨x, hx, _⟩ := begK_some hb
    have := (List.getElem?_eq_some_iff.1 hx).1
    have := h.sl.len
    omega
  obtain ⟨w0, hw0⟩ : ∃ w0, w.alloc (.cells #[.string ⟨#[]⟩, .string ⟨#[]⟩, .string ⟨#[]⟩, .int .i64 0, .int .i64 0, .bool false] 43) = w0 := ⟨_, rfl⟩
  have HB0 := hide (show Below w.heap.size w w0 from hw0 ▸ (Below.refl _ _).alloc (Nat.le_refl _) _)
  have HX := hide (show w0.heap[w.heap.size]? = some (.cells #[.string ⟨#[]⟩, .string ⟨#[]⟩, .string ⟨#[]⟩, .int .i64 0, .int .i64 0, .bool false] 43 (0, 0)) from hw0 ▸ heap_alloc_new w _)
  have hz0 : w0.heap.size = w.heap.size + 1 := by rw [← hw0]; simp
  have H0 := hide (h.below HB0.out)
  have hnx := next_any pre H0.out
  unfold NxOut nextK at hnx
  obtain ⟨S, hS⟩ : ∃ S, lineR L k pre = S := ⟨_, rfl⟩
  rw [hS] at hnx hzs
  have HRH := hide (fun W hm => readFrame_any S W hzs hm)
  have hR : frmS L k pre = frmS L k pre := rfl
  conv at hR => lhs; unfold frmS
  rw [hS] at hR
  obtain ⟨R, hRR⟩ : ∃ R, frmS L k pre = R := ⟨_, rfl⟩
  rw [hRR] at hR
  simp only [hRR]
  clear hRR hS h
  cases hb : begK L k pre
  · have E := hide (show R = none by rw [← hR, hb]; rfl)
    clear hR HRH
    rw [hb] at hnx
    have HN := hide hnx
    clear hnx hb hk1
    go_enter Tryz.func39, Tryz.ntmps39
    go_wp2_with ((go_at_call 40; refine HN.out.mono ?_; rintro e W1 ⟨rfl, hs1, hb1⟩; have HS1 := hide hs1; have HX1 := hide (hb1.keep _ _ HX.out (by omega)); have HB1 := hide ((ButAt.of_below HB0.out (Nat.le_of_lt hp)).trans hb1); have hsz1 := hb1.be.size; clear hs1 hb1; have f0 := block_free HX1.out 0; have f1 := block_free HX1.out 1; have f2 := block_free HX1.out 2; have f3 := block_free HX1.out 3; have f4 := block_free HX1.out 4; have f5 := block_free HX1.out 5; have q0 : W1.cell? ⟨w.heap.size, 0, none⟩ = some (.string (⟨#[]⟩ : ByteArray)) := (block_cell HX1.out 0).trans rfl; have q1 : W1.cell? ⟨w.heap.size, 1, none⟩ = some (.string (⟨#[]⟩ : ByteArray)) := (block_cell HX1.out 1).trans rfl; have q2 : W1.cell? ⟨w.heap.size, 2, none⟩ = some (.string (⟨#[]⟩ : ByteArray)) := (block_cell HX1.out 2).trans rfl; have q3 : W1.cell? ⟨w.heap.size, 3, none⟩ = some (.int .i64 0) := (block_cell HX1.out 3).trans rfl; have q4 : W1.cell? ⟨w.heap.size, 4, none⟩ = some (.int .i64 0) := (block_cell HX1.out 4).trans rfl; have q5 : W1.cell? ⟨w.heap.size, 5, none⟩ = some (.bool false) := (block_cell HX1.out 5).trans rfl))
    obtain ⟨wf, hwf, b3, hbut⟩ := put6' HX1.out (.string (⟨#[]⟩ : ByteArray)) (.string (⟨#[]⟩ : ByteArray)) (.string (⟨#[]⟩ : ByteArray)) (.int .i64 0) (.int .i64 0) (.bool false)
    rw [hwf]
    have r0 : wf.cell? ⟨w.heap.size, 0, none⟩ = some (.string (⟨#[]⟩ : ByteArray)) := (block_cell b3 0).trans rfl
    have r1 : wf.cell? ⟨w.heap.size, 1, none⟩ = some (.string (⟨#[]⟩ : ByteArray)) := (block_cell b3 1).trans rfl
    have r2 : wf.cell? ⟨w.heap.size, 2, none⟩ = some (.string (⟨#[]⟩ : ByteArray)) := (block_cell b3 2).trans rfl
    have r3 : wf.cell? ⟨w.heap.size, 3, none⟩ = some (.int .i64 0) := (block_cell b3 3).trans rfl
    have r4 : wf.cell? ⟨w.heap.size, 4, none⟩ = some (.int .i64 0) := (block_cell b3 4).trans rfl
    have r5 : wf.cell? ⟨w.heap.size, 5, none⟩ = some (.bool false) := (block_cell b3 5).trans rfl
    refine bodyPost_ret (by simp [results, Tryz.results39, go_sem, r0, r1, r2, r3, r4, r5]; try rfl) rfl ?_
    refine ⟨⟨(⟨#[]⟩ : ByteArray), (⟨#[]⟩ : ByteArray), (⟨#[]⟩ : ByteArray), 0, 0, false, (by rw [E.out] <;> rfl), .inr E.out, Nat.zero_le _, Nat.zero_le _, Nat.zero_le _⟩, ?_, HB1.out.own hbut (Nat.le_refl _) (Nat.le_of_lt hp)⟩
    rw [E.out]; simp only [kN, Option.isSome]; exact HS1.out.other hbut hp
  · rw [hb] at hnx hR
    have HN := hide hnx
    have hkn := hk1 hb
    clear hnx hk1 hb
    simp only [FrOut, frAgg] at HRH
    simp only [if_true] at hR
    simp only [hR] at HRH
    cases R
    · skip
      clear hR
      go_enter Tryz.func39, Tryz.ntmps39
      go_wp2_with (first | (go_at_call 40; refine HN.out.mono ?_; rintro e W1 ⟨rfl, hs1, hb1⟩; have HS1 := hide hs1; have HX1 := hide (hb1.keep _ _ HX.out (by omega)); have HB1 := hide ((ButAt.of_below HB0.out (Nat.le_of_lt hp)).trans hb1); have hsz1 := hb1.be.size; clear hs1 hb1) | (go_at_call 62; refine (HRH.out _ HS1.out.mx).mono ?_; rintro e W2 ⟨⟨M, F, f, l, a, o, rfl, hor, zM, zF, zf⟩, hb2⟩; have HOR := hide hor; clear hor; have HY := hide (heap_alloc_new W2 (.cells #[.string M, .string F, .string f, .int .i64 l, .int .i64 a, .bool o] 43)); obtain ⟨W3, hW3⟩ : ∃ W3, W2.alloc (.cells #[.string M, .string F, .string f, .int .i64 l, .int .i64 a, .bool o] 43) = W3 := ⟨_, rfl⟩; have hb3 : Below W1.heap.size W1 W3 := hW3 ▸ hb2.alloc hb2.size _; rw [hW3] at HY; have HS3 := hide (HS1.out.below hb3); have HX3 := hide (block_below HX1.out hb3); have HB3 := hide (HB1.out.trans (ButAt.of_below hb3 (Nat.le_of_lt HS1.out.lt))); have hsz2 := hb2.size; have x1 : W3.cell? ⟨p, 1, none⟩ = some (.int .i64 ((k : Int) + 1)) := (block_cell HS3.out.box 1).trans (by simp); have g1 := block_free HS3.out.box 1; clear hb2 hb3; have HS4 := hide (HS3.out.set (j := k) (by omega) (u := (k : Int)) rfl); have HY4 := hide (block_set_other HY.out ⟨p, 1, none⟩ (.int .i64 (k : Int)) (by show W2.heap.size ≠ p; omega)); have HX4 := hide (block_set_other HX3.out ⟨p, 1, none⟩ (.int .i64 (k : Int)) (by show w.heap.size ≠ p; omega)); have HB4 := hide (HB3.out.trans (ButAt.set W3 1 (.int .i64 (k : Int)))); obtain ⟨W4, hW4⟩ : ∃ W4, W3.setCell ⟨p, 1, none⟩ (.int .i64 (k : Int)) = W4 := ⟨_, rfl⟩; rw [hW4] at HS4 HY4 HX4 HB4; have z0 : W4.cell? ⟨W2.heap.size, 0, none⟩ = some (.string M) := (block_cell HY4.out 0).trans rfl; have z1 : W4.cell? ⟨W2.heap.size, 1, none⟩ = some (.string F) := (block_cell HY4.out 1).trans rfl; have z2 : W4.cell? ⟨W2.heap.size, 2, none⟩ = some (.string f) := (block_cell HY4.out 2).trans rfl; have z3 : W4.cell? ⟨W2.heap.size, 3, none⟩ = some (.int .i64 l) := (block_cell HY4.out 3).trans rfl; have z4 : W4.cell? ⟨W2.heap.size, 4, none⟩ = some (.int .i64 a) := (block_cell HY4.out 4).trans rfl; have z5 : W4.cell? ⟨W2.heap.size, 5, none⟩ = some (.bool o) := (block_cell HY4.out 5).trans rfl; have f0 := block_free HX4.out 0; have f1 := block_free HX4.out 1; have f2 := block_free HX4.out 2; have f3 := block_free HX4.out 3; have f4 := block_free HX4.out 4; have f5 := block_free HX4.out 5; have q0 : W4.cell? ⟨w.heap.size, 0, none⟩ = some (.string (⟨#[]⟩ : ByteArray)) := (block_cell HX4.out 0).trans rfl; have q1 : W4.cell? ⟨w.heap.size, 1, none⟩ = some (.string (⟨#[]⟩ : ByteArray)) := (block_cell HX4.out 1).trans rfl; have q2 : W4.cell? ⟨w.heap.size, 2, none⟩ = some (.string (⟨#[]⟩ : ByteArray)) := (block_cell HX4.out 2).trans rfl; have q3 : W4.cell? ⟨w.heap.size, 3, none⟩ = some (.int .i64 0) := (block_cell HX4.out 3).trans rfl; have q4 : W4.cell? ⟨w.heap.size, 4, none⟩ = some (.int .i64 0) := (block_cell HX4.out 4).trans rfl; have q5 : W4.cell? ⟨w.heap.size, 5, none⟩ = some (.bool false) := (block_cell HX4.out 5).trans rfl))
      have E := hide (show (none : Option Frm) = none from rfl)
      obtain ⟨wf, hwf, b3, hbut⟩ := put6' HX4.out (.string M) (.string F) (.string f) (.int .i64 l) (.int .i64 a) (.bool o)
      rw [hwf]
      have r0 : wf.cell? ⟨w.heap.size, 0, none⟩ = some (.string M) := (block_cell b3 0).trans rfl
      have r1 : wf.cell? ⟨w.heap.size, 1, none⟩ = some (.string F) := (block_cell b3 1).trans rfl
      have r2 : wf.cell? ⟨w.heap.size, 2, none⟩ = some (.string f) := (block_cell b3 2).trans rfl
      have r3 : wf.cell? ⟨w.heap.size, 3, none⟩ = some (.int .i64 l) := (block_cell b3 3).trans rfl
      have r4 : wf.cell? ⟨w.heap.size, 4, none⟩ = some (.int .i64 a) := (block_cell b3 4).trans rfl
      have r5 : wf.cell? ⟨w.heap.size, 5, none⟩ = some (.bool o) := (block_cell b3 5).trans rfl
      refine bodyPost_ret (by simp [results, Tryz.results39, go_sem, r0, r1, r2, r3, r4, r5]; try rfl) rfl ?_
      refine ⟨⟨M, F, f, l, a, o, (by rw [E.out] <;> rfl), .inr E.out, zM, zF, zf⟩, ?_, HB4.out.own hbut (Nat.le_refl _) (Nat.le_of_lt hp)⟩
      rw [E.out]; simp only [kN, Option.isSome]; exact HS4.out.other hbut hp
    · rename_i R
      have E0 := hide (show (some R : Option Frm) = some R from rfl)
      clear hR
      go_enter Tryz.func39, Tryz.ntmps39
      go_wp2_with (first | (go_at_call 40; refine HN.out.mono ?_; rintro e W1 ⟨rfl, hs1, hb1⟩; have HS1 := hide hs1; have HX1 := hide (hb1.keep _ _ HX.out (by omega)); have HB1 := hide ((ButAt.of_below HB0.out (Nat.le_of_lt hp)).trans hb1); have hsz1 := hb1.be.size; clear hs1 hb1) | (go_at_call 62; refine (HRH.out _ HS1.out.mx).mono ?_; rintro e W2 ⟨⟨M, F, f, l, a, o, rfl, hor, zM, zF, zf⟩, hb2⟩; have HOR := hide hor; clear hor; have HY := hide (heap_alloc_new W2 (.cells #[.string M, .string F, .string f, .int .i64 l, .int .i64 a, .bool o] 43)); obtain ⟨W3, hW3⟩ : ∃ W3, W2.alloc (.cells #[.string M, .string F, .string f, .int .i64 l, .int .i64 a, .bool o] 43) = W3 := ⟨_, rfl⟩; have hb3 : Below W1.heap.size W1 W3 := hW3 ▸ hb2.alloc hb2.size _; rw [hW3] at HY; have HS3 := hide (HS1.out.below hb3); have HX3 := hide (block_below HX1.out hb3); have HB3 := hide (HB1.out.trans (ButAt.of_below hb3 (Nat.le_of_lt HS1.out.lt))); have hsz2 := hb2.size; have x1 : W3.cell? ⟨p, 1, none⟩ = some (.int .i64 ((k : Int) + 1)) := (block_cell HS3.out.box 1).trans (by simp); have g1 := block_free HS3.out.box 1; clear hb2 hb3; have z0 : W3.cell? ⟨W2.heap.size, 0, none⟩ = some (.string M) := (block_cell HY.out 0).trans rfl; have z1 : W3.cell? ⟨W2.heap.size, 1, none⟩ = some (.string F) := (block_cell HY.out 1).trans rfl; have z2 : W3.cell? ⟨W2.heap.size, 2, none⟩ = some (.string f) := (block_cell HY.out 2).trans rfl; have z3 : W3.cell? ⟨W2.heap.size, 3, none⟩ = some (.int .i64 l) := (block_cell HY.out 3).trans rfl; have z4 : W3.cell? ⟨W2.heap.size, 4, none⟩ = some (.int .i64 a) := (block_cell HY.out 4).trans rfl; have z5 : W3.cell? ⟨W2.heap.size, 5, none⟩ = some (.bool o) := (block_cell HY.out 5).trans rfl; have f0 := block_free HX3.out 0; have f1 := block_free HX3.out 1; have f2 := block_free HX3.out 2; have f3 := block_free HX3.out 3; have f4 := block_free HX3.out 4; have f5 := block_free HX3.out 5; have q0 : W3.cell? ⟨w.heap.size, 0, none⟩ = some (.string (⟨#[]⟩ : ByteArray)) := (block_cell HX3.out 0).trans rfl; have q1 : W3.cell? ⟨w.heap.size, 1, none⟩ = some (.string (⟨#[]⟩ : ByteArray)) := (block_cell HX3.out 1).trans rfl; have q2 : W3.cell? ⟨w.heap.size, 2, none⟩ = some (.string (⟨#[]⟩ : ByteArray)) := (block_cell HX3.out 2).trans rfl; have q3 : W3.cell? ⟨w.heap.size, 3, none⟩ = some (.int .i64 0) := (block_cell HX3.out 3).trans rfl; have q4 : W3.cell? ⟨w.heap.size, 4, none⟩ = some (.int .i64 0) := (block_cell HX3.out 4).trans rfl; have q5 : W3.cell? ⟨w.heap.size, 5, none⟩ = some (.bool false) := (block_cell HX3.out 5).trans rfl))
      have E := hide (show some R = some (M, F, f, l, a, o) from HOR.out.resolve_right (by simp))
      obtain ⟨wf, hwf, b3, hbut⟩ := put6' HX3.out (.string M) (.string F) (.string f) (.int .i64 l) (.int .i64 a) (.bool o)
      rw [hwf]
      have r0 : wf.cell? ⟨w.heap.size, 0, none⟩ = some (.string M) := (block_cell b3 0).trans rfl
      have r1 : wf.cell? ⟨w.heap.size, 1, none⟩ = some (.string F) := (block_cell b3 1).trans rfl
      have r2 : wf.cell? ⟨w.heap.size, 2, none⟩ = some (.string f) := (block_cell b3 2).trans rfl
      have r3 : wf.cell? ⟨w.heap.size, 3, none⟩ = some (.int .i64 l) := (block_cell b3 3).trans rfl
      have r4 : wf.cell? ⟨w.heap.size, 4, none⟩ = some (.int .i64 a) := (block_cell b3 4).trans rfl
      have r5 : wf.cell? ⟨w.heap.size, 5, none⟩ = some (.bool o) := (block_cell b3 5).trans rfl
      refine bodyPost_ret (by simp [results, Tryz.results39, go_sem, r0, r1, r2, r3, r4, r5]; try rfl) rfl ?_
      refine ⟨⟨M, F, f, l, a, o, (by rw [E.out] <;> rfl), .inl E.out, zM, zF, zf⟩, ?_, HB3.out.own hbut (Nat.le_refl _) (Nat.le_of_lt hp)⟩
      rw [E.out]; simp only [kN, Option.isSome]; exact HS3.out.other hbut hp
end Go.Proofs.YtkjpojaanocfjaaGreatDoor
