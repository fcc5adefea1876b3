/- The reference's frameOf, whole; walks of frameLine and behind. -/
import Derived.Test.YtkjpojaanocfjaaGreatDoorStRdR1
import Derived.Test.YtkjpojaanocfjaaGreatDoorStRdR2
import Derived.Test.YtkjpojaanocfjaaGreatDoorStRdR3
import Derived.Test.YtkjpojaanocfjaaGreatDoorStRdS1
import Derived.Test.YtkjpojaanocfjaaGreatDoorStRdS2
import Derived.Test.YtkjpojaanocfjaaGreatDoorStRdS3
import Derived.Test.YtkjpojaanocfjaaGreatDoorStReC
namespace Go.Proofs.YtkjpojaanocfjaaGreatDoor
open Go.RowKit
set_option linter.unusedVariables false
set_option linter.unusedSimpArgs false
theorem wayO_cases (r : ByteArray) : wayO r = 1 ∨ wayO r = 2 ∨ wayO r = 3 := by
  unfold wayO
  split
  · exact .inl rfl
  · split
    · exact .inl rfl
    · split
      · split
        · exact .inr (.inr rfl)
        · exact .inr (.inl rfl)
      · exact .inl rfl
theorem frameOf_any (n r : ByteArray) (w : World) (hs : n.size ≤ 1000000) (hr : r.size ≤ 1000000) (hm : Mx w) :
    Calls Tryz.prog 35 #[.string n, .string r] w fun e w' => FoOut (frO n r) e ∧ Below w.heap.size w w' := by
  cases hk : cutK n 33
  · rcases wayO_cases r with h | h | h
    · exact frameOf_B1 n r h w hs hr hm hk
    · exact frameOf_B2 n r h w hs hr hm hk
    · exact frameOf_B3 n r h w hs hr hm hk
  · rcases wayO_cases r with h | h | h
    · exact frameOf_A1 n r h w hs hr hm hk
    · exact frameOf_A2 n r h w hs hr hm hk
    · exact frameOf_A3 n r h w hs hr hm hk
theorem behind_any (s : ByteArray) (w : World) : Calls Tryz.prog 29 #[.string s] w fun e w' => e = .returned (.bool (hasP s preAt || hasP s preDots)) ∧ w' = w := by
  have HPA := hide (fun W => Tryz.strings_HasPrefix s ⟨#[32, 32, 32, 32, 97, 116, 32]⟩ W)
  have HPD := hide (fun W => Tryz.strings_HasPrefix s ⟨#[32, 32, 32, 32, 46, 46, 46, 32]⟩ W)
  cases ha : hasP s preAt
  · rw [show Lib.hasPrefix s.data.toList (⟨#[32, 32, 32, 32, 97, 116, 32]⟩ : ByteArray).data.toList = false from ha] at HPA
    cases hd : hasP s preDots
    · rw [show Lib.hasPrefix s.data.toList (⟨#[32, 32, 32, 32, 46, 46, 46, 32]⟩ : ByteArray).data.toList = false from hd] at HPD
      clear ha hd
      go_enter Tryz.func29, Tryz.ntmps29
      go_wp2_with (first | (go_at_call 34; ((with_reducible refine (HPA.out _).mono ?_); rintro e wz ⟨rfl, rfl⟩)) | (go_at_call 34; ((with_reducible refine (HPD.out _).mono ?_); rintro e wz ⟨rfl, rfl⟩)))
      go_ret
      exact ⟨rfl, rfl⟩
    · rw [show Lib.hasPrefix s.data.toList (⟨#[32, 32, 32, 32, 46, 46, 46, 32]⟩ : ByteArray).data.toList = true from hd] at HPD
      clear ha hd
      go_enter Tryz.func29, Tryz.ntmps29
      go_wp2_with (first | (go_at_call 34; ((with_reducible refine (HPA.out _).mono ?_); rintro e wz ⟨rfl, rfl⟩)) | (go_at_call 34; ((with_reducible refine (HPD.out _).mono ?_); rintro e wz ⟨rfl, rfl⟩)))
      go_ret
      exact ⟨rfl, rfl⟩
  · rw [show Lib.hasPrefix s.data.toList (⟨#[32, 32, 32, 32, 97, 116, 32]⟩ : ByteArray).data.toList = true from ha] at HPA
    clear ha
    go_enter Tryz.func29, Tryz.ntmps29
    go_wp2_with (first | (go_at_call 34; ((with_reducible refine (HPA.out _).mono ?_); rintro e wz ⟨rfl, rfl⟩)))
    go_ret
    exact ⟨rfl, rfl⟩
set_option maxRecDepth 100000 in
set_option maxHeartbeats 8000000 in
theorem frameLine_any (s : ByteArray) (w : World) (hs : s.size ≤ 1000000) (hm : Mx w) :
    Calls Tryz.prog 30 #[.string s] w fun e w' => FoOut (frR (wordsOf s)) e ∧ Below w.heap.size w w' := by
  obtain ⟨z1, z2⟩ := cut_size s 32
  have hE := frR_line s
  obtain ⟨w0, hw0⟩ : ∃ w0, w.alloc (.cells #[.string ⟨#[]⟩, .string ⟨#[]⟩, .string ⟨#[]⟩, .int .i64 0, .int .i64 0, .bool false] 43) = w0 := ⟨_, rfl⟩
  have HB0 := hide (show Below w.heap.size w w0 from hw0 ▸ (Below.refl _ _).alloc (Nat.le_refl _) _)
  have HX := hide (show w0.heap[w.heap.size]? = some (.cells #[.string ⟨#[]⟩, .string ⟨#[]⟩, .string ⟨#[]⟩, .int .i64 0, .int .i64 0, .bool false] 43 (0, 0)) from hw0 ▸ heap_alloc_new w _)
  have hcu := Cut_any s 32 w0 hs (hm.up HB0.out (Nat.le_refl _))
  have hfo := fun W (h : Mx W) => frameOf_any (cutL s 32) (cutR s 32) W (by omega) (by omega) h
  have HM := hide hm
  obtain ⟨R, hR⟩ : ∃ R, frR (wordsOf s) = R := ⟨_, rfl⟩
  obtain ⟨P, hP⟩ : ∃ P, cutL s 32 = P := ⟨_, rfl⟩
  obtain ⟨Q, hQ⟩ : ∃ Q, cutR s 32 = Q := ⟨_, rfl⟩
  obtain ⟨K, hK⟩ : ∃ K, cutK s 32 = K := ⟨_, rfl⟩
  rw [hP, hQ, hK] at hcu hE
  rw [hP, hQ] at hfo
  rw [hR] at hE ⊢
  have HCU := hide hcu
  clear hm hcu hP hQ hK hR
  have hz : ∀ b : Bool, (Q.toList.isEmpty = b) → emptyB Q = b := fun b h => h
  cases hb : (K && emptyB Q)
  · rw [hb] at hE
    simp only [Bool.false_eq_true, if_false] at hE
    rw [← hE] at hfo
    simp only [FoOut, frAgg] at hfo
    have HFO := hide hfo
    have hnz : K = true → emptyB Q = false := fun h => by rw [h] at hb; simpa using hb
    clear hfo hE hb hz
    cases K
    · clear hnz
      go_enter Tryz.func30, Tryz.ntmps30
      go_wp2_with (first | (go_at_call 53; refine HCU.out.mono ?_; rintro e w1 ⟨rfl, hw1⟩; have HB1 := hide (HB0.out.trans (hw1.mono HB0.out.size)); have HX1 := hide (block_below HX.out hw1); clear hw1) | (go_at_call 35; refine (HFO.out _ (HM.out.up HB1.out (Nat.le_refl _))).mono ?_; rintro e w2 ⟨⟨M, F, f, l, a, o, rfl, hor, zM, zF, zf⟩, hw2⟩; have HOR := hide hor; clear hor; have HB2 := hide (HB1.out.trans (hw2.mono HB1.out.size)); have HX2 := hide (block_below HX1.out hw2); clear hw2; have f0 := block_free HX2.out 0; have f1 := block_free HX2.out 1; have f2 := block_free HX2.out 2; have f3 := block_free HX2.out 3; have f4 := block_free HX2.out 4; have f5 := block_free HX2.out 5; have x0 := (block_cell HX2.out 0).trans rfl; have x1 := (block_cell HX2.out 1).trans rfl; have x2 := (block_cell HX2.out 2).trans rfl; have x3 := (block_cell HX2.out 3).trans rfl; have x4 := (block_cell HX2.out 4).trans rfl; have x5 := (block_cell HX2.out 5).trans rfl))
      obtain ⟨wf, hwf, b6, hbut⟩ := put6' HX2.out (.string M) (.string F) (.string f) (.int .i64 l) (.int .i64 a) (.bool o)
      rw [hwf]
      have r0 : wf.cell? ⟨w.heap.size, 0, none⟩ = some (.string M) := (block_cell b6 0).trans rfl
      have r1 : wf.cell? ⟨w.heap.size, 1, none⟩ = some (.string F) := (block_cell b6 1).trans rfl
      have r2 : wf.cell? ⟨w.heap.size, 2, none⟩ = some (.string f) := (block_cell b6 2).trans rfl
      have r3 : wf.cell? ⟨w.heap.size, 3, none⟩ = some (.int .i64 l) := (block_cell b6 3).trans rfl
      have r4 : wf.cell? ⟨w.heap.size, 4, none⟩ = some (.int .i64 a) := (block_cell b6 4).trans rfl
      have r5 : wf.cell? ⟨w.heap.size, 5, none⟩ = some (.bool o) := (block_cell b6 5).trans rfl
      refine bodyPost_ret (by simp [results, Tryz.results30, go_sem, r0, r1, r2, r3, r4, r5]; try rfl) rfl ?_
      exact ⟨⟨M, F, f, l, a, o, rfl, HOR.out, zM, zF, zf⟩, HB2.out.trans hbut.be⟩
    · have hq' : Q.toList.isEmpty = false := hnz rfl
      have hq'' : (Q.toList == []) = false := by rw [beq_eq_false_iff_ne]; intro e9; rw [e9] at hq'; cases hq'
      have hq3 : ¬ Q.toList = [] := by intro e9; rw [e9] at hq'; cases hq'
      clear hnz
      go_enter Tryz.func30, Tryz.ntmps30
      go_wp2_with (first | (go_at_call 53; refine HCU.out.mono ?_; rintro e w1 ⟨rfl, hw1⟩; have HB1 := hide (HB0.out.trans (hw1.mono HB0.out.size)); have HX1 := hide (block_below HX.out hw1); clear hw1) | (go_at_call 35; refine (HFO.out _ (HM.out.up HB1.out (Nat.le_refl _))).mono ?_; rintro e w2 ⟨⟨M, F, f, l, a, o, rfl, hor, zM, zF, zf⟩, hw2⟩; have HOR := hide hor; clear hor; have HB2 := hide (HB1.out.trans (hw2.mono HB1.out.size)); have HX2 := hide (block_below HX1.out hw2); clear hw2; have f0 := block_free HX2.out 0; have f1 := block_free HX2.out 1; have f2 := block_free HX2.out 2; have f3 := block_free HX2.out 3; have f4 := block_free HX2.out 4; have f5 := block_free HX2.out 5; have x0 := (block_cell HX2.out 0).trans rfl; have x1 := (block_cell HX2.out 1).trans rfl; have x2 := (block_cell HX2.out 2).trans rfl; have x3 := (block_cell HX2.out 3).trans rfl; have x4 := (block_cell HX2.out 4).trans rfl; have x5 := (block_cell HX2.out 5).trans rfl))
      obtain ⟨wf, hwf, b6, hbut⟩ := put6' HX2.out (.string M) (.string F) (.string f) (.int .i64 l) (.int .i64 a) (.bool o)
      rw [hwf]
      have r0 : wf.cell? ⟨w.heap.size, 0, none⟩ = some (.string M) := (block_cell b6 0).trans rfl
      have r1 : wf.cell? ⟨w.heap.size, 1, none⟩ = some (.string F) := (block_cell b6 1).trans rfl
      have r2 : wf.cell? ⟨w.heap.size, 2, none⟩ = some (.string f) := (block_cell b6 2).trans rfl
      have r3 : wf.cell? ⟨w.heap.size, 3, none⟩ = some (.int .i64 l) := (block_cell b6 3).trans rfl
      have r4 : wf.cell? ⟨w.heap.size, 4, none⟩ = some (.int .i64 a) := (block_cell b6 4).trans rfl
      have r5 : wf.cell? ⟨w.heap.size, 5, none⟩ = some (.bool o) := (block_cell b6 5).trans rfl
      refine bodyPost_ret (by simp [results, Tryz.results30, go_sem, r0, r1, r2, r3, r4, r5]; try rfl) rfl ?_
      exact ⟨⟨M, F, f, l, a, o, rfl, HOR.out, zM, zF, zf⟩, HB2.out.trans hbut.be⟩
  · rw [hb] at hE
    simp only [if_true] at hE
    obtain ⟨rfl, hq⟩ := Bool.and_eq_true_iff.1 hb
    have hqe := emptyB_iff hq
    subst hqe
    have E := hide (show R = none from hE)
    clear hE hb hz hfo hq
    go_enter Tryz.func30, Tryz.ntmps30
    go_wp2_with (first | (go_at_call 53; refine HCU.out.mono ?_; rintro e w1 ⟨rfl, hw1⟩; have HB1 := hide (HB0.out.trans (hw1.mono HB0.out.size)); have HX2 := hide (block_below HX.out hw1); clear hw1; have f0 := block_free HX2.out 0; have f1 := block_free HX2.out 1; have f2 := block_free HX2.out 2; have f3 := block_free HX2.out 3; have f4 := block_free HX2.out 4; have f5 := block_free HX2.out 5; have x0 := (block_cell HX2.out 0).trans rfl; have x1 := (block_cell HX2.out 1).trans rfl; have x2 := (block_cell HX2.out 2).trans rfl; have x3 := (block_cell HX2.out 3).trans rfl; have x4 := (block_cell HX2.out 4).trans rfl; have x5 := (block_cell HX2.out 5).trans rfl))
    obtain ⟨wf, hwf, b6, hbut⟩ := put6' HX2.out (.string ⟨#[]⟩) (.string ⟨#[]⟩) (.string ⟨#[]⟩) (.int .i64 0) (.int .i64 0) (.bool false)
    rw [hwf]
    have r0 : wf.cell? ⟨w.heap.size, 0, none⟩ = some (.string ⟨#[]⟩) := (block_cell b6 0).trans rfl
    have r1 : wf.cell? ⟨w.heap.size, 1, none⟩ = some (.string ⟨#[]⟩) := (block_cell b6 1).trans rfl
    have r2 : wf.cell? ⟨w.heap.size, 2, none⟩ = some (.string ⟨#[]⟩) := (block_cell b6 2).trans rfl
    have r3 : wf.cell? ⟨w.heap.size, 3, none⟩ = some (.int .i64 0) := (block_cell b6 3).trans rfl
    have r4 : wf.cell? ⟨w.heap.size, 4, none⟩ = some (.int .i64 0) := (block_cell b6 4).trans rfl
    have r5 : wf.cell? ⟨w.heap.size, 5, none⟩ = some (.bool false) := (block_cell b6 5).trans rfl
    refine bodyPost_ret (by simp [results, Tryz.results30, go_sem, r0, r1, r2, r3, r4, r5]; try rfl) rfl ?_
    exact ⟨⟨_, _, _, _, _, _, by rw [E.out] <;> rfl, .inr E.out, Nat.zero_le _, Nat.zero_le _, Nat.zero_le _⟩, HB1.out.trans hbut.be⟩
end Go.Proofs.YtkjpojaanocfjaaGreatDoor
