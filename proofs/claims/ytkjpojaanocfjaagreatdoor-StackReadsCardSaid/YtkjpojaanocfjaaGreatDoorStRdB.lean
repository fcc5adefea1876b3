/- Walks of readHead, word, headLine (printed by gen_sh2.py). -/
import Derived.Test.YtkjpojaanocfjaaGreatDoorStRdA
namespace Go.Proofs.YtkjpojaanocfjaaGreatDoor
open Go.RowKit
set_option linter.unusedVariables false
set_option linter.unusedSimpArgs false
theorem word_k (s : ByteArray) (w : World) (hs : s.size ≤ maxLen) :
    Calls Tryz.prog 47 #[.string s, .string ⟨#[58]⟩] w fun e w' => e = .returned (.bool (kindB s)) ∧ w = w' := isWord_any s ⟨#[58]⟩ w hs
/-- What reading the line of a fault answers. -/
def HdOut (s : ByteArray) (e : Ending) : Prop := ∃ X Y : ByteArray, e = .returned (.tuple #[.agg #[.string X, .string Y, .slice none 0 0], .bool (headK s)]) ∧ (headK s = true → X = cutL s 58 ∧ Y = headS s) ∧ X.size ≤ s.size ∧ Y.size ≤ s.size
theorem trimP_size (l p : List UInt8) : (Lib.trimPrefix l p).length ≤ l.length := by
  unfold Lib.trimPrefix
  split
  · rw [List.length_drop]; omega
  · exact Nat.le_refl _
set_option maxRecDepth 100000 in
set_option maxHeartbeats 16000000 in
theorem readHead_any (s : ByteArray) (w : World) (hs : s.size ≤ 1000000) (hm : Mx w) :
    Calls Tryz.prog 61 #[.string s] w fun e w' => HdOut s e ∧ Below w.heap.size w w' := by
  have HB0 := hide (fun ob : Obj => show Below w.heap.size w (w.alloc ob) from (Below.refl _ _).alloc (Nat.le_refl _) ob)
  have HCU := hide (fun W (h : Below w.heap.size w W) => Cut_any s 58 W hs (hm.up h (Nat.le_refl _)))
  obtain ⟨z1, z2⟩ := cut_size s 58
  have HX := hide (heap_alloc_new w (.cells #[.string ByteArray.empty, .string ByteArray.empty, .slice none 0 0] 40))
  have z3 : (headT s).size ≤ s.size := by
    have h1 := trimP_size (cutR s 58).data.toList [32]
    have h2 : (cutR s 58).data.toList.length = (cutR s 58).size := by rw [Array.length_toList]; rfl
    have h3 : (headT s).size = (Lib.trimPrefix (cutR s 58).data.toList [32]).length := rfl
    omega
  have HCP := hide (fun W => show Calls Tryz.prog 27 #[.string (cutR s 58), .string ⟨#[32]⟩] W fun e w' => e = .returned (.tuple #[.string (headT s), .bool (headP s)]) ∧ W = w' from (Tryz.strings_CutPrefix (cutR s 58) ⟨#[32]⟩ W).mono fun e w' h => ⟨h.1, h.2.symm⟩)
  have HSS := hide (show headS s = if emptyB (cutR s 58) then ⟨#[]⟩ else headT s from rfl)
  have HE := hide (show headK s = (cutK s 58 && (!emptyB (cutL s 58) && (kindB (cutL s 58) && (emptyB (cutR s 58) || (headP s && !emptyB (headT s)))))) from rfl)
  have HW := hide (fun W => word_k (cutL s 58) W (by unfold maxLen; omega))
  unfold HdOut
  obtain ⟨hd, hhd⟩ : ∃ hd, headK s = hd := ⟨_, rfl⟩
  obtain ⟨hS, hhS⟩ : ∃ hS, headS s = hS := ⟨_, rfl⟩
  rw [hhd] at HE ⊢
  rw [hhS] at HSS ⊢
  obtain ⟨L, hL⟩ : ∃ L, cutL s 58 = L := ⟨_, rfl⟩
  obtain ⟨R, hR⟩ : ∃ R, cutR s 58 = R := ⟨_, rfl⟩
  obtain ⟨T, hT⟩ : ∃ T, headT s = T := ⟨_, rfl⟩
  obtain ⟨P, hP⟩ : ∃ P, headP s = P := ⟨_, rfl⟩
  rw [hT] at z3
  obtain ⟨K, hK⟩ : ∃ K, cutK s 58 = K := ⟨_, rfl⟩
  simp only [hL, hR, hK] at HCU
  rw [hL] at z1
  rw [hR] at z2
  simp only [hR, hT, hP] at HCP
  rw [hR, hT] at HSS
  rw [hK, hL, hR, hT, hP] at HE
  simp only [hL] at HW
  rw [hL]
  clear hL hR hT hP hK hhd hhS hm
  cases K
  · have E := hide (show hd = false from HE.out)
    clear HE HSS
    go_enter Tryz.func61, Tryz.ntmps61
    go_wp2_with (first | (go_at_call 53; refine (HCU.out _ (HB0.out _)).mono ?_; rintro e w1 ⟨rfl, hw1⟩; have HB1 := hide ((HB0.out _).trans (hw1.mono (HB0.out _).size)); have HX1 := hide (block_below HX.out hw1); have f0 := block_free HX1.out 0; have f1 := block_free HX1.out 1; have f2 := block_free HX1.out 2; have x0 := (block_cell HX1.out 0).trans rfl; have x1 := (block_cell HX1.out 1).trans rfl; have x2 := (block_cell HX1.out 2).trans rfl; clear hw1) | (go_at_call 47; ((with_reducible refine (HW.out _).mono ?_); rintro e w2 ⟨rfl, rfl⟩; clear HW)))
    have b1 := block_set HX1.out (i := 0) (.string (⟨#[]⟩ : ByteArray))
    have b2 := block_set b1 (i := 1) (.string (⟨#[]⟩ : ByteArray))
    have b3 := block_set b2 (i := 2) (.slice none 0 0)
    have hbz := ((HB1.out.setCell (p := ⟨w.heap.size, 0, none⟩) (by simp) (.string (⟨#[]⟩ : ByteArray))).setCell (p := ⟨w.heap.size, 1, none⟩) (by simp) (.string (⟨#[]⟩ : ByteArray))).setCell (p := ⟨w.heap.size, 2, none⟩) (by simp) (.slice none 0 0)
    generalize (((w1.setCell ⟨w.heap.size, 0, none⟩ (.string (⟨#[]⟩ : ByteArray))).setCell ⟨w.heap.size, 1, none⟩ (.string (⟨#[]⟩ : ByteArray))).setCell ⟨w.heap.size, 2, none⟩ (.slice none 0 0)) = wf at b3 hbz ⊢
    have r0 : wf.cell? ⟨w.heap.size, 0, none⟩ = some (.string (⟨#[]⟩ : ByteArray)) := (block_cell b3 0).trans rfl
    have r1 : wf.cell? ⟨w.heap.size, 1, none⟩ = some (.string (⟨#[]⟩ : ByteArray)) := (block_cell b3 1).trans rfl
    have r2 : wf.cell? ⟨w.heap.size, 2, none⟩ = some (.slice none 0 0) := (block_cell b3 2).trans rfl
    refine bodyPost_ret (by simp [results, Tryz.results61, go_sem, r0, r1, r2]; try rfl) rfl ?_
    exact ⟨⟨(⟨#[]⟩ : ByteArray), (⟨#[]⟩ : ByteArray), (by rw [E.out] <;> rfl), (by rw [E.out]; exact fun h => (by cases h)), Nat.zero_le _, Nat.zero_le _⟩, hbz⟩
  · cases eL : emptyB L
    · have eL' : L.toList.isEmpty = false := eL
      cases wL : kindB L
      · rw [wL] at HW
        have E := hide (show hd = false by rw [HE.out, eL, wL]; rfl)
        clear HE HSS eL wL
        go_enter Tryz.func61, Tryz.ntmps61
        go_wp2_with (first | (go_at_call 53; refine (HCU.out _ (HB0.out _)).mono ?_; rintro e w1 ⟨rfl, hw1⟩; have HB1 := hide ((HB0.out _).trans (hw1.mono (HB0.out _).size)); have HX1 := hide (block_below HX.out hw1); have f0 := block_free HX1.out 0; have f1 := block_free HX1.out 1; have f2 := block_free HX1.out 2; have x0 := (block_cell HX1.out 0).trans rfl; have x1 := (block_cell HX1.out 1).trans rfl; have x2 := (block_cell HX1.out 2).trans rfl; clear hw1) | (go_at_call 47; ((with_reducible refine (HW.out _).mono ?_); rintro e w2 ⟨rfl, rfl⟩; clear HW)))
        have b1 := block_set HX1.out (i := 0) (.string (⟨#[]⟩ : ByteArray))
        have b2 := block_set b1 (i := 1) (.string (⟨#[]⟩ : ByteArray))
        have b3 := block_set b2 (i := 2) (.slice none 0 0)
        have hbz := ((HB1.out.setCell (p := ⟨w.heap.size, 0, none⟩) (by simp) (.string (⟨#[]⟩ : ByteArray))).setCell (p := ⟨w.heap.size, 1, none⟩) (by simp) (.string (⟨#[]⟩ : ByteArray))).setCell (p := ⟨w.heap.size, 2, none⟩) (by simp) (.slice none 0 0)
        generalize (((w1.setCell ⟨w.heap.size, 0, none⟩ (.string (⟨#[]⟩ : ByteArray))).setCell ⟨w.heap.size, 1, none⟩ (.string (⟨#[]⟩ : ByteArray))).setCell ⟨w.heap.size, 2, none⟩ (.slice none 0 0)) = wf at b3 hbz ⊢
        have r0 : wf.cell? ⟨w.heap.size, 0, none⟩ = some (.string (⟨#[]⟩ : ByteArray)) := (block_cell b3 0).trans rfl
        have r1 : wf.cell? ⟨w.heap.size, 1, none⟩ = some (.string (⟨#[]⟩ : ByteArray)) := (block_cell b3 1).trans rfl
        have r2 : wf.cell? ⟨w.heap.size, 2, none⟩ = some (.slice none 0 0) := (block_cell b3 2).trans rfl
        refine bodyPost_ret (by simp [results, Tryz.results61, go_sem, r0, r1, r2]; try rfl) rfl ?_
        exact ⟨⟨(⟨#[]⟩ : ByteArray), (⟨#[]⟩ : ByteArray), (by rw [E.out] <;> rfl), (by rw [E.out]; exact fun h => (by cases h)), Nat.zero_le _, Nat.zero_le _⟩, hbz⟩
      · rw [wL] at HW
        cases eR : emptyB R
        · have eR' : R.toList.isEmpty = false := eR
          have HS := hide (show T = hS by rw [HSS.out, eR]; rfl)
          cases P
          · have E := hide (show hd = false by rw [HE.out, eL, wL, eR]; rfl)
            clear HE HSS eL wL eR
            go_enter Tryz.func61, Tryz.ntmps61
            go_wp2_with (first | (go_at_call 53; refine (HCU.out _ (HB0.out _)).mono ?_; rintro e w1 ⟨rfl, hw1⟩; have HB1 := hide ((HB0.out _).trans (hw1.mono (HB0.out _).size)); have HX1 := hide (block_below HX.out hw1); have f0 := block_free HX1.out 0; have f1 := block_free HX1.out 1; have f2 := block_free HX1.out 2; have x0 := (block_cell HX1.out 0).trans rfl; have x1 := (block_cell HX1.out 1).trans rfl; have x2 := (block_cell HX1.out 2).trans rfl; clear hw1) | (go_at_call 47; ((with_reducible refine (HW.out _).mono ?_); rintro e w2 ⟨rfl, rfl⟩; clear HW)) | (go_at_call 27; refine (HCP.out _).mono ?_; rintro e w2 ⟨rfl, rfl⟩))
            have b1 := block_set HX1.out (i := 0) (.string L)
            have b2 := block_set b1 (i := 1) (.string T)
            have b3 := block_set b2 (i := 2) (.slice none 0 0)
            have hbz := ((HB1.out.setCell (p := ⟨w.heap.size, 0, none⟩) (by simp) (.string L)).setCell (p := ⟨w.heap.size, 1, none⟩) (by simp) (.string T)).setCell (p := ⟨w.heap.size, 2, none⟩) (by simp) (.slice none 0 0)
            generalize (((w1.setCell ⟨w.heap.size, 0, none⟩ (.string L)).setCell ⟨w.heap.size, 1, none⟩ (.string T)).setCell ⟨w.heap.size, 2, none⟩ (.slice none 0 0)) = wf at b3 hbz ⊢
            have r0 : wf.cell? ⟨w.heap.size, 0, none⟩ = some (.string L) := (block_cell b3 0).trans rfl
            have r1 : wf.cell? ⟨w.heap.size, 1, none⟩ = some (.string T) := (block_cell b3 1).trans rfl
            have r2 : wf.cell? ⟨w.heap.size, 2, none⟩ = some (.slice none 0 0) := (block_cell b3 2).trans rfl
            refine bodyPost_ret (by simp [results, Tryz.results61, go_sem, r0, r1, r2]; try rfl) rfl ?_
            exact ⟨⟨L, T, (by rw [E.out] <;> rfl), (by rw [E.out]; exact fun h => (by cases h)), z1, z3⟩, hbz⟩
          · cases eT : emptyB T
            · have eT' : T.toList.isEmpty = false := eT
              have E := hide (show hd = true by rw [HE.out, eL, wL, eR, eT]; rfl)
              clear HE HSS eL wL eR eT
              go_enter Tryz.func61, Tryz.ntmps61
              go_wp2_with (first | (go_at_call 53; refine (HCU.out _ (HB0.out _)).mono ?_; rintro e w1 ⟨rfl, hw1⟩; have HB1 := hide ((HB0.out _).trans (hw1.mono (HB0.out _).size)); have HX1 := hide (block_below HX.out hw1); have f0 := block_free HX1.out 0; have f1 := block_free HX1.out 1; have f2 := block_free HX1.out 2; have x0 := (block_cell HX1.out 0).trans rfl; have x1 := (block_cell HX1.out 1).trans rfl; have x2 := (block_cell HX1.out 2).trans rfl; clear hw1) | (go_at_call 47; ((with_reducible refine (HW.out _).mono ?_); rintro e w2 ⟨rfl, rfl⟩; clear HW)) | (go_at_call 27; refine (HCP.out _).mono ?_; rintro e w2 ⟨rfl, rfl⟩))
              have b1 := block_set HX1.out (i := 0) (.string L)
              have b2 := block_set b1 (i := 1) (.string T)
              have b3 := block_set b2 (i := 2) (.slice none 0 0)
              have hbz := ((HB1.out.setCell (p := ⟨w.heap.size, 0, none⟩) (by simp) (.string L)).setCell (p := ⟨w.heap.size, 1, none⟩) (by simp) (.string T)).setCell (p := ⟨w.heap.size, 2, none⟩) (by simp) (.slice none 0 0)
              generalize (((w1.setCell ⟨w.heap.size, 0, none⟩ (.string L)).setCell ⟨w.heap.size, 1, none⟩ (.string T)).setCell ⟨w.heap.size, 2, none⟩ (.slice none 0 0)) = wf at b3 hbz ⊢
              have r0 : wf.cell? ⟨w.heap.size, 0, none⟩ = some (.string L) := (block_cell b3 0).trans rfl
              have r1 : wf.cell? ⟨w.heap.size, 1, none⟩ = some (.string T) := (block_cell b3 1).trans rfl
              have r2 : wf.cell? ⟨w.heap.size, 2, none⟩ = some (.slice none 0 0) := (block_cell b3 2).trans rfl
              refine bodyPost_ret (by simp [results, Tryz.results61, go_sem, r0, r1, r2]; try rfl) rfl ?_
              exact ⟨⟨L, T, (by rw [E.out] <;> rfl), (by rw [E.out]; exact fun _ => ⟨rfl, HS.out⟩), z1, z3⟩, hbz⟩
            · have eT' : T.toList.isEmpty = true := eT
              have E := hide (show hd = false by rw [HE.out, eL, wL, eR, eT]; rfl)
              clear HE HSS eL wL eR eT
              go_enter Tryz.func61, Tryz.ntmps61
              go_wp2_with (first | (go_at_call 53; refine (HCU.out _ (HB0.out _)).mono ?_; rintro e w1 ⟨rfl, hw1⟩; have HB1 := hide ((HB0.out _).trans (hw1.mono (HB0.out _).size)); have HX1 := hide (block_below HX.out hw1); have f0 := block_free HX1.out 0; have f1 := block_free HX1.out 1; have f2 := block_free HX1.out 2; have x0 := (block_cell HX1.out 0).trans rfl; have x1 := (block_cell HX1.out 1).trans rfl; have x2 := (block_cell HX1.out 2).trans rfl; clear hw1) | (go_at_call 47; ((with_reducible refine (HW.out _).mono ?_); rintro e w2 ⟨rfl, rfl⟩; clear HW)) | (go_at_call 27; refine (HCP.out _).mono ?_; rintro e w2 ⟨rfl, rfl⟩))
              have b1 := block_set HX1.out (i := 0) (.string L)
              have b2 := block_set b1 (i := 1) (.string T)
              have b3 := block_set b2 (i := 2) (.slice none 0 0)
              have hbz := ((HB1.out.setCell (p := ⟨w.heap.size, 0, none⟩) (by simp) (.string L)).setCell (p := ⟨w.heap.size, 1, none⟩) (by simp) (.string T)).setCell (p := ⟨w.heap.size, 2, none⟩) (by simp) (.slice none 0 0)
              generalize (((w1.setCell ⟨w.heap.size, 0, none⟩ (.string L)).setCell ⟨w.heap.size, 1, none⟩ (.string T)).setCell ⟨w.heap.size, 2, none⟩ (.slice none 0 0)) = wf at b3 hbz ⊢
              have r0 : wf.cell? ⟨w.heap.size, 0, none⟩ = some (.string L) := (block_cell b3 0).trans rfl
              have r1 : wf.cell? ⟨w.heap.size, 1, none⟩ = some (.string T) := (block_cell b3 1).trans rfl
              have r2 : wf.cell? ⟨w.heap.size, 2, none⟩ = some (.slice none 0 0) := (block_cell b3 2).trans rfl
              refine bodyPost_ret (by simp [results, Tryz.results61, go_sem, r0, r1, r2]; try rfl) rfl ?_
              exact ⟨⟨L, T, (by rw [E.out] <;> rfl), (by rw [E.out]; exact fun h => (by cases h)), z1, z3⟩, hbz⟩
        · have eR' : R.toList.isEmpty = true := eR
          have HS := hide (show (⟨#[]⟩ : ByteArray) = hS by rw [HSS.out, eR]; rfl)
          have E := hide (show hd = true by rw [HE.out, eL, wL, eR]; rfl)
          clear HE HSS eL wL eR
          go_enter Tryz.func61, Tryz.ntmps61
          go_wp2_with (first | (go_at_call 53; refine (HCU.out _ (HB0.out _)).mono ?_; rintro e w1 ⟨rfl, hw1⟩; have HB1 := hide ((HB0.out _).trans (hw1.mono (HB0.out _).size)); have HX1 := hide (block_below HX.out hw1); have f0 := block_free HX1.out 0; have f1 := block_free HX1.out 1; have f2 := block_free HX1.out 2; have x0 := (block_cell HX1.out 0).trans rfl; have x1 := (block_cell HX1.out 1).trans rfl; have x2 := (block_cell HX1.out 2).trans rfl; clear hw1) | (go_at_call 47; ((with_reducible refine (HW.out _).mono ?_); rintro e w2 ⟨rfl, rfl⟩; clear HW)))
          have b1 := block_set HX1.out (i := 0) (.string L)
          have b2 := block_set b1 (i := 1) (.string (⟨#[]⟩ : ByteArray))
          have b3 := block_set b2 (i := 2) (.slice none 0 0)
          have hbz := ((HB1.out.setCell (p := ⟨w.heap.size, 0, none⟩) (by simp) (.string L)).setCell (p := ⟨w.heap.size, 1, none⟩) (by simp) (.string (⟨#[]⟩ : ByteArray))).setCell (p := ⟨w.heap.size, 2, none⟩) (by simp) (.slice none 0 0)
          generalize (((w1.setCell ⟨w.heap.size, 0, none⟩ (.string L)).setCell ⟨w.heap.size, 1, none⟩ (.string (⟨#[]⟩ : ByteArray))).setCell ⟨w.heap.size, 2, none⟩ (.slice none 0 0)) = wf at b3 hbz ⊢
          have r0 : wf.cell? ⟨w.heap.size, 0, none⟩ = some (.string L) := (block_cell b3 0).trans rfl
          have r1 : wf.cell? ⟨w.heap.size, 1, none⟩ = some (.string (⟨#[]⟩ : ByteArray)) := (block_cell b3 1).trans rfl
          have r2 : wf.cell? ⟨w.heap.size, 2, none⟩ = some (.slice none 0 0) := (block_cell b3 2).trans rfl
          refine bodyPost_ret (by simp [results, Tryz.results61, go_sem, r0, r1, r2]; try rfl) rfl ?_
          exact ⟨⟨L, (⟨#[]⟩ : ByteArray), (by rw [E.out] <;> rfl), (by rw [E.out]; exact fun _ => ⟨rfl, HS.out⟩), z1, Nat.zero_le _⟩, hbz⟩
    · have eL' : L.toList.isEmpty = true := eL
      have E := hide (show hd = false by rw [HE.out, eL]; rfl)
      clear HE HSS eL
      go_enter Tryz.func61, Tryz.ntmps61
      go_wp2_with (first | (go_at_call 53; refine (HCU.out _ (HB0.out _)).mono ?_; rintro e w1 ⟨rfl, hw1⟩; have HB1 := hide ((HB0.out _).trans (hw1.mono (HB0.out _).size)); have HX1 := hide (block_below HX.out hw1); have f0 := block_free HX1.out 0; have f1 := block_free HX1.out 1; have f2 := block_free HX1.out 2; have x0 := (block_cell HX1.out 0).trans rfl; have x1 := (block_cell HX1.out 1).trans rfl; have x2 := (block_cell HX1.out 2).trans rfl; clear hw1) | (go_at_call 47; ((with_reducible refine (HW.out _).mono ?_); rintro e w2 ⟨rfl, rfl⟩; clear HW)))
      have b1 := block_set HX1.out (i := 0) (.string (⟨#[]⟩ : ByteArray))
      have b2 := block_set b1 (i := 1) (.string (⟨#[]⟩ : ByteArray))
      have b3 := block_set b2 (i := 2) (.slice none 0 0)
      have hbz := ((HB1.out.setCell (p := ⟨w.heap.size, 0, none⟩) (by simp) (.string (⟨#[]⟩ : ByteArray))).setCell (p := ⟨w.heap.size, 1, none⟩) (by simp) (.string (⟨#[]⟩ : ByteArray))).setCell (p := ⟨w.heap.size, 2, none⟩) (by simp) (.slice none 0 0)
      generalize (((w1.setCell ⟨w.heap.size, 0, none⟩ (.string (⟨#[]⟩ : ByteArray))).setCell ⟨w.heap.size, 1, none⟩ (.string (⟨#[]⟩ : ByteArray))).setCell ⟨w.heap.size, 2, none⟩ (.slice none 0 0)) = wf at b3 hbz ⊢
      have r0 : wf.cell? ⟨w.heap.size, 0, none⟩ = some (.string (⟨#[]⟩ : ByteArray)) := (block_cell b3 0).trans rfl
      have r1 : wf.cell? ⟨w.heap.size, 1, none⟩ = some (.string (⟨#[]⟩ : ByteArray)) := (block_cell b3 1).trans rfl
      have r2 : wf.cell? ⟨w.heap.size, 2, none⟩ = some (.slice none 0 0) := (block_cell b3 2).trans rfl
      refine bodyPost_ret (by simp [results, Tryz.results61, go_sem, r0, r1, r2]; try rfl) rfl ?_
      exact ⟨⟨(⟨#[]⟩ : ByteArray), (⟨#[]⟩ : ByteArray), (by rw [E.out] <;> rfl), (by rw [E.out]; exact fun h => (by cases h)), Nat.zero_le _, Nat.zero_le _⟩, hbz⟩
set_option maxHeartbeats 2000000 in
theorem word_any (s t : ByteArray) (w : World) (hs : s.size ≤ maxLen) :
    Calls Tryz.prog 54 #[.string s, .string t] w fun e w' => e = .returned (.bool (!emptyB s && bytesInB s 33 t.data.toList)) ∧ w = w' := by
  have HC := hide (fun W => bytesIn_any s 33 t W hs)
  cases eS : emptyB s
  · have eS' : s.toList.isEmpty = false := eS
    obtain ⟨b, hb⟩ : ∃ b, bytesInB s 33 t.data.toList = b := ⟨_, rfl⟩
    simp only [hb] at HC
    rw [hb]
    clear hb eS
    go_enter Tryz.func54, Tryz.ntmps54
    go_wp2_with (go_at_call 59; refine (HC.out _).mono ?_; rintro e w2 ⟨rfl, rfl⟩)
    go_ret
    exact ⟨by simp, rfl⟩
  · have eS' : s.toList.isEmpty = true := eS
    clear eS
    go_enter Tryz.func54, Tryz.ntmps54
    go_wp2_with (fail)
    go_ret
    exact ⟨by simp, rfl⟩
set_option maxRecDepth 100000 in
set_option maxHeartbeats 16000000 in
theorem headLine_any (s : ByteArray) (w : World) (hs : s.size ≤ 1000000) (hm : Mx w) :
    Calls Tryz.prog 28 #[.string s] w fun e w' => HdOut s e ∧ Below w.heap.size w w' := by
  have HB0 := hide (fun ob : Obj => show Below w.heap.size w (w.alloc ob) from (Below.refl _ _).alloc (Nat.le_refl _) ob)
  have HCU := hide (fun W (h : Below w.heap.size w W) => Cut_any s 58 W hs (hm.up h (Nat.le_refl _)))
  obtain ⟨z1, z2⟩ := cut_size s 58
  have HX := hide (heap_alloc_new w (.cells #[.string ByteArray.empty, .string ByteArray.empty, .slice none 0 0] 40))
  have z3 : (headT s).size ≤ s.size := by
    have h1 := trimP_size (cutR s 58).data.toList [32]
    have h2 : (cutR s 58).data.toList.length = (cutR s 58).size := by rw [Array.length_toList]; rfl
    have h3 : (headT s).size = (Lib.trimPrefix (cutR s 58).data.toList [32]).length := rfl
    omega
  have HCP := hide (fun W => show Calls Tryz.prog 27 #[.string (cutR s 58), .string ⟨#[32]⟩] W fun e w' => e = .returned (.tuple #[.string (headT s), .bool (headP s)]) ∧ W = w' from (Tryz.strings_CutPrefix (cutR s 58) ⟨#[32]⟩ W).mono fun e w' h => ⟨h.1, h.2.symm⟩)
  have HSS := hide (show headS s = if emptyB (cutR s 58) then ⟨#[]⟩ else headT s from rfl)
  have HE := hide (show headK s = (cutK s 58 && (!emptyB (cutL s 58) && (kindB (cutL s 58) && (emptyB (cutR s 58) || (headP s && !emptyB (headT s)))))) from rfl)
  have HW := hide (fun W => word_any (cutL s 58) ⟨#[58]⟩ W (by unfold maxLen; omega))
  have hT0 : emptyB (cutR s 58) = true → headT s = ⟨#[]⟩ := fun h => by
    unfold headT
    have : (cutR s 58).data.toList = [] := by unfold emptyB at h; rw [ByteArray.toList_eq] at h; exact List.isEmpty_iff.1 h
    rw [this]; rfl
  have HT0 := hide hT0
  clear hT0
  obtain ⟨wv, hwv⟩ : ∃ wv, (!emptyB (cutL s 58) && bytesInB (cutL s 58) 33 (⟨#[58]⟩ : ByteArray).data.toList) = wv := ⟨_, rfl⟩
  simp only [hwv] at HW
  have HWV := hide (show (!emptyB (cutL s 58) && kindB (cutL s 58)) = wv from hwv)
  clear hwv
  unfold HdOut
  obtain ⟨hd, hhd⟩ : ∃ hd, headK s = hd := ⟨_, rfl⟩
  obtain ⟨hS, hhS⟩ : ∃ hS, headS s = hS := ⟨_, rfl⟩
  rw [hhd] at HE ⊢
  rw [hhS] at HSS ⊢
  obtain ⟨L, hL⟩ : ∃ L, cutL s 58 = L := ⟨_, rfl⟩
  obtain ⟨R, hR⟩ : ∃ R, cutR s 58 = R := ⟨_, rfl⟩
  obtain ⟨T, hT⟩ : ∃ T, headT s = T := ⟨_, rfl⟩
  obtain ⟨P, hP⟩ : ∃ P, headP s = P := ⟨_, rfl⟩
  rw [hT] at z3
  obtain ⟨K, hK⟩ : ∃ K, cutK s 58 = K := ⟨_, rfl⟩
  simp only [hL, hR, hK] at HCU
  rw [hL] at z1
  rw [hR] at z2
  simp only [hR, hT, hP] at HCP
  rw [hR, hT] at HSS
  rw [hK, hL, hR, hT, hP] at HE
  simp only [hL] at HW
  rw [hL] at HWV
  rw [hR, hT] at HT0
  rw [hL]
  clear hL hR hT hP hK hhd hhS hm
  have HE2 := hide (show hd = (K && (wv && (emptyB R || (P && !emptyB T)))) by rw [HE.out, ← HWV.out]; cases emptyB L <;> cases kindB L <;> rfl)
  clear HE HWV
  cases K
  · have E := hide (show hd = false from HE2.out)
    clear HE2 HSS
    go_enter Tryz.func28, Tryz.ntmps28
    go_wp2_with (first | (go_at_call 53; refine (HCU.out _ (HB0.out _)).mono ?_; rintro e w1 ⟨rfl, hw1⟩; have HB1 := hide ((HB0.out _).trans (hw1.mono (HB0.out _).size)); have HX1 := hide (block_below HX.out hw1); have f0 := block_free HX1.out 0; have f1 := block_free HX1.out 1; have f2 := block_free HX1.out 2; have x0 := (block_cell HX1.out 0).trans rfl; have x1 := (block_cell HX1.out 1).trans rfl; have x2 := (block_cell HX1.out 2).trans rfl; clear hw1) | (go_at_call 54; refine (HW.out _).mono ?_; rintro e w2 ⟨rfl, rfl⟩) | (go_at_call 27; refine (HCP.out _).mono ?_; rintro e w2 ⟨rfl, rfl⟩))
    have b1 := block_set HX1.out (i := 0) (.string (⟨#[]⟩ : ByteArray))
    have b2 := block_set b1 (i := 1) (.string (⟨#[]⟩ : ByteArray))
    have b3 := block_set b2 (i := 2) (.slice none 0 0)
    have hbz := ((HB1.out.setCell (p := ⟨w.heap.size, 0, none⟩) (by simp) (.string (⟨#[]⟩ : ByteArray))).setCell (p := ⟨w.heap.size, 1, none⟩) (by simp) (.string (⟨#[]⟩ : ByteArray))).setCell (p := ⟨w.heap.size, 2, none⟩) (by simp) (.slice none 0 0)
    generalize (((w1.setCell ⟨w.heap.size, 0, none⟩ (.string (⟨#[]⟩ : ByteArray))).setCell ⟨w.heap.size, 1, none⟩ (.string (⟨#[]⟩ : ByteArray))).setCell ⟨w.heap.size, 2, none⟩ (.slice none 0 0)) = wf at b3 hbz ⊢
    have r0 : wf.cell? ⟨w.heap.size, 0, none⟩ = some (.string (⟨#[]⟩ : ByteArray)) := (block_cell b3 0).trans rfl
    have r1 : wf.cell? ⟨w.heap.size, 1, none⟩ = some (.string (⟨#[]⟩ : ByteArray)) := (block_cell b3 1).trans rfl
    have r2 : wf.cell? ⟨w.heap.size, 2, none⟩ = some (.slice none 0 0) := (block_cell b3 2).trans rfl
    refine bodyPost_ret (by simp [results, Tryz.results28, go_sem, r0, r1, r2]; try rfl) rfl ?_
    exact ⟨⟨(⟨#[]⟩ : ByteArray), (⟨#[]⟩ : ByteArray), (by rw [E.out] <;> rfl), (by rw [E.out]; exact fun h => (by cases h)), Nat.zero_le _, Nat.zero_le _⟩, hbz⟩
  · cases wv
    · have E := hide (show hd = false from HE2.out)
      clear HE2 HSS
      go_enter Tryz.func28, Tryz.ntmps28
      go_wp2_with (first | (go_at_call 53; refine (HCU.out _ (HB0.out _)).mono ?_; rintro e w1 ⟨rfl, hw1⟩; have HB1 := hide ((HB0.out _).trans (hw1.mono (HB0.out _).size)); have HX1 := hide (block_below HX.out hw1); have f0 := block_free HX1.out 0; have f1 := block_free HX1.out 1; have f2 := block_free HX1.out 2; have x0 := (block_cell HX1.out 0).trans rfl; have x1 := (block_cell HX1.out 1).trans rfl; have x2 := (block_cell HX1.out 2).trans rfl; clear hw1) | (go_at_call 54; refine (HW.out _).mono ?_; rintro e w2 ⟨rfl, rfl⟩) | (go_at_call 27; refine (HCP.out _).mono ?_; rintro e w2 ⟨rfl, rfl⟩))
      have b1 := block_set HX1.out (i := 0) (.string (⟨#[]⟩ : ByteArray))
      have b2 := block_set b1 (i := 1) (.string (⟨#[]⟩ : ByteArray))
      have b3 := block_set b2 (i := 2) (.slice none 0 0)
      have hbz := ((HB1.out.setCell (p := ⟨w.heap.size, 0, none⟩) (by simp) (.string (⟨#[]⟩ : ByteArray))).setCell (p := ⟨w.heap.size, 1, none⟩) (by simp) (.string (⟨#[]⟩ : ByteArray))).setCell (p := ⟨w.heap.size, 2, none⟩) (by simp) (.slice none 0 0)
      generalize (((w1.setCell ⟨w.heap.size, 0, none⟩ (.string (⟨#[]⟩ : ByteArray))).setCell ⟨w.heap.size, 1, none⟩ (.string (⟨#[]⟩ : ByteArray))).setCell ⟨w.heap.size, 2, none⟩ (.slice none 0 0)) = wf at b3 hbz ⊢
      have r0 : wf.cell? ⟨w.heap.size, 0, none⟩ = some (.string (⟨#[]⟩ : ByteArray)) := (block_cell b3 0).trans rfl
      have r1 : wf.cell? ⟨w.heap.size, 1, none⟩ = some (.string (⟨#[]⟩ : ByteArray)) := (block_cell b3 1).trans rfl
      have r2 : wf.cell? ⟨w.heap.size, 2, none⟩ = some (.slice none 0 0) := (block_cell b3 2).trans rfl
      refine bodyPost_ret (by simp [results, Tryz.results28, go_sem, r0, r1, r2]; try rfl) rfl ?_
      exact ⟨⟨(⟨#[]⟩ : ByteArray), (⟨#[]⟩ : ByteArray), (by rw [E.out] <;> rfl), (by rw [E.out]; exact fun h => (by cases h)), Nat.zero_le _, Nat.zero_le _⟩, hbz⟩
    · cases eR : emptyB R
      · have eR' : R.toList.isEmpty = false := eR
        have HS := hide (show T = hS by rw [HSS.out, eR]; rfl)
        cases P
        · have E := hide (show hd = false by rw [HE2.out, eR]; rfl)
          clear HE2 HSS eR HT0
          go_enter Tryz.func28, Tryz.ntmps28
          go_wp2_with (first | (go_at_call 53; refine (HCU.out _ (HB0.out _)).mono ?_; rintro e w1 ⟨rfl, hw1⟩; have HB1 := hide ((HB0.out _).trans (hw1.mono (HB0.out _).size)); have HX1 := hide (block_below HX.out hw1); have f0 := block_free HX1.out 0; have f1 := block_free HX1.out 1; have f2 := block_free HX1.out 2; have x0 := (block_cell HX1.out 0).trans rfl; have x1 := (block_cell HX1.out 1).trans rfl; have x2 := (block_cell HX1.out 2).trans rfl; clear hw1) | (go_at_call 54; refine (HW.out _).mono ?_; rintro e w2 ⟨rfl, rfl⟩) | (go_at_call 27; refine (HCP.out _).mono ?_; rintro e w2 ⟨rfl, rfl⟩))
          have b1 := block_set HX1.out (i := 0) (.string (⟨#[]⟩ : ByteArray))
          have b2 := block_set b1 (i := 1) (.string (⟨#[]⟩ : ByteArray))
          have b3 := block_set b2 (i := 2) (.slice none 0 0)
          have hbz := ((HB1.out.setCell (p := ⟨w.heap.size, 0, none⟩) (by simp) (.string (⟨#[]⟩ : ByteArray))).setCell (p := ⟨w.heap.size, 1, none⟩) (by simp) (.string (⟨#[]⟩ : ByteArray))).setCell (p := ⟨w.heap.size, 2, none⟩) (by simp) (.slice none 0 0)
          generalize (((w1.setCell ⟨w.heap.size, 0, none⟩ (.string (⟨#[]⟩ : ByteArray))).setCell ⟨w.heap.size, 1, none⟩ (.string (⟨#[]⟩ : ByteArray))).setCell ⟨w.heap.size, 2, none⟩ (.slice none 0 0)) = wf at b3 hbz ⊢
          have r0 : wf.cell? ⟨w.heap.size, 0, none⟩ = some (.string (⟨#[]⟩ : ByteArray)) := (block_cell b3 0).trans rfl
          have r1 : wf.cell? ⟨w.heap.size, 1, none⟩ = some (.string (⟨#[]⟩ : ByteArray)) := (block_cell b3 1).trans rfl
          have r2 : wf.cell? ⟨w.heap.size, 2, none⟩ = some (.slice none 0 0) := (block_cell b3 2).trans rfl
          refine bodyPost_ret (by simp [results, Tryz.results28, go_sem, r0, r1, r2]; try rfl) rfl ?_
          exact ⟨⟨(⟨#[]⟩ : ByteArray), (⟨#[]⟩ : ByteArray), (by rw [E.out] <;> rfl), (by rw [E.out]; exact fun h => (by cases h)), Nat.zero_le _, Nat.zero_le _⟩, hbz⟩
        · cases eT : emptyB T
          · have eT' : T.toList.isEmpty = false := eT
            have E := hide (show hd = true by rw [HE2.out, eR, eT]; rfl)
            clear HE2 HSS eR eT HT0
            go_enter Tryz.func28, Tryz.ntmps28
            go_wp2_with (first | (go_at_call 53; refine (HCU.out _ (HB0.out _)).mono ?_; rintro e w1 ⟨rfl, hw1⟩; have HB1 := hide ((HB0.out _).trans (hw1.mono (HB0.out _).size)); have HX1 := hide (block_below HX.out hw1); have f0 := block_free HX1.out 0; have f1 := block_free HX1.out 1; have f2 := block_free HX1.out 2; have x0 := (block_cell HX1.out 0).trans rfl; have x1 := (block_cell HX1.out 1).trans rfl; have x2 := (block_cell HX1.out 2).trans rfl; clear hw1) | (go_at_call 54; refine (HW.out _).mono ?_; rintro e w2 ⟨rfl, rfl⟩) | (go_at_call 27; refine (HCP.out _).mono ?_; rintro e w2 ⟨rfl, rfl⟩))
            have b1 := block_set HX1.out (i := 0) (.string L)
            have b2 := block_set b1 (i := 1) (.string T)
            have b3 := block_set b2 (i := 2) (.slice none 0 0)
            have hbz := ((HB1.out.setCell (p := ⟨w.heap.size, 0, none⟩) (by simp) (.string L)).setCell (p := ⟨w.heap.size, 1, none⟩) (by simp) (.string T)).setCell (p := ⟨w.heap.size, 2, none⟩) (by simp) (.slice none 0 0)
            generalize (((w1.setCell ⟨w.heap.size, 0, none⟩ (.string L)).setCell ⟨w.heap.size, 1, none⟩ (.string T)).setCell ⟨w.heap.size, 2, none⟩ (.slice none 0 0)) = wf at b3 hbz ⊢
            have r0 : wf.cell? ⟨w.heap.size, 0, none⟩ = some (.string L) := (block_cell b3 0).trans rfl
            have r1 : wf.cell? ⟨w.heap.size, 1, none⟩ = some (.string T) := (block_cell b3 1).trans rfl
            have r2 : wf.cell? ⟨w.heap.size, 2, none⟩ = some (.slice none 0 0) := (block_cell b3 2).trans rfl
            refine bodyPost_ret (by simp [results, Tryz.results28, go_sem, r0, r1, r2]; try rfl) rfl ?_
            exact ⟨⟨L, T, (by rw [E.out] <;> rfl), (by rw [E.out]; exact fun _ => ⟨rfl, HS.out⟩), z1, z3⟩, hbz⟩
          · have eT' : T.toList.isEmpty = true := eT
            have E := hide (show hd = false by rw [HE2.out, eR, eT]; rfl)
            clear HE2 HSS eR eT HT0
            go_enter Tryz.func28, Tryz.ntmps28
            go_wp2_with (first | (go_at_call 53; refine (HCU.out _ (HB0.out _)).mono ?_; rintro e w1 ⟨rfl, hw1⟩; have HB1 := hide ((HB0.out _).trans (hw1.mono (HB0.out _).size)); have HX1 := hide (block_below HX.out hw1); have f0 := block_free HX1.out 0; have f1 := block_free HX1.out 1; have f2 := block_free HX1.out 2; have x0 := (block_cell HX1.out 0).trans rfl; have x1 := (block_cell HX1.out 1).trans rfl; have x2 := (block_cell HX1.out 2).trans rfl; clear hw1) | (go_at_call 54; refine (HW.out _).mono ?_; rintro e w2 ⟨rfl, rfl⟩) | (go_at_call 27; refine (HCP.out _).mono ?_; rintro e w2 ⟨rfl, rfl⟩))
            have b1 := block_set HX1.out (i := 0) (.string (⟨#[]⟩ : ByteArray))
            have b2 := block_set b1 (i := 1) (.string (⟨#[]⟩ : ByteArray))
            have b3 := block_set b2 (i := 2) (.slice none 0 0)
            have hbz := ((HB1.out.setCell (p := ⟨w.heap.size, 0, none⟩) (by simp) (.string (⟨#[]⟩ : ByteArray))).setCell (p := ⟨w.heap.size, 1, none⟩) (by simp) (.string (⟨#[]⟩ : ByteArray))).setCell (p := ⟨w.heap.size, 2, none⟩) (by simp) (.slice none 0 0)
            generalize (((w1.setCell ⟨w.heap.size, 0, none⟩ (.string (⟨#[]⟩ : ByteArray))).setCell ⟨w.heap.size, 1, none⟩ (.string (⟨#[]⟩ : ByteArray))).setCell ⟨w.heap.size, 2, none⟩ (.slice none 0 0)) = wf at b3 hbz ⊢
            have r0 : wf.cell? ⟨w.heap.size, 0, none⟩ = some (.string (⟨#[]⟩ : ByteArray)) := (block_cell b3 0).trans rfl
            have r1 : wf.cell? ⟨w.heap.size, 1, none⟩ = some (.string (⟨#[]⟩ : ByteArray)) := (block_cell b3 1).trans rfl
            have r2 : wf.cell? ⟨w.heap.size, 2, none⟩ = some (.slice none 0 0) := (block_cell b3 2).trans rfl
            refine bodyPost_ret (by simp [results, Tryz.results28, go_sem, r0, r1, r2]; try rfl) rfl ?_
            exact ⟨⟨(⟨#[]⟩ : ByteArray), (⟨#[]⟩ : ByteArray), (by rw [E.out] <;> rfl), (by rw [E.out]; exact fun h => (by cases h)), Nat.zero_le _, Nat.zero_le _⟩, hbz⟩
      · have eR' : R.toList.isEmpty = true := eR
        have HS := hide (show T = hS by rw [HSS.out, eR, if_pos rfl, HT0.out eR])
        have E := hide (show hd = true by rw [HE2.out, eR]; rfl)
        clear HE2 HSS eR HT0
        go_enter Tryz.func28, Tryz.ntmps28
        go_wp2_with (first | (go_at_call 53; refine (HCU.out _ (HB0.out _)).mono ?_; rintro e w1 ⟨rfl, hw1⟩; have HB1 := hide ((HB0.out _).trans (hw1.mono (HB0.out _).size)); have HX1 := hide (block_below HX.out hw1); have f0 := block_free HX1.out 0; have f1 := block_free HX1.out 1; have f2 := block_free HX1.out 2; have x0 := (block_cell HX1.out 0).trans rfl; have x1 := (block_cell HX1.out 1).trans rfl; have x2 := (block_cell HX1.out 2).trans rfl; clear hw1) | (go_at_call 54; refine (HW.out _).mono ?_; rintro e w2 ⟨rfl, rfl⟩) | (go_at_call 27; refine (HCP.out _).mono ?_; rintro e w2 ⟨rfl, rfl⟩))
        have b1 := block_set HX1.out (i := 0) (.string L)
        have b2 := block_set b1 (i := 1) (.string T)
        have b3 := block_set b2 (i := 2) (.slice none 0 0)
        have hbz := ((HB1.out.setCell (p := ⟨w.heap.size, 0, none⟩) (by simp) (.string L)).setCell (p := ⟨w.heap.size, 1, none⟩) (by simp) (.string T)).setCell (p := ⟨w.heap.size, 2, none⟩) (by simp) (.slice none 0 0)
        generalize (((w1.setCell ⟨w.heap.size, 0, none⟩ (.string L)).setCell ⟨w.heap.size, 1, none⟩ (.string T)).setCell ⟨w.heap.size, 2, none⟩ (.slice none 0 0)) = wf at b3 hbz ⊢
        have r0 : wf.cell? ⟨w.heap.size, 0, none⟩ = some (.string L) := (block_cell b3 0).trans rfl
        have r1 : wf.cell? ⟨w.heap.size, 1, none⟩ = some (.string T) := (block_cell b3 1).trans rfl
        have r2 : wf.cell? ⟨w.heap.size, 2, none⟩ = some (.slice none 0 0) := (block_cell b3 2).trans rfl
        refine bodyPost_ret (by simp [results, Tryz.results28, go_sem, r0, r1, r2]; try rfl) rfl ?_
        exact ⟨⟨L, T, (by rw [E.out] <;> rfl), (by rw [E.out]; exact fun _ => ⟨rfl, HS.out⟩), z1, z3⟩, hbz⟩
end Go.Proofs.YtkjpojaanocfjaaGreatDoor
