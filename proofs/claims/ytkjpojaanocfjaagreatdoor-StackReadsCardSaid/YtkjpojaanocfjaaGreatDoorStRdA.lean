/- Walks of readCall, readHead, word, headLine. -/
import Derived.Test.YtkjpojaanocfjaaGreatDoorStRdL
import Derived.BigQuiet
namespace Go.Proofs.YtkjpojaanocfjaaGreatDoor
open Go.RowKit
set_option linter.unusedVariables false
set_option linter.unusedSimpArgs false
/-- A caller's own box may turn; all other blocks stay. -/
structure ButAt (c : Nat) (w w' : World) : Prop where
  be : Below c w w'
  keep : ∀ k o, w.heap[k]? = some o → k ≠ c → w'.heap[k]? = some o
theorem ButAt.refl (c : Nat) (w : World) : ButAt c w w := ⟨Below.refl _ _, fun _ _ h _ => h⟩
theorem ButAt.trans {c : Nat} {w w1 w2 : World} (h : ButAt c w w1) (h' : ButAt c w1 w2) : ButAt c w w2 := ⟨h.be.trans h'.be, fun k o e ne => h'.keep k o (h.keep k o e ne) ne⟩
theorem ButAt.of_below {c : Nat} {w w' : World} (h : Below w.heap.size w w') (hc : c ≤ w.heap.size) : ButAt c w w' := ⟨h.mono hc, fun k o e _ => block_below e h⟩
theorem ButAt.set {c : Nat} (w : World) (i : Nat) (u : Value) : ButAt c w (w.setCell ⟨c, i, none⟩ u) := ⟨(Below.refl _ _).setCell (p := ⟨c, i, none⟩) (Nat.le_refl _) _, fun k o e ne => block_set_other e _ _ ne⟩
theorem word_x (s : ByteArray) (w : World) (hs : s.size ≤ maxLen) :
    Calls Tryz.prog 47 #[.string s, .string ⟨#[40, 41, 58, 44, 33]⟩] w fun e w' => e = .returned (.bool (wordX s)) ∧ w = w' := isWord_any s ⟨#[40, 41, 58, 44, 33]⟩ w hs
set_option maxRecDepth 100000 in
set_option maxHeartbeats 16000000 in
theorem readCall_any (s : ByteArray) (b : Nat) (m0 n0 f0' : ByteArray) (li ad : Int) (ow : Bool) (w : World) (hs : s.size ≤ 1000000) (hm : Mx w)
    (hb : w.heap[b]? = some (.cells #[.string m0, .string n0, .string f0', .int .i64 li, .int .i64 ad, .bool ow] 43 (0, 0))) :
    Calls Tryz.prog 45 #[.string s, .pointer (some ⟨b, 0, none⟩)] w fun e w' => e = .returned (.bool (callK s)) ∧ w'.heap[b]? = some (.cells #[.string (callM s), .string (callF s), .string f0', .int .i64 li, .int .i64 ad, .bool ow] 43 (0, 0)) ∧ ButAt b w w' := by
  have hcu := Cut_any s 33 w hs hm
  obtain ⟨z1, z2⟩ := cut_size s 33
  have HX := hide hb
  have hlt := lt_of_block hb
  clear hb hm
  cases hK : cutK s 33
  · have hMM : callM s = ⟨#[]⟩ := by unfold callM; rw [hK]; rfl
    have hFF : callF s = s := by unfold callF; rw [hK]; rfl
    rw [hMM, hFF]
    have HCU := hide (hK ▸ hcu)
    clear hcu
    have HKK := hide hK
    have HWF := hide (fun W => word_x (s) W (by unfold maxLen; omega))
    have HWM := hide (fun W => word_x ((⟨#[]⟩ : ByteArray)) W (by unfold maxLen; show 0 ≤ 9223372036854775807; omega))
    cases eF : emptyB (s)
    · have eF' : (s).toList.isEmpty = false := eF
      cases wF : wordX (s)
      · rw [wF] at HWF
        have E := hide (show callK s = false by rw [callK, hFF, eF, wF]; rfl)
        clear hK hMM hFF eF wF
        go_enter Tryz.func45, Tryz.ntmps45
        go_wp2_with (first | (go_at_call 53; refine HCU.out.mono ?_; rintro e w1 ⟨rfl, hw1⟩; have HB1 := hide hw1; have HX1 := hide (block_below HX.out hw1); have f0 := block_free HX1.out 0; have f1 := block_free HX1.out 1; have x0 := (block_cell HX1.out 0).trans rfl; have x1 := (block_cell HX1.out 1).trans rfl; clear hw1) | (go_at_call 47; ((with_reducible refine (HWF.out _).mono ?_); rintro e w2 ⟨rfl, rfl⟩; clear HWF)) | (go_at_call 47; ((with_reducible refine (HWM.out _).mono ?_); rintro e w2 ⟨rfl, rfl⟩; clear HWM)) | go_quiet (fail))
        have g1 := block_set HX1.out (i := 0) (.string (⟨#[]⟩ : ByteArray))
        have g2 := block_set g1 (i := 1) (.string s)
        go_ret
        exact ⟨by rw [E.out]; rfl, g2, ((ButAt.of_below HB1.out (by omega)).trans (ButAt.set _ 0 _)).trans (ButAt.set _ 1 _)⟩
      · rw [wF] at HWF
        have HWM := hide (fun W => wordX_nil ▸ HWM.out W)
        have E := hide (show callK s = true by rw [callK, hFF, hMM, eF, wF, wordX_nil, emptyB_nil, hK]; rfl)
        clear hK hMM hFF eF wF
        go_enter Tryz.func45, Tryz.ntmps45
        go_wp2_with (first | (go_at_call 53; refine HCU.out.mono ?_; rintro e w1 ⟨rfl, hw1⟩; have HB1 := hide hw1; have HX1 := hide (block_below HX.out hw1); have f0 := block_free HX1.out 0; have f1 := block_free HX1.out 1; have x0 := (block_cell HX1.out 0).trans rfl; have x1 := (block_cell HX1.out 1).trans rfl; clear hw1) | (go_at_call 47; ((with_reducible refine (HWF.out _).mono ?_); rintro e w2 ⟨rfl, rfl⟩; clear HWF)) | (go_at_call 47; ((with_reducible refine (HWM.out _).mono ?_); rintro e w2 ⟨rfl, rfl⟩; clear HWM)) | go_quiet (fail))
        have g1 := block_set HX1.out (i := 0) (.string (⟨#[]⟩ : ByteArray))
        have g2 := block_set g1 (i := 1) (.string s)
        go_ret
        exact ⟨by rw [E.out]; rfl, g2, ((ButAt.of_below HB1.out (by omega)).trans (ButAt.set _ 0 _)).trans (ButAt.set _ 1 _)⟩
    · have eF' : (s).toList.isEmpty = true := eF
      have E := hide (show callK s = false by rw [callK, hFF, eF]; rfl)
      clear hK hMM hFF eF
      go_enter Tryz.func45, Tryz.ntmps45
      go_wp2_with (first | (go_at_call 53; refine HCU.out.mono ?_; rintro e w1 ⟨rfl, hw1⟩; have HB1 := hide hw1; have HX1 := hide (block_below HX.out hw1); have f0 := block_free HX1.out 0; have f1 := block_free HX1.out 1; have x0 := (block_cell HX1.out 0).trans rfl; have x1 := (block_cell HX1.out 1).trans rfl; clear hw1) | (go_at_call 47; ((with_reducible refine (HWF.out _).mono ?_); rintro e w2 ⟨rfl, rfl⟩; clear HWF)) | (go_at_call 47; ((with_reducible refine (HWM.out _).mono ?_); rintro e w2 ⟨rfl, rfl⟩; clear HWM)) | go_quiet (fail))
      have g1 := block_set HX1.out (i := 0) (.string (⟨#[]⟩ : ByteArray))
      have g2 := block_set g1 (i := 1) (.string s)
      go_ret
      exact ⟨by rw [E.out]; rfl, g2, ((ButAt.of_below HB1.out (by omega)).trans (ButAt.set _ 0 _)).trans (ButAt.set _ 1 _)⟩
  · have hMM : callM s = cutL s 33 := by unfold callM; rw [hK]; rfl
    have hFF : callF s = cutR s 33 := by unfold callF; rw [hK]; rfl
    rw [hMM, hFF]
    have HCU := hide (hK ▸ hcu)
    clear hcu
    obtain ⟨L, hL⟩ : ∃ L, cutL s 33 = L := ⟨_, rfl⟩
    obtain ⟨R, hR⟩ : ∃ R, cutR s 33 = R := ⟨_, rfl⟩
    rw [hL] at z1 hMM
    rw [hR] at z2 hFF
    rw [hL, hR] at HCU
    rw [hL, hR]
    clear hL hR
    have HKK := hide hK
    have HWF := hide (fun W => word_x (R) W (by unfold maxLen; omega))
    have HWM := hide (fun W => word_x (L) W (by unfold maxLen; omega))
    cases eF : emptyB (R)
    · have eF' : (R).toList.isEmpty = false := eF
      cases wF : wordX (R)
      · rw [wF] at HWF
        have E := hide (show callK s = false by rw [callK, hFF, eF, wF]; rfl)
        clear hK hMM hFF eF wF
        go_enter Tryz.func45, Tryz.ntmps45
        go_wp2_with (first | (go_at_call 53; refine HCU.out.mono ?_; rintro e w1 ⟨rfl, hw1⟩; have HB1 := hide hw1; have HX1 := hide (block_below HX.out hw1); have f0 := block_free HX1.out 0; have f1 := block_free HX1.out 1; have x0 := (block_cell HX1.out 0).trans rfl; have x1 := (block_cell HX1.out 1).trans rfl; clear hw1) | (go_at_call 47; ((with_reducible refine (HWF.out _).mono ?_); rintro e w2 ⟨rfl, rfl⟩; clear HWF)) | (go_at_call 47; ((with_reducible refine (HWM.out _).mono ?_); rintro e w2 ⟨rfl, rfl⟩; clear HWM)) | go_quiet (fail))
        have g1 := block_set HX1.out (i := 0) (.string L)
        have g2 := block_set g1 (i := 1) (.string R)
        go_ret
        exact ⟨by rw [E.out]; rfl, g2, ((ButAt.of_below HB1.out (by omega)).trans (ButAt.set _ 0 _)).trans (ButAt.set _ 1 _)⟩
      · rw [wF] at HWF
        cases wM : wordX (L)
        · rw [wM] at HWM
          have E := hide (show callK s = false by rw [callK, hFF, hMM, eF, wF, wM]; rfl)
          clear hK hMM hFF eF wF wM
          go_enter Tryz.func45, Tryz.ntmps45
          go_wp2_with (first | (go_at_call 53; refine HCU.out.mono ?_; rintro e w1 ⟨rfl, hw1⟩; have HB1 := hide hw1; have HX1 := hide (block_below HX.out hw1); have f0 := block_free HX1.out 0; have f1 := block_free HX1.out 1; have x0 := (block_cell HX1.out 0).trans rfl; have x1 := (block_cell HX1.out 1).trans rfl; clear hw1) | (go_at_call 47; ((with_reducible refine (HWF.out _).mono ?_); rintro e w2 ⟨rfl, rfl⟩; clear HWF)) | (go_at_call 47; ((with_reducible refine (HWM.out _).mono ?_); rintro e w2 ⟨rfl, rfl⟩; clear HWM)) | go_quiet (fail))
          have g1 := block_set HX1.out (i := 0) (.string L)
          have g2 := block_set g1 (i := 1) (.string R)
          go_ret
          exact ⟨by rw [E.out]; rfl, g2, ((ButAt.of_below HB1.out (by omega)).trans (ButAt.set _ 0 _)).trans (ButAt.set _ 1 _)⟩
        · rw [wM] at HWM
          cases eM : emptyB (L)
          · have eM' : (L).toList.isEmpty = false := eM
            have E := hide (show callK s = true by rw [callK, hFF, hMM, eF, wF, wM, eM]; rfl)
            clear hK hMM hFF eF wF wM eM
            go_enter Tryz.func45, Tryz.ntmps45
            go_wp2_with (first | (go_at_call 53; refine HCU.out.mono ?_; rintro e w1 ⟨rfl, hw1⟩; have HB1 := hide hw1; have HX1 := hide (block_below HX.out hw1); have f0 := block_free HX1.out 0; have f1 := block_free HX1.out 1; have x0 := (block_cell HX1.out 0).trans rfl; have x1 := (block_cell HX1.out 1).trans rfl; clear hw1) | (go_at_call 47; ((with_reducible refine (HWF.out _).mono ?_); rintro e w2 ⟨rfl, rfl⟩; clear HWF)) | (go_at_call 47; ((with_reducible refine (HWM.out _).mono ?_); rintro e w2 ⟨rfl, rfl⟩; clear HWM)) | go_quiet (fail))
            have g1 := block_set HX1.out (i := 0) (.string L)
            have g2 := block_set g1 (i := 1) (.string R)
            go_ret
            exact ⟨by rw [E.out]; rfl, g2, ((ButAt.of_below HB1.out (by omega)).trans (ButAt.set _ 0 _)).trans (ButAt.set _ 1 _)⟩
          · have eM' : (L).toList.isEmpty = true := eM
            have E := hide (show callK s = false by rw [callK, hFF, hMM, eF, wF, wM, eM, hK]; rfl)
            clear hK hMM hFF eF wF wM eM
            go_enter Tryz.func45, Tryz.ntmps45
            go_wp2_with (first | (go_at_call 53; refine HCU.out.mono ?_; rintro e w1 ⟨rfl, hw1⟩; have HB1 := hide hw1; have HX1 := hide (block_below HX.out hw1); have f0 := block_free HX1.out 0; have f1 := block_free HX1.out 1; have x0 := (block_cell HX1.out 0).trans rfl; have x1 := (block_cell HX1.out 1).trans rfl; clear hw1) | (go_at_call 47; ((with_reducible refine (HWF.out _).mono ?_); rintro e w2 ⟨rfl, rfl⟩; clear HWF)) | (go_at_call 47; ((with_reducible refine (HWM.out _).mono ?_); rintro e w2 ⟨rfl, rfl⟩; clear HWM)) | go_quiet (fail))
            have g1 := block_set HX1.out (i := 0) (.string L)
            have g2 := block_set g1 (i := 1) (.string R)
            go_ret
            exact ⟨by rw [E.out]; rfl, g2, ((ButAt.of_below HB1.out (by omega)).trans (ButAt.set _ 0 _)).trans (ButAt.set _ 1 _)⟩
    · have eF' : (R).toList.isEmpty = true := eF
      have E := hide (show callK s = false by rw [callK, hFF, eF]; rfl)
      clear hK hMM hFF eF
      go_enter Tryz.func45, Tryz.ntmps45
      go_wp2_with (first | (go_at_call 53; refine HCU.out.mono ?_; rintro e w1 ⟨rfl, hw1⟩; have HB1 := hide hw1; have HX1 := hide (block_below HX.out hw1); have f0 := block_free HX1.out 0; have f1 := block_free HX1.out 1; have x0 := (block_cell HX1.out 0).trans rfl; have x1 := (block_cell HX1.out 1).trans rfl; clear hw1) | (go_at_call 47; ((with_reducible refine (HWF.out _).mono ?_); rintro e w2 ⟨rfl, rfl⟩; clear HWF)) | (go_at_call 47; ((with_reducible refine (HWM.out _).mono ?_); rintro e w2 ⟨rfl, rfl⟩; clear HWM)) | go_quiet (fail))
      have g1 := block_set HX1.out (i := 0) (.string L)
      have g2 := block_set g1 (i := 1) (.string R)
      go_ret
      exact ⟨by rw [E.out]; rfl, g2, ((ButAt.of_below HB1.out (by omega)).trans (ButAt.set _ 0 _)).trans (ButAt.set _ 1 _)⟩
end Go.Proofs.YtkjpojaanocfjaaGreatDoor
