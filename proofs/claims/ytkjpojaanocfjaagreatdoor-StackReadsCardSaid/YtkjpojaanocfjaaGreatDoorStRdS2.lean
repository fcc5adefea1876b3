/- Walk of frameOf, name B2 (printed by gen_so.py). -/
import Derived.Test.YtkjpojaanocfjaaGreatDoorStRdR
namespace Go.Proofs.YtkjpojaanocfjaaGreatDoor
open Go.RowKit
set_option linter.unusedVariables false
set_option linter.unusedSimpArgs false
set_option maxRecDepth 100000 in
set_option maxHeartbeats 64000000 in
theorem frameOf_B2 (n r : ByteArray) (hway : wayO r = 2) (w : World) (hs : n.size ≤ 1000000) (hr : r.size ≤ 1000000) (hm : Mx w) (hk : cutK n 33 = false) :
    Calls Tryz.prog 35 #[.string n, .string r] w fun e w' => FoOut (frO n r) e ∧ Below w.heap.size w w' := by
  have HF0 := hide (FoI.first (n := n) hm rfl)
  have HM := hide hm
  have hcu := Cut_any n 33 _ hs HF0.out.mx
  rw [hk] at hcu
  have HCU := hide hcu
  clear hcu
  have hcallM : callM n = (⟨#[]⟩ : ByteArray) := by unfold callM; rw [hk]; rfl
  have hcallF : callF n = n := by unfold callF; rw [hk]; rfl
  obtain ⟨z1, z2⟩ := cut_size n 33
  have hck : callK n = (!emptyB n && wordX n) := by unfold callK; rw [hcallM, hcallF, hk]; rw [wordX_nil]; cases emptyB n <;> cases wordX n <;> simp
  obtain ⟨R, hR⟩ : ∃ R, frO n r = R := ⟨_, rfl⟩
  rw [hR]
  unfold FoOut
  have zM : (⟨#[]⟩ : ByteArray).size ≤ 1000000 := Nat.zero_le _
  have zF : n.size ≤ 1000000 := hs
  have HWF := hide (fun W => word_m n W (by unfold maxLen; omega))
  cases wF : (!emptyB n && wordX n)
  · simp only [wF] at HWF hck
    have E := hide (show R = none by rw [← hR]; simp [frO, frR, hck, hcallM, hcallF])
    clear hR hway hk hck hcallM hcallF hm wF
    go_enter Tryz.func35, Tryz.ntmps35
    go_wp2_with (first | (go_at_call 53; (refine HCU.out.mono ?_; rintro e U0 ⟨rfl, hu0⟩); have HU := hide (HF0.out.below hu0); clear HCU; have xg := (block_cell HU.out.box 1).trans rfl; have x0 := (block_cell HU.out.box 0).trans rfl; have y0 := (block_cell HU.out.res 0).trans rfl; have f0 := block_free HU.out.res 0; have x1 := (block_cell HU.out.box 1).trans rfl; have y1 := (block_cell HU.out.res 1).trans rfl; have f1 := block_free HU.out.res 1; have x2 := (block_cell HU.out.box 2).trans rfl; have y2 := (block_cell HU.out.res 2).trans rfl; have f2 := block_free HU.out.res 2; have x3 := (block_cell HU.out.box 3).trans rfl; have y3 := (block_cell HU.out.res 3).trans rfl; have f3 := block_free HU.out.res 3; have x4 := (block_cell HU.out.box 4).trans rfl; have y4 := (block_cell HU.out.res 4).trans rfl; have f4 := block_free HU.out.res 4; have x5 := (block_cell HU.out.box 5).trans rfl; have y5 := (block_cell HU.out.res 5).trans rfl; have f5 := block_free HU.out.res 5) | (go_at_call 54; ((with_reducible refine (HWF.out _).mono ?_); rintro e wz ⟨rfl, rfl⟩; clear HWF)))
    obtain ⟨wf, hwf, b6, hbel⟩ := put6 HU.out.res (Value.string (⟨#[]⟩ : ByteArray)) (Value.string n) (Value.string (⟨#[]⟩ : ByteArray)) (Value.int .i64 0) (Value.int .i64 (-1)) (Value.bool false)
    rw [hwf]
    have r0 : wf.cell? ⟨w.heap.size, 0, none⟩ = some (.string (⟨#[]⟩ : ByteArray)) := (block_cell b6 0).trans rfl
    have r1 : wf.cell? ⟨w.heap.size, 1, none⟩ = some (.string n) := (block_cell b6 1).trans rfl
    have r2 : wf.cell? ⟨w.heap.size, 2, none⟩ = some (.string (⟨#[]⟩ : ByteArray)) := (block_cell b6 2).trans rfl
    have r3 : wf.cell? ⟨w.heap.size, 3, none⟩ = some (.int .i64 0) := (block_cell b6 3).trans rfl
    have r4 : wf.cell? ⟨w.heap.size, 4, none⟩ = some (.int .i64 (-1)) := (block_cell b6 4).trans rfl
    have r5 : wf.cell? ⟨w.heap.size, 5, none⟩ = some (.bool false) := (block_cell b6 5).trans rfl
    refine bodyPost_ret (by simp [results, Tryz.results35, go_sem, r0, r1, r2, r3, r4, r5]; try rfl) rfl ?_
    exact ⟨⟨(⟨#[]⟩ : ByteArray), n, (⟨#[]⟩ : ByteArray), 0, (-1), false, (by rw [E.out]; rfl), .inr E.out, zM, zF, Nat.zero_le _⟩, hbel _ _ HU.out.be (Nat.le_refl _)⟩
  · simp only [wF] at HWF hck
    cases eR : emptyB r
    · have eR' : r.toList.isEmpty = false := eR
      obtain ⟨y, q, hwy⟩ := wordsOf_cons r
      have hsz : ∀ x ∈ y :: q, x.size ≤ 1000000 := fun x hx => by have := wordsOf_le (hwy ▸ hx); omega
      have hsp := fun W (h : Mx W) => Split_any r W hr h
      simp only [hwy] at hsp
      have HSP := hide hsp
      clear hsp
      cases hP1 : preB y 40
      · skip
        exact absurd hway (by simp [wayO, hwy, eR, hP1])
      · have P1 := hide (fun W => show Calls Tryz.prog 34 #[.string y, .string ⟨#[40]⟩] W fun e w' => e = .returned (.bool true) ∧ w' = W from hP1 ▸ Tryz.strings_HasPrefix y ⟨#[40]⟩ W)
        have nP2 : preB y 64 = false := pre_other hP1 (by decide)
        have nst : ¬ y = ⟨#[42]⟩ := by rintro rfl; exact absurd hP1 (by decide)
        cases hP3 : sfxK y
        · skip
          have P3 := hide (fun W => show Calls Tryz.prog 58 #[.string y, .string ⟨#[41]⟩] W fun e w' => e = .returned (.bool false) ∧ w' = W from hP3 ▸ Tryz.strings_HasSuffix y ⟨#[41]⟩ W (by have := hsz y (by simp); omega))
          have hfK : fileK y = false := by
            by_cases h2 : y.size ≤ 2
            · exact fileK_short y h2
            · unfold fileK; rw [sfx_drop y (by omega), hP3]; rfl
          have hP2 := nP2
          have P2 := hide (fun W => show Calls Tryz.prog 34 #[.string y, .string ⟨#[64]⟩] W fun e w' => e = .returned (.bool false) ∧ w' = W from hP2 ▸ Tryz.strings_HasPrefix y ⟨#[64]⟩ W)
          obtain ⟨ne1, ne2⟩ := str_neS nst
          have hlen8 : ((q.length : Int) + 1 == 0) = false := by rw [beq_eq_false_iff_ne]; omega
          have E := hide (show R = none by rw [← hR]; simp [frO, frR, hck, hcallM, hcallF, eR, hwy, plR, pl2, pl3, hP1, hfK])
          clear hR hway hk hck hcallM hcallF hm wF eR hwy hP1 hP2 hP3 nP2 nst hfK
          go_enter Tryz.func35, Tryz.ntmps35
          go_wp2_with (first | (go_at_call 53; (refine HCU.out.mono ?_; rintro e U0 ⟨rfl, hu0⟩); have HU := hide (HF0.out.below hu0); clear HCU; have xg := (block_cell HU.out.box 1).trans rfl) | (go_at_call 54; ((with_reducible refine (HWF.out _).mono ?_); rintro e wz ⟨rfl, rfl⟩; clear HWF)) | (go_at_call 13; (refine (HSP.out _ HU.out.mx).mono ?_; rintro e V0 ⟨rfl, hv, hsl, _⟩); have HV0 := hide (FoI.words HU.out hv hsl); clear HSP hsl; have cy := head_o HV0.out; have x0 := (block_cell HV0.out.box 0).trans rfl; have y0 := (block_cell HV0.out.res 0).trans rfl; have f0 := block_free HV0.out.res 0; have x1 := (block_cell HV0.out.box 1).trans rfl; have y1 := (block_cell HV0.out.res 1).trans rfl; have f1 := block_free HV0.out.res 1; have x2 := (block_cell HV0.out.box 2).trans rfl; have y2 := (block_cell HV0.out.res 2).trans rfl; have f2 := block_free HV0.out.res 2; have x3 := (block_cell HV0.out.box 3).trans rfl; have y3 := (block_cell HV0.out.res 3).trans rfl; have f3 := block_free HV0.out.res 3; have x4 := (block_cell HV0.out.box 4).trans rfl; have y4 := (block_cell HV0.out.res 4).trans rfl; have f4 := block_free HV0.out.res 4; have x5 := (block_cell HV0.out.box 5).trans rfl; have y5 := (block_cell HV0.out.res 5).trans rfl; have f5 := block_free HV0.out.res 5) | (go_at_call 34; ((with_reducible refine (P1.out _).mono ?_); rintro e wz ⟨rfl, rfl⟩; clear P1)) | (go_at_call 58; ((with_reducible refine (P3.out _).mono ?_); rintro e wz ⟨rfl, rfl⟩; clear P3)) | (go_at_call 34; ((with_reducible refine (P2.out _).mono ?_); rintro e wz ⟨rfl, rfl⟩; clear P2)))
          obtain ⟨wf, hwf, b6, hbel⟩ := put6 HV0.out.res (Value.string (⟨#[]⟩ : ByteArray)) (Value.string n) (Value.string (⟨#[]⟩ : ByteArray)) (Value.int .i64 0) (Value.int .i64 (-1)) (Value.bool false)
          rw [hwf]
          have r0 : wf.cell? ⟨w.heap.size, 0, none⟩ = some (.string (⟨#[]⟩ : ByteArray)) := (block_cell b6 0).trans rfl
          have r1 : wf.cell? ⟨w.heap.size, 1, none⟩ = some (.string n) := (block_cell b6 1).trans rfl
          have r2 : wf.cell? ⟨w.heap.size, 2, none⟩ = some (.string (⟨#[]⟩ : ByteArray)) := (block_cell b6 2).trans rfl
          have r3 : wf.cell? ⟨w.heap.size, 3, none⟩ = some (.int .i64 0) := (block_cell b6 3).trans rfl
          have r4 : wf.cell? ⟨w.heap.size, 4, none⟩ = some (.int .i64 (-1)) := (block_cell b6 4).trans rfl
          have r5 : wf.cell? ⟨w.heap.size, 5, none⟩ = some (.bool false) := (block_cell b6 5).trans rfl
          refine bodyPost_ret (by simp [results, Tryz.results35, go_sem, r0, r1, r2, r3, r4, r5]; try rfl) rfl ?_
          exact ⟨⟨(⟨#[]⟩ : ByteArray), n, (⟨#[]⟩ : ByteArray), 0, (-1), false, (by rw [E.out]; rfl), .inr E.out, zM, zF, Nat.zero_le _⟩, hbel _ _ HV0.out.be (Nat.le_refl _)⟩
        · have P3 := hide (fun W => show Calls Tryz.prog 58 #[.string y, .string ⟨#[41]⟩] W fun e w' => e = .returned (.bool true) ∧ w' = W from hP3 ▸ Tryz.strings_HasSuffix y ⟨#[41]⟩ W (by have := hsz y (by simp); omega))
          by_cases hl2 : y.size ≤ 2
          · skip
            have hfK : fileK y = false := fileK_short y hl2
            have hl3 : ¬ (2 : Int) < (y.size : Int) := by omega
            have hl4 : (y.size : Int) ≤ 2 := by omega
            have hP2 := nP2
            have P2 := hide (fun W => show Calls Tryz.prog 34 #[.string y, .string ⟨#[64]⟩] W fun e w' => e = .returned (.bool false) ∧ w' = W from hP2 ▸ Tryz.strings_HasPrefix y ⟨#[64]⟩ W)
            obtain ⟨ne1, ne2⟩ := str_neS nst
            have hlen8 : ((q.length : Int) + 1 == 0) = false := by rw [beq_eq_false_iff_ne]; omega
            have E := hide (show R = none by rw [← hR]; simp [frO, frR, hck, hcallM, hcallF, eR, hwy, plR, pl2, pl3, hP1, hfK])
            clear hR hway hk hck hcallM hcallF hm wF eR hwy hP1 hP2 hP3 nP2 nst hfK
            go_enter Tryz.func35, Tryz.ntmps35
            go_wp2_with (first | (go_at_call 53; (refine HCU.out.mono ?_; rintro e U0 ⟨rfl, hu0⟩); have HU := hide (HF0.out.below hu0); clear HCU; have xg := (block_cell HU.out.box 1).trans rfl) | (go_at_call 54; ((with_reducible refine (HWF.out _).mono ?_); rintro e wz ⟨rfl, rfl⟩; clear HWF)) | (go_at_call 13; (refine (HSP.out _ HU.out.mx).mono ?_; rintro e V0 ⟨rfl, hv, hsl, _⟩); have HV0 := hide (FoI.words HU.out hv hsl); clear HSP hsl; have cy := head_o HV0.out; have x0 := (block_cell HV0.out.box 0).trans rfl; have y0 := (block_cell HV0.out.res 0).trans rfl; have f0 := block_free HV0.out.res 0; have x1 := (block_cell HV0.out.box 1).trans rfl; have y1 := (block_cell HV0.out.res 1).trans rfl; have f1 := block_free HV0.out.res 1; have x2 := (block_cell HV0.out.box 2).trans rfl; have y2 := (block_cell HV0.out.res 2).trans rfl; have f2 := block_free HV0.out.res 2; have x3 := (block_cell HV0.out.box 3).trans rfl; have y3 := (block_cell HV0.out.res 3).trans rfl; have f3 := block_free HV0.out.res 3; have x4 := (block_cell HV0.out.box 4).trans rfl; have y4 := (block_cell HV0.out.res 4).trans rfl; have f4 := block_free HV0.out.res 4; have x5 := (block_cell HV0.out.box 5).trans rfl; have y5 := (block_cell HV0.out.res 5).trans rfl; have f5 := block_free HV0.out.res 5) | (go_at_call 34; ((with_reducible refine (P1.out _).mono ?_); rintro e wz ⟨rfl, rfl⟩; clear P1)) | (go_at_call 58; ((with_reducible refine (P3.out _).mono ?_); rintro e wz ⟨rfl, rfl⟩; clear P3)) | (go_at_call 34; ((with_reducible refine (P2.out _).mono ?_); rintro e wz ⟨rfl, rfl⟩; clear P2)))
            obtain ⟨wf, hwf, b6, hbel⟩ := put6 HV0.out.res (Value.string (⟨#[]⟩ : ByteArray)) (Value.string n) (Value.string (⟨#[]⟩ : ByteArray)) (Value.int .i64 0) (Value.int .i64 (-1)) (Value.bool false)
            rw [hwf]
            have r0 : wf.cell? ⟨w.heap.size, 0, none⟩ = some (.string (⟨#[]⟩ : ByteArray)) := (block_cell b6 0).trans rfl
            have r1 : wf.cell? ⟨w.heap.size, 1, none⟩ = some (.string n) := (block_cell b6 1).trans rfl
            have r2 : wf.cell? ⟨w.heap.size, 2, none⟩ = some (.string (⟨#[]⟩ : ByteArray)) := (block_cell b6 2).trans rfl
            have r3 : wf.cell? ⟨w.heap.size, 3, none⟩ = some (.int .i64 0) := (block_cell b6 3).trans rfl
            have r4 : wf.cell? ⟨w.heap.size, 4, none⟩ = some (.int .i64 (-1)) := (block_cell b6 4).trans rfl
            have r5 : wf.cell? ⟨w.heap.size, 5, none⟩ = some (.bool false) := (block_cell b6 5).trans rfl
            refine bodyPost_ret (by simp [results, Tryz.results35, go_sem, r0, r1, r2, r3, r4, r5]; try rfl) rfl ?_
            exact ⟨⟨(⟨#[]⟩ : ByteArray), n, (⟨#[]⟩ : ByteArray), 0, (-1), false, (by rw [E.out]; rfl), .inr E.out, zM, zF, Nat.zero_le _⟩, hbel _ _ HV0.out.be (Nat.le_refl _)⟩
          · have hl3 : (2 : Int) < (y.size : Int) := by omega
            have hl4 : ¬ (y.size : Int) ≤ 2 := by omega
            have hyz := hsz y (by simp)
            have hmid := sfxS_mid y (by omega) hP3
            have hrk := (sfx_drop y (by omega)).trans hP3
            obtain ⟨D, hD⟩ : ∃ D, cutL (sfxS (restB y)) 58 = D := ⟨_, rfl⟩
            obtain ⟨C, hC⟩ : ∃ C, cutR (sfxS (restB y)) 58 = C := ⟨_, rfl⟩
            have zz := cut_size (sfxS (restB y)) 58
            have zy := sfxS_size (restB y)
            have zr := restB_size y
            rw [hD, hC] at zz
            obtain ⟨zD', zC'⟩ := zz
            have zD : D.size ≤ 1000000 := by omega
            have zC : C.size ≤ 1000000 := by omega
            have hc2 := fun W (h : Mx W) => Cut_any (sfxS (restB y)) 58 W (by omega) h
            have HWW := hide (fun W => word_f D W (by unfold maxLen; omega))
            have hfF : fileF y = D := hD
            rw [hD, hC] at hc2
            cases hck2 : cutK (sfxS (restB y)) 58
            · skip
              rw [hck2, hmid] at hc2
              have HC2 := hide hc2
              clear hc2
              cases wW : (!emptyB D && wordB D)
              · simp only [wW] at HWW
                have hfK : fileK y = false := by rw [fileK_eq, hrk, hD, wW]; rfl
                have E := hide (show R = none by rw [← hR]; simp [frO, frR, hck, hcallM, hcallF, eR, hwy, plR, pl2, pl3, hP1, hfK])
                clear hR hway hk hck hcallM hcallF hm wF eR hwy hP1 hP3 nP2 nst hfF hmid hrk hD hC hck2 hfK wW
                go_enter Tryz.func35, Tryz.ntmps35
                go_wp2_with (first | (go_at_call 53; (refine HCU.out.mono ?_; rintro e U0 ⟨rfl, hu0⟩); have HU := hide (HF0.out.below hu0); clear HCU; have xg := (block_cell HU.out.box 1).trans rfl) | (go_at_call 54; ((with_reducible refine (HWF.out _).mono ?_); rintro e wz ⟨rfl, rfl⟩; clear HWF)) | (go_at_call 13; (refine (HSP.out _ HU.out.mx).mono ?_; rintro e V0 ⟨rfl, hv, hsl, _⟩); have HV0 := hide (FoI.words HU.out hv hsl); clear HSP hsl; have cy := head_o HV0.out) | (go_at_call 34; ((with_reducible refine (P1.out _).mono ?_); rintro e wz ⟨rfl, rfl⟩; clear P1)) | (go_at_call 58; ((with_reducible refine (P3.out _).mono ?_); rintro e wz ⟨rfl, rfl⟩; clear P3)) | (go_at_call 53; (refine (HC2.out _ HV0.out.mx).mono ?_; rintro e Va ⟨rfl, hva⟩); have HVa := hide (HV0.out.below hva); clear HC2; have fb2 := block_free HVa.out.box 2; have xb2 := (block_cell HVa.out.box 2).trans rfl; have HVb := hide (HVa.out.set HM.out 2 (.string D) (M' := (⟨#[]⟩ : ByteArray)) (F' := n) (f' := D) (l' := 0) (a' := (-1)) (o' := false) rfl); obtain ⟨Vb, hVb⟩ : ∃ Vb, Va.setCell ⟨w.heap.size + 1, 2, none⟩ (.string D) = Vb := ⟨_, rfl⟩; rw [hVb] at HVb; have x0 := (block_cell HVb.out.box 0).trans rfl; have y0 := (block_cell HVb.out.res 0).trans rfl; have f0 := block_free HVb.out.res 0; have x1 := (block_cell HVb.out.box 1).trans rfl; have y1 := (block_cell HVb.out.res 1).trans rfl; have f1 := block_free HVb.out.res 1; have x2 := (block_cell HVb.out.box 2).trans rfl; have y2 := (block_cell HVb.out.res 2).trans rfl; have f2 := block_free HVb.out.res 2; have x3 := (block_cell HVb.out.box 3).trans rfl; have y3 := (block_cell HVb.out.res 3).trans rfl; have f3 := block_free HVb.out.res 3; have x4 := (block_cell HVb.out.box 4).trans rfl; have y4 := (block_cell HVb.out.res 4).trans rfl; have f4 := block_free HVb.out.res 4; have x5 := (block_cell HVb.out.box 5).trans rfl; have y5 := (block_cell HVb.out.res 5).trans rfl; have f5 := block_free HVb.out.res 5) | (go_at_call 54; ((with_reducible refine (HWW.out _).mono ?_); rintro e wz ⟨rfl, rfl⟩; clear HWW)))
                obtain ⟨wf, hwf, b6, hbel⟩ := put6 HVb.out.res (Value.string (⟨#[]⟩ : ByteArray)) (Value.string n) (Value.string D) (Value.int .i64 0) (Value.int .i64 (-1)) (Value.bool false)
                rw [hwf]
                have r0 : wf.cell? ⟨w.heap.size, 0, none⟩ = some (.string (⟨#[]⟩ : ByteArray)) := (block_cell b6 0).trans rfl
                have r1 : wf.cell? ⟨w.heap.size, 1, none⟩ = some (.string n) := (block_cell b6 1).trans rfl
                have r2 : wf.cell? ⟨w.heap.size, 2, none⟩ = some (.string D) := (block_cell b6 2).trans rfl
                have r3 : wf.cell? ⟨w.heap.size, 3, none⟩ = some (.int .i64 0) := (block_cell b6 3).trans rfl
                have r4 : wf.cell? ⟨w.heap.size, 4, none⟩ = some (.int .i64 (-1)) := (block_cell b6 4).trans rfl
                have r5 : wf.cell? ⟨w.heap.size, 5, none⟩ = some (.bool false) := (block_cell b6 5).trans rfl
                refine bodyPost_ret (by simp [results, Tryz.results35, go_sem, r0, r1, r2, r3, r4, r5]; try rfl) rfl ?_
                exact ⟨⟨(⟨#[]⟩ : ByteArray), n, D, 0, (-1), false, (by rw [E.out]; rfl), .inr E.out, zM, zF, zD⟩, hbel _ _ HVb.out.be (Nat.le_refl _)⟩
              · simp only [wW] at HWW
                have hfK : fileK y = true := by rw [fileK_eq, hrk, hD, hck2, wW]; rfl
                have hfL : fileL y = 0 := by unfold fileL; rw [hck2]; rfl
                cases q with
                | nil =>
                  have E := hide (show R = some ((⟨#[]⟩ : ByteArray), n, D, 0, (-1), false) by rw [← hR]; simp [frO, frR, hck, hcallM, hcallF, eR, hwy, plR, pl2, pl3, hP1, hfK, hfF, hfL])
                  clear hR hway hk hck hcallM hcallF hm wF eR hwy hP1 hP3 nP2 nst hfF hmid hrk hD hC hck2 hfK hfL wW
                  go_enter Tryz.func35, Tryz.ntmps35
                  go_wp2_with (first | (go_at_call 53; (refine HCU.out.mono ?_; rintro e U0 ⟨rfl, hu0⟩); have HU := hide (HF0.out.below hu0); clear HCU; have xg := (block_cell HU.out.box 1).trans rfl) | (go_at_call 54; ((with_reducible refine (HWF.out _).mono ?_); rintro e wz ⟨rfl, rfl⟩; clear HWF)) | (go_at_call 13; (refine (HSP.out _ HU.out.mx).mono ?_; rintro e V0 ⟨rfl, hv, hsl, _⟩); have HV0 := hide (FoI.words HU.out hv hsl); clear HSP hsl; have cy := head_o HV0.out) | (go_at_call 34; ((with_reducible refine (P1.out _).mono ?_); rintro e wz ⟨rfl, rfl⟩; clear P1)) | (go_at_call 58; ((with_reducible refine (P3.out _).mono ?_); rintro e wz ⟨rfl, rfl⟩; clear P3)) | (go_at_call 53; (refine (HC2.out _ HV0.out.mx).mono ?_; rintro e Va ⟨rfl, hva⟩); have HVa := hide (HV0.out.below hva); clear HC2; have fb2 := block_free HVa.out.box 2; have xb2 := (block_cell HVa.out.box 2).trans rfl; have HVb := hide (HVa.out.set HM.out 2 (.string D) (M' := (⟨#[]⟩ : ByteArray)) (F' := n) (f' := D) (l' := 0) (a' := (-1)) (o' := false) rfl); obtain ⟨Vb, hVb⟩ : ∃ Vb, Va.setCell ⟨w.heap.size + 1, 2, none⟩ (.string D) = Vb := ⟨_, rfl⟩; rw [hVb] at HVb; have HVz := hide HVb.out.drop; have x0 := (block_cell HVz.out.box 0).trans rfl; have y0 := (block_cell HVz.out.res 0).trans rfl; have f0 := block_free HVz.out.res 0; have x1 := (block_cell HVz.out.box 1).trans rfl; have y1 := (block_cell HVz.out.res 1).trans rfl; have f1 := block_free HVz.out.res 1; have x2 := (block_cell HVz.out.box 2).trans rfl; have y2 := (block_cell HVz.out.res 2).trans rfl; have f2 := block_free HVz.out.res 2; have x3 := (block_cell HVz.out.box 3).trans rfl; have y3 := (block_cell HVz.out.res 3).trans rfl; have f3 := block_free HVz.out.res 3; have x4 := (block_cell HVz.out.box 4).trans rfl; have y4 := (block_cell HVz.out.res 4).trans rfl; have f4 := block_free HVz.out.res 4; have x5 := (block_cell HVz.out.box 5).trans rfl; have y5 := (block_cell HVz.out.res 5).trans rfl; have f5 := block_free HVz.out.res 5) | (go_at_call 54; ((with_reducible refine (HWW.out _).mono ?_); rintro e wz ⟨rfl, rfl⟩; clear HWW)))
                  obtain ⟨wf, hwf, b6, hbel⟩ := put6 HVz.out.res (Value.string (⟨#[]⟩ : ByteArray)) (Value.string n) (Value.string D) (Value.int .i64 0) (Value.int .i64 (-1)) (Value.bool false)
                  rw [hwf]
                  have r0 : wf.cell? ⟨w.heap.size, 0, none⟩ = some (.string (⟨#[]⟩ : ByteArray)) := (block_cell b6 0).trans rfl
                  have r1 : wf.cell? ⟨w.heap.size, 1, none⟩ = some (.string n) := (block_cell b6 1).trans rfl
                  have r2 : wf.cell? ⟨w.heap.size, 2, none⟩ = some (.string D) := (block_cell b6 2).trans rfl
                  have r3 : wf.cell? ⟨w.heap.size, 3, none⟩ = some (.int .i64 0) := (block_cell b6 3).trans rfl
                  have r4 : wf.cell? ⟨w.heap.size, 4, none⟩ = some (.int .i64 (-1)) := (block_cell b6 4).trans rfl
                  have r5 : wf.cell? ⟨w.heap.size, 5, none⟩ = some (.bool false) := (block_cell b6 5).trans rfl
                  refine bodyPost_ret (by simp [results, Tryz.results35, go_sem, r0, r1, r2, r3, r4, r5]; try rfl) rfl ?_
                  exact ⟨⟨(⟨#[]⟩ : ByteArray), n, D, 0, (-1), false, (by rw [E.out]; rfl), .inl E.out, zM, zF, zD⟩, hbel _ _ HVz.out.be (Nat.le_refl _)⟩
                | cons z p =>
                  cases hP2 : preB z 64
                  · have P2 := hide (fun W => show Calls Tryz.prog 34 #[.string z, .string ⟨#[64]⟩] W fun e w' => e = .returned (.bool false) ∧ w' = W from hP2 ▸ Tryz.strings_HasPrefix z ⟨#[64]⟩ W)
                    by_cases hst : z = ⟨#[42]⟩
                    · subst hst
                      cases p with
                      | nil =>
                        have E := hide (show R = some ((⟨#[]⟩ : ByteArray), n, D, 0, (-1), true) by rw [← hR]; simp [frO, frR, hck, hcallM, hcallF, eR, hwy, plR, pl2, pl3, hP1, hfK, hfF, hfL, hP2])
                        clear hR hway hk hck hcallM hcallF hm wF eR hwy hP1 hP3 nP2 nst hfF hmid hrk hD hC hck2 hfK hfL wW hP2
                        go_enter Tryz.func35, Tryz.ntmps35
                        go_wp2_with (first | (go_at_call 53; (refine HCU.out.mono ?_; rintro e U0 ⟨rfl, hu0⟩); have HU := hide (HF0.out.below hu0); clear HCU; have xg := (block_cell HU.out.box 1).trans rfl) | (go_at_call 54; ((with_reducible refine (HWF.out _).mono ?_); rintro e wz ⟨rfl, rfl⟩; clear HWF)) | (go_at_call 13; (refine (HSP.out _ HU.out.mx).mono ?_; rintro e V0 ⟨rfl, hv, hsl, _⟩); have HV0 := hide (FoI.words HU.out hv hsl); clear HSP hsl; have cy := head_o HV0.out) | (go_at_call 34; ((with_reducible refine (P1.out _).mono ?_); rintro e wz ⟨rfl, rfl⟩; clear P1)) | (go_at_call 58; ((with_reducible refine (P3.out _).mono ?_); rintro e wz ⟨rfl, rfl⟩; clear P3)) | (go_at_call 53; (refine (HC2.out _ HV0.out.mx).mono ?_; rintro e Va ⟨rfl, hva⟩); have HVa := hide (HV0.out.below hva); clear HC2; have fb2 := block_free HVa.out.box 2; have xb2 := (block_cell HVa.out.box 2).trans rfl; have HVb := hide (HVa.out.set HM.out 2 (.string D) (M' := (⟨#[]⟩ : ByteArray)) (F' := n) (f' := D) (l' := 0) (a' := (-1)) (o' := false) rfl); obtain ⟨Vb, hVb⟩ : ∃ Vb, Va.setCell ⟨w.heap.size + 1, 2, none⟩ (.string D) = Vb := ⟨_, rfl⟩; rw [hVb] at HVb; have HVz := hide HVb.out.drop; have cz := head_o HVz.out; have fb5 := block_free HVz.out.box 5; have xb5 := (block_cell HVz.out.box 5).trans rfl; have HVzs := hide (HVz.out.set HM.out 5 (.bool true) (M' := (⟨#[]⟩ : ByteArray)) (F' := n) (f' := D) (l' := 0) (a' := (-1)) (o' := true) rfl); obtain ⟨Vbs, hVbs⟩ : ∃ Vbs, Vb.setCell ⟨w.heap.size + 1, 5, none⟩ (.bool true) = Vbs := ⟨_, rfl⟩; rw [hVbs] at HVzs; have x0 := (block_cell HVzs.out.box 0).trans rfl; have y0 := (block_cell HVzs.out.res 0).trans rfl; have f0 := block_free HVzs.out.res 0; have x1 := (block_cell HVzs.out.box 1).trans rfl; have y1 := (block_cell HVzs.out.res 1).trans rfl; have f1 := block_free HVzs.out.res 1; have x2 := (block_cell HVzs.out.box 2).trans rfl; have y2 := (block_cell HVzs.out.res 2).trans rfl; have f2 := block_free HVzs.out.res 2; have x3 := (block_cell HVzs.out.box 3).trans rfl; have y3 := (block_cell HVzs.out.res 3).trans rfl; have f3 := block_free HVzs.out.res 3; have x4 := (block_cell HVzs.out.box 4).trans rfl; have y4 := (block_cell HVzs.out.res 4).trans rfl; have f4 := block_free HVzs.out.res 4; have x5 := (block_cell HVzs.out.box 5).trans rfl; have y5 := (block_cell HVzs.out.res 5).trans rfl; have f5 := block_free HVzs.out.res 5) | (go_at_call 54; ((with_reducible refine (HWW.out _).mono ?_); rintro e wz ⟨rfl, rfl⟩; clear HWW)) | (go_at_call 34; ((with_reducible refine (P2.out _).mono ?_); rintro e wz ⟨rfl, rfl⟩; clear P2)))
                        obtain ⟨wf, hwf, b6, hbel⟩ := put6 HVzs.out.res (Value.string (⟨#[]⟩ : ByteArray)) (Value.string n) (Value.string D) (Value.int .i64 0) (Value.int .i64 (-1)) (Value.bool true)
                        rw [hwf]
                        have r0 : wf.cell? ⟨w.heap.size, 0, none⟩ = some (.string (⟨#[]⟩ : ByteArray)) := (block_cell b6 0).trans rfl
                        have r1 : wf.cell? ⟨w.heap.size, 1, none⟩ = some (.string n) := (block_cell b6 1).trans rfl
                        have r2 : wf.cell? ⟨w.heap.size, 2, none⟩ = some (.string D) := (block_cell b6 2).trans rfl
                        have r3 : wf.cell? ⟨w.heap.size, 3, none⟩ = some (.int .i64 0) := (block_cell b6 3).trans rfl
                        have r4 : wf.cell? ⟨w.heap.size, 4, none⟩ = some (.int .i64 (-1)) := (block_cell b6 4).trans rfl
                        have r5 : wf.cell? ⟨w.heap.size, 5, none⟩ = some (.bool true) := (block_cell b6 5).trans rfl
                        refine bodyPost_ret (by simp [results, Tryz.results35, go_sem, r0, r1, r2, r3, r4, r5]; try rfl) rfl ?_
                        exact ⟨⟨(⟨#[]⟩ : ByteArray), n, D, 0, (-1), true, (by rw [E.out]; rfl), .inl E.out, zM, zF, zD⟩, hbel _ _ HVzs.out.be (Nat.le_refl _)⟩
                      | cons c1 cs1 =>
                        have hlen9 : ((cs1.length : Int) + 1 == 0) = false := by rw [beq_eq_false_iff_ne]; omega
                        have E := hide (show R = none by rw [← hR]; simp [frO, frR, hck, hcallM, hcallF, eR, hwy, plR, pl2, pl3, hP1, hfK, hfF, hfL, hP2])
                        clear hR hway hk hck hcallM hcallF hm wF eR hwy hP1 hP3 nP2 nst hfF hmid hrk hD hC hck2 hfK hfL wW hP2
                        go_enter Tryz.func35, Tryz.ntmps35
                        go_wp2_with (first | (go_at_call 53; (refine HCU.out.mono ?_; rintro e U0 ⟨rfl, hu0⟩); have HU := hide (HF0.out.below hu0); clear HCU; have xg := (block_cell HU.out.box 1).trans rfl) | (go_at_call 54; ((with_reducible refine (HWF.out _).mono ?_); rintro e wz ⟨rfl, rfl⟩; clear HWF)) | (go_at_call 13; (refine (HSP.out _ HU.out.mx).mono ?_; rintro e V0 ⟨rfl, hv, hsl, _⟩); have HV0 := hide (FoI.words HU.out hv hsl); clear HSP hsl; have cy := head_o HV0.out) | (go_at_call 34; ((with_reducible refine (P1.out _).mono ?_); rintro e wz ⟨rfl, rfl⟩; clear P1)) | (go_at_call 58; ((with_reducible refine (P3.out _).mono ?_); rintro e wz ⟨rfl, rfl⟩; clear P3)) | (go_at_call 53; (refine (HC2.out _ HV0.out.mx).mono ?_; rintro e Va ⟨rfl, hva⟩); have HVa := hide (HV0.out.below hva); clear HC2; have fb2 := block_free HVa.out.box 2; have xb2 := (block_cell HVa.out.box 2).trans rfl; have HVb := hide (HVa.out.set HM.out 2 (.string D) (M' := (⟨#[]⟩ : ByteArray)) (F' := n) (f' := D) (l' := 0) (a' := (-1)) (o' := false) rfl); obtain ⟨Vb, hVb⟩ : ∃ Vb, Va.setCell ⟨w.heap.size + 1, 2, none⟩ (.string D) = Vb := ⟨_, rfl⟩; rw [hVb] at HVb; have HVz := hide HVb.out.drop; have cz := head_o HVz.out; have fb5 := block_free HVz.out.box 5; have xb5 := (block_cell HVz.out.box 5).trans rfl; have HVzs := hide (HVz.out.set HM.out 5 (.bool true) (M' := (⟨#[]⟩ : ByteArray)) (F' := n) (f' := D) (l' := 0) (a' := (-1)) (o' := true) rfl); obtain ⟨Vbs, hVbs⟩ : ∃ Vbs, Vb.setCell ⟨w.heap.size + 1, 5, none⟩ (.bool true) = Vbs := ⟨_, rfl⟩; rw [hVbs] at HVzs; have x0 := (block_cell HVzs.out.box 0).trans rfl; have y0 := (block_cell HVzs.out.res 0).trans rfl; have f0 := block_free HVzs.out.res 0; have x1 := (block_cell HVzs.out.box 1).trans rfl; have y1 := (block_cell HVzs.out.res 1).trans rfl; have f1 := block_free HVzs.out.res 1; have x2 := (block_cell HVzs.out.box 2).trans rfl; have y2 := (block_cell HVzs.out.res 2).trans rfl; have f2 := block_free HVzs.out.res 2; have x3 := (block_cell HVzs.out.box 3).trans rfl; have y3 := (block_cell HVzs.out.res 3).trans rfl; have f3 := block_free HVzs.out.res 3; have x4 := (block_cell HVzs.out.box 4).trans rfl; have y4 := (block_cell HVzs.out.res 4).trans rfl; have f4 := block_free HVzs.out.res 4; have x5 := (block_cell HVzs.out.box 5).trans rfl; have y5 := (block_cell HVzs.out.res 5).trans rfl; have f5 := block_free HVzs.out.res 5) | (go_at_call 54; ((with_reducible refine (HWW.out _).mono ?_); rintro e wz ⟨rfl, rfl⟩; clear HWW)) | (go_at_call 34; ((with_reducible refine (P2.out _).mono ?_); rintro e wz ⟨rfl, rfl⟩; clear P2)))
                        obtain ⟨wf, hwf, b6, hbel⟩ := put6 HVzs.out.res (Value.string (⟨#[]⟩ : ByteArray)) (Value.string n) (Value.string D) (Value.int .i64 0) (Value.int .i64 (-1)) (Value.bool true)
                        rw [hwf]
                        have r0 : wf.cell? ⟨w.heap.size, 0, none⟩ = some (.string (⟨#[]⟩ : ByteArray)) := (block_cell b6 0).trans rfl
                        have r1 : wf.cell? ⟨w.heap.size, 1, none⟩ = some (.string n) := (block_cell b6 1).trans rfl
                        have r2 : wf.cell? ⟨w.heap.size, 2, none⟩ = some (.string D) := (block_cell b6 2).trans rfl
                        have r3 : wf.cell? ⟨w.heap.size, 3, none⟩ = some (.int .i64 0) := (block_cell b6 3).trans rfl
                        have r4 : wf.cell? ⟨w.heap.size, 4, none⟩ = some (.int .i64 (-1)) := (block_cell b6 4).trans rfl
                        have r5 : wf.cell? ⟨w.heap.size, 5, none⟩ = some (.bool true) := (block_cell b6 5).trans rfl
                        refine bodyPost_ret (by simp [results, Tryz.results35, go_sem, r0, r1, r2, r3, r4, r5]; try rfl) rfl ?_
                        exact ⟨⟨(⟨#[]⟩ : ByteArray), n, D, 0, (-1), true, (by rw [E.out]; rfl), .inr E.out, zM, zF, zD⟩, hbel _ _ HVzs.out.be (Nat.le_refl _)⟩
                    · obtain ⟨ne1, ne2⟩ := str_neS hst
                      have hlen8 : ((p.length : Int) + 1 == 0) = false := by rw [beq_eq_false_iff_ne]; omega
                      have E := hide (show R = none by rw [← hR]; simp [frO, frR, hck, hcallM, hcallF, eR, hwy, plR, pl2, pl3, hP1, hfK, hfF, hfL, hP2, hst])
                      clear hR hway hk hck hcallM hcallF hm wF eR hwy hP1 hP3 nP2 nst hfF hmid hrk hD hC hck2 hfK hfL wW hP2 hst
                      go_enter Tryz.func35, Tryz.ntmps35
                      go_wp2_with (first | (go_at_call 53; (refine HCU.out.mono ?_; rintro e U0 ⟨rfl, hu0⟩); have HU := hide (HF0.out.below hu0); clear HCU; have xg := (block_cell HU.out.box 1).trans rfl) | (go_at_call 54; ((with_reducible refine (HWF.out _).mono ?_); rintro e wz ⟨rfl, rfl⟩; clear HWF)) | (go_at_call 13; (refine (HSP.out _ HU.out.mx).mono ?_; rintro e V0 ⟨rfl, hv, hsl, _⟩); have HV0 := hide (FoI.words HU.out hv hsl); clear HSP hsl; have cy := head_o HV0.out) | (go_at_call 34; ((with_reducible refine (P1.out _).mono ?_); rintro e wz ⟨rfl, rfl⟩; clear P1)) | (go_at_call 58; ((with_reducible refine (P3.out _).mono ?_); rintro e wz ⟨rfl, rfl⟩; clear P3)) | (go_at_call 53; (refine (HC2.out _ HV0.out.mx).mono ?_; rintro e Va ⟨rfl, hva⟩); have HVa := hide (HV0.out.below hva); clear HC2; have fb2 := block_free HVa.out.box 2; have xb2 := (block_cell HVa.out.box 2).trans rfl; have HVb := hide (HVa.out.set HM.out 2 (.string D) (M' := (⟨#[]⟩ : ByteArray)) (F' := n) (f' := D) (l' := 0) (a' := (-1)) (o' := false) rfl); obtain ⟨Vb, hVb⟩ : ∃ Vb, Va.setCell ⟨w.heap.size + 1, 2, none⟩ (.string D) = Vb := ⟨_, rfl⟩; rw [hVb] at HVb; have HVz := hide HVb.out.drop; have cz := head_o HVz.out; have x0 := (block_cell HVz.out.box 0).trans rfl; have y0 := (block_cell HVz.out.res 0).trans rfl; have f0 := block_free HVz.out.res 0; have x1 := (block_cell HVz.out.box 1).trans rfl; have y1 := (block_cell HVz.out.res 1).trans rfl; have f1 := block_free HVz.out.res 1; have x2 := (block_cell HVz.out.box 2).trans rfl; have y2 := (block_cell HVz.out.res 2).trans rfl; have f2 := block_free HVz.out.res 2; have x3 := (block_cell HVz.out.box 3).trans rfl; have y3 := (block_cell HVz.out.res 3).trans rfl; have f3 := block_free HVz.out.res 3; have x4 := (block_cell HVz.out.box 4).trans rfl; have y4 := (block_cell HVz.out.res 4).trans rfl; have f4 := block_free HVz.out.res 4; have x5 := (block_cell HVz.out.box 5).trans rfl; have y5 := (block_cell HVz.out.res 5).trans rfl; have f5 := block_free HVz.out.res 5) | (go_at_call 54; ((with_reducible refine (HWW.out _).mono ?_); rintro e wz ⟨rfl, rfl⟩; clear HWW)) | (go_at_call 34; ((with_reducible refine (P2.out _).mono ?_); rintro e wz ⟨rfl, rfl⟩; clear P2)))
                      obtain ⟨wf, hwf, b6, hbel⟩ := put6 HVz.out.res (Value.string (⟨#[]⟩ : ByteArray)) (Value.string n) (Value.string D) (Value.int .i64 0) (Value.int .i64 (-1)) (Value.bool false)
                      rw [hwf]
                      have r0 : wf.cell? ⟨w.heap.size, 0, none⟩ = some (.string (⟨#[]⟩ : ByteArray)) := (block_cell b6 0).trans rfl
                      have r1 : wf.cell? ⟨w.heap.size, 1, none⟩ = some (.string n) := (block_cell b6 1).trans rfl
                      have r2 : wf.cell? ⟨w.heap.size, 2, none⟩ = some (.string D) := (block_cell b6 2).trans rfl
                      have r3 : wf.cell? ⟨w.heap.size, 3, none⟩ = some (.int .i64 0) := (block_cell b6 3).trans rfl
                      have r4 : wf.cell? ⟨w.heap.size, 4, none⟩ = some (.int .i64 (-1)) := (block_cell b6 4).trans rfl
                      have r5 : wf.cell? ⟨w.heap.size, 5, none⟩ = some (.bool false) := (block_cell b6 5).trans rfl
                      refine bodyPost_ret (by simp [results, Tryz.results35, go_sem, r0, r1, r2, r3, r4, r5]; try rfl) rfl ?_
                      exact ⟨⟨(⟨#[]⟩ : ByteArray), n, D, 0, (-1), false, (by rw [E.out]; rfl), .inr E.out, zM, zF, zD⟩, hbel _ _ HVz.out.be (Nat.le_refl _)⟩
                  · have P2 := hide (fun W => show Calls Tryz.prog 34 #[.string z, .string ⟨#[64]⟩] W fun e w' => e = .returned (.bool true) ∧ w' = W from hP2 ▸ Tryz.strings_HasPrefix z ⟨#[64]⟩ W)
                    have hp2 := pre_pos hP2
                    have hp2i : (1 : Int) ≤ (z.size : Int) := by omega
                    have hrs2 := restB_size z
                    have HN2 := hide (fun W => rnumber_16 (restB z) 12 W (by decide) (by have := hsz z (by simp); omega))
                    obtain ⟨N2, hN2⟩ : ∃ N2, numO 16 12 (restB z) = N2 := ⟨_, rfl⟩
                    cases hK2 : numK 16 12 (restB z)
                    · simp only [hN2, hK2] at HN2
                      unfold restB at HN2
                      have E := hide (show R = none by rw [← hR]; simp [frO, frR, hck, hcallM, hcallF, eR, hwy, plR, pl2, pl3, hP1, hfK, hfF, hfL, hP2, hK2])
                      clear hR hway hk hck hcallM hcallF hm wF eR hwy hP1 hP3 nP2 nst hfF hmid hrk hD hC hck2 hfK hfL wW hP2 hK2 hN2
                      go_enter Tryz.func35, Tryz.ntmps35
                      go_wp2_with (first | (go_at_call 53; (refine HCU.out.mono ?_; rintro e U0 ⟨rfl, hu0⟩); have HU := hide (HF0.out.below hu0); clear HCU; have xg := (block_cell HU.out.box 1).trans rfl) | (go_at_call 54; ((with_reducible refine (HWF.out _).mono ?_); rintro e wz ⟨rfl, rfl⟩; clear HWF)) | (go_at_call 13; (refine (HSP.out _ HU.out.mx).mono ?_; rintro e V0 ⟨rfl, hv, hsl, _⟩); have HV0 := hide (FoI.words HU.out hv hsl); clear HSP hsl; have cy := head_o HV0.out) | (go_at_call 34; ((with_reducible refine (P1.out _).mono ?_); rintro e wz ⟨rfl, rfl⟩; clear P1)) | (go_at_call 58; ((with_reducible refine (P3.out _).mono ?_); rintro e wz ⟨rfl, rfl⟩; clear P3)) | (go_at_call 53; (refine (HC2.out _ HV0.out.mx).mono ?_; rintro e Va ⟨rfl, hva⟩); have HVa := hide (HV0.out.below hva); clear HC2; have fb2 := block_free HVa.out.box 2; have xb2 := (block_cell HVa.out.box 2).trans rfl; have HVb := hide (HVa.out.set HM.out 2 (.string D) (M' := (⟨#[]⟩ : ByteArray)) (F' := n) (f' := D) (l' := 0) (a' := (-1)) (o' := false) rfl); obtain ⟨Vb, hVb⟩ : ∃ Vb, Va.setCell ⟨w.heap.size + 1, 2, none⟩ (.string D) = Vb := ⟨_, rfl⟩; rw [hVb] at HVb; have HVz := hide HVb.out.drop; have cz := head_o HVz.out) | (go_at_call 54; ((with_reducible refine (HWW.out _).mono ?_); rintro e wz ⟨rfl, rfl⟩; clear HWW)) | (go_at_call 34; ((with_reducible refine (P2.out _).mono ?_); rintro e wz ⟨rfl, rfl⟩; clear P2)) | (go_at_call 32; (refine (HN2.out _).mono ?_; rintro e V2 ⟨rfl, hv2⟩); have HV2 := hide (HVz.out.below hv2); have x0 := (block_cell HV2.out.box 0).trans rfl; have y0 := (block_cell HV2.out.res 0).trans rfl; have f0 := block_free HV2.out.res 0; have x1 := (block_cell HV2.out.box 1).trans rfl; have y1 := (block_cell HV2.out.res 1).trans rfl; have f1 := block_free HV2.out.res 1; have x2 := (block_cell HV2.out.box 2).trans rfl; have y2 := (block_cell HV2.out.res 2).trans rfl; have f2 := block_free HV2.out.res 2; have x3 := (block_cell HV2.out.box 3).trans rfl; have y3 := (block_cell HV2.out.res 3).trans rfl; have f3 := block_free HV2.out.res 3; have x4 := (block_cell HV2.out.box 4).trans rfl; have y4 := (block_cell HV2.out.res 4).trans rfl; have f4 := block_free HV2.out.res 4; have x5 := (block_cell HV2.out.box 5).trans rfl; have y5 := (block_cell HV2.out.res 5).trans rfl; have f5 := block_free HV2.out.res 5))
                      obtain ⟨wf, hwf, b6, hbel⟩ := put6 HV2.out.res (Value.string (⟨#[]⟩ : ByteArray)) (Value.string n) (Value.string D) (Value.int .i64 0) (Value.int .i64 (-1)) (Value.bool false)
                      rw [hwf]
                      have r0 : wf.cell? ⟨w.heap.size, 0, none⟩ = some (.string (⟨#[]⟩ : ByteArray)) := (block_cell b6 0).trans rfl
                      have r1 : wf.cell? ⟨w.heap.size, 1, none⟩ = some (.string n) := (block_cell b6 1).trans rfl
                      have r2 : wf.cell? ⟨w.heap.size, 2, none⟩ = some (.string D) := (block_cell b6 2).trans rfl
                      have r3 : wf.cell? ⟨w.heap.size, 3, none⟩ = some (.int .i64 0) := (block_cell b6 3).trans rfl
                      have r4 : wf.cell? ⟨w.heap.size, 4, none⟩ = some (.int .i64 (-1)) := (block_cell b6 4).trans rfl
                      have r5 : wf.cell? ⟨w.heap.size, 5, none⟩ = some (.bool false) := (block_cell b6 5).trans rfl
                      refine bodyPost_ret (by simp [results, Tryz.results35, go_sem, r0, r1, r2, r3, r4, r5]; try rfl) rfl ?_
                      exact ⟨⟨(⟨#[]⟩ : ByteArray), n, D, 0, (-1), false, (by rw [E.out]; rfl), .inr E.out, zM, zF, zD⟩, hbel _ _ HV2.out.be (Nat.le_refl _)⟩
                    · simp only [hN2, hK2] at HN2
                      unfold restB at HN2
                      cases p with
                      | nil =>
                        have E := hide (show R = some ((⟨#[]⟩ : ByteArray), n, D, 0, N2, false) by rw [← hR]; simp [frO, frR, hck, hcallM, hcallF, eR, hwy, plR, pl2, pl3, hP1, hfK, hfF, hfL, hP2, hK2, hN2])
                        clear hR hway hk hck hcallM hcallF hm wF eR hwy hP1 hP3 nP2 nst hfF hmid hrk hD hC hck2 hfK hfL wW hP2 hK2 hN2
                        go_enter Tryz.func35, Tryz.ntmps35
                        go_wp2_with (first | (go_at_call 53; (refine HCU.out.mono ?_; rintro e U0 ⟨rfl, hu0⟩); have HU := hide (HF0.out.below hu0); clear HCU; have xg := (block_cell HU.out.box 1).trans rfl) | (go_at_call 54; ((with_reducible refine (HWF.out _).mono ?_); rintro e wz ⟨rfl, rfl⟩; clear HWF)) | (go_at_call 13; (refine (HSP.out _ HU.out.mx).mono ?_; rintro e V0 ⟨rfl, hv, hsl, _⟩); have HV0 := hide (FoI.words HU.out hv hsl); clear HSP hsl; have cy := head_o HV0.out) | (go_at_call 34; ((with_reducible refine (P1.out _).mono ?_); rintro e wz ⟨rfl, rfl⟩; clear P1)) | (go_at_call 58; ((with_reducible refine (P3.out _).mono ?_); rintro e wz ⟨rfl, rfl⟩; clear P3)) | (go_at_call 53; (refine (HC2.out _ HV0.out.mx).mono ?_; rintro e Va ⟨rfl, hva⟩); have HVa := hide (HV0.out.below hva); clear HC2; have fb2 := block_free HVa.out.box 2; have xb2 := (block_cell HVa.out.box 2).trans rfl; have HVb := hide (HVa.out.set HM.out 2 (.string D) (M' := (⟨#[]⟩ : ByteArray)) (F' := n) (f' := D) (l' := 0) (a' := (-1)) (o' := false) rfl); obtain ⟨Vb, hVb⟩ : ∃ Vb, Va.setCell ⟨w.heap.size + 1, 2, none⟩ (.string D) = Vb := ⟨_, rfl⟩; rw [hVb] at HVb; have HVz := hide HVb.out.drop; have cz := head_o HVz.out) | (go_at_call 54; ((with_reducible refine (HWW.out _).mono ?_); rintro e wz ⟨rfl, rfl⟩; clear HWW)) | (go_at_call 34; ((with_reducible refine (P2.out _).mono ?_); rintro e wz ⟨rfl, rfl⟩; clear P2)) | (go_at_call 32; (refine (HN2.out _).mono ?_; rintro e V2 ⟨rfl, hv2⟩); have HV2 := hide (HVz.out.below hv2); have fb4 := block_free HV2.out.box 4; have xb4 := (block_cell HV2.out.box 4).trans rfl; have HV3 := hide (HV2.out.set HM.out 4 (.int .i64 N2) (M' := (⟨#[]⟩ : ByteArray)) (F' := n) (f' := D) (l' := 0) (a' := N2) (o' := false) rfl); obtain ⟨V3, hV3⟩ : ∃ V3, V2.setCell ⟨w.heap.size + 1, 4, none⟩ (.int .i64 N2) = V3 := ⟨_, rfl⟩; rw [hV3] at HV3; have HV3 := hide HV3.out.drop; have x0 := (block_cell HV3.out.box 0).trans rfl; have y0 := (block_cell HV3.out.res 0).trans rfl; have f0 := block_free HV3.out.res 0; have x1 := (block_cell HV3.out.box 1).trans rfl; have y1 := (block_cell HV3.out.res 1).trans rfl; have f1 := block_free HV3.out.res 1; have x2 := (block_cell HV3.out.box 2).trans rfl; have y2 := (block_cell HV3.out.res 2).trans rfl; have f2 := block_free HV3.out.res 2; have x3 := (block_cell HV3.out.box 3).trans rfl; have y3 := (block_cell HV3.out.res 3).trans rfl; have f3 := block_free HV3.out.res 3; have x4 := (block_cell HV3.out.box 4).trans rfl; have y4 := (block_cell HV3.out.res 4).trans rfl; have f4 := block_free HV3.out.res 4; have x5 := (block_cell HV3.out.box 5).trans rfl; have y5 := (block_cell HV3.out.res 5).trans rfl; have f5 := block_free HV3.out.res 5))
                        obtain ⟨wf, hwf, b6, hbel⟩ := put6 HV3.out.res (Value.string (⟨#[]⟩ : ByteArray)) (Value.string n) (Value.string D) (Value.int .i64 0) (Value.int .i64 N2) (Value.bool false)
                        rw [hwf]
                        have r0 : wf.cell? ⟨w.heap.size, 0, none⟩ = some (.string (⟨#[]⟩ : ByteArray)) := (block_cell b6 0).trans rfl
                        have r1 : wf.cell? ⟨w.heap.size, 1, none⟩ = some (.string n) := (block_cell b6 1).trans rfl
                        have r2 : wf.cell? ⟨w.heap.size, 2, none⟩ = some (.string D) := (block_cell b6 2).trans rfl
                        have r3 : wf.cell? ⟨w.heap.size, 3, none⟩ = some (.int .i64 0) := (block_cell b6 3).trans rfl
                        have r4 : wf.cell? ⟨w.heap.size, 4, none⟩ = some (.int .i64 N2) := (block_cell b6 4).trans rfl
                        have r5 : wf.cell? ⟨w.heap.size, 5, none⟩ = some (.bool false) := (block_cell b6 5).trans rfl
                        refine bodyPost_ret (by simp [results, Tryz.results35, go_sem, r0, r1, r2, r3, r4, r5]; try rfl) rfl ?_
                        exact ⟨⟨(⟨#[]⟩ : ByteArray), n, D, 0, N2, false, (by rw [E.out]; rfl), .inl E.out, zM, zF, zD⟩, hbel _ _ HV3.out.be (Nat.le_refl _)⟩
                      | cons v u =>
                        by_cases hst : v = ⟨#[42]⟩
                        · subst hst
                          cases u with
                          | nil =>
                            have E := hide (show R = some ((⟨#[]⟩ : ByteArray), n, D, 0, N2, true) by rw [← hR]; simp [frO, frR, hck, hcallM, hcallF, eR, hwy, plR, pl2, pl3, hP1, hfK, hfF, hfL, hP2, hK2, hN2])
                            clear hR hway hk hck hcallM hcallF hm wF eR hwy hP1 hP3 nP2 nst hfF hmid hrk hD hC hck2 hfK hfL wW hP2 hK2 hN2
                            go_enter Tryz.func35, Tryz.ntmps35
                            go_wp2_with (first | (go_at_call 53; (refine HCU.out.mono ?_; rintro e U0 ⟨rfl, hu0⟩); have HU := hide (HF0.out.below hu0); clear HCU; have xg := (block_cell HU.out.box 1).trans rfl) | (go_at_call 54; ((with_reducible refine (HWF.out _).mono ?_); rintro e wz ⟨rfl, rfl⟩; clear HWF)) | (go_at_call 13; (refine (HSP.out _ HU.out.mx).mono ?_; rintro e V0 ⟨rfl, hv, hsl, _⟩); have HV0 := hide (FoI.words HU.out hv hsl); clear HSP hsl; have cy := head_o HV0.out) | (go_at_call 34; ((with_reducible refine (P1.out _).mono ?_); rintro e wz ⟨rfl, rfl⟩; clear P1)) | (go_at_call 58; ((with_reducible refine (P3.out _).mono ?_); rintro e wz ⟨rfl, rfl⟩; clear P3)) | (go_at_call 53; (refine (HC2.out _ HV0.out.mx).mono ?_; rintro e Va ⟨rfl, hva⟩); have HVa := hide (HV0.out.below hva); clear HC2; have fb2 := block_free HVa.out.box 2; have xb2 := (block_cell HVa.out.box 2).trans rfl; have HVb := hide (HVa.out.set HM.out 2 (.string D) (M' := (⟨#[]⟩ : ByteArray)) (F' := n) (f' := D) (l' := 0) (a' := (-1)) (o' := false) rfl); obtain ⟨Vb, hVb⟩ : ∃ Vb, Va.setCell ⟨w.heap.size + 1, 2, none⟩ (.string D) = Vb := ⟨_, rfl⟩; rw [hVb] at HVb; have HVz := hide HVb.out.drop; have cz := head_o HVz.out) | (go_at_call 54; ((with_reducible refine (HWW.out _).mono ?_); rintro e wz ⟨rfl, rfl⟩; clear HWW)) | (go_at_call 34; ((with_reducible refine (P2.out _).mono ?_); rintro e wz ⟨rfl, rfl⟩; clear P2)) | (go_at_call 32; (refine (HN2.out _).mono ?_; rintro e V2 ⟨rfl, hv2⟩); have HV2 := hide (HVz.out.below hv2); have fb4 := block_free HV2.out.box 4; have xb4 := (block_cell HV2.out.box 4).trans rfl; have HV3 := hide (HV2.out.set HM.out 4 (.int .i64 N2) (M' := (⟨#[]⟩ : ByteArray)) (F' := n) (f' := D) (l' := 0) (a' := N2) (o' := false) rfl); obtain ⟨V3, hV3⟩ : ∃ V3, V2.setCell ⟨w.heap.size + 1, 4, none⟩ (.int .i64 N2) = V3 := ⟨_, rfl⟩; rw [hV3] at HV3; have HV3 := hide HV3.out.drop; have cv := head_o HV3.out; have fb5 := block_free HV3.out.box 5; have xb5 := (block_cell HV3.out.box 5).trans rfl; have HV3s := hide (HV3.out.set HM.out 5 (.bool true) (M' := (⟨#[]⟩ : ByteArray)) (F' := n) (f' := D) (l' := 0) (a' := N2) (o' := true) rfl); obtain ⟨V3s, hV3s⟩ : ∃ V3s, V3.setCell ⟨w.heap.size + 1, 5, none⟩ (.bool true) = V3s := ⟨_, rfl⟩; rw [hV3s] at HV3s; have x0 := (block_cell HV3s.out.box 0).trans rfl; have y0 := (block_cell HV3s.out.res 0).trans rfl; have f0 := block_free HV3s.out.res 0; have x1 := (block_cell HV3s.out.box 1).trans rfl; have y1 := (block_cell HV3s.out.res 1).trans rfl; have f1 := block_free HV3s.out.res 1; have x2 := (block_cell HV3s.out.box 2).trans rfl; have y2 := (block_cell HV3s.out.res 2).trans rfl; have f2 := block_free HV3s.out.res 2; have x3 := (block_cell HV3s.out.box 3).trans rfl; have y3 := (block_cell HV3s.out.res 3).trans rfl; have f3 := block_free HV3s.out.res 3; have x4 := (block_cell HV3s.out.box 4).trans rfl; have y4 := (block_cell HV3s.out.res 4).trans rfl; have f4 := block_free HV3s.out.res 4; have x5 := (block_cell HV3s.out.box 5).trans rfl; have y5 := (block_cell HV3s.out.res 5).trans rfl; have f5 := block_free HV3s.out.res 5))
                            obtain ⟨wf, hwf, b6, hbel⟩ := put6 HV3s.out.res (Value.string (⟨#[]⟩ : ByteArray)) (Value.string n) (Value.string D) (Value.int .i64 0) (Value.int .i64 N2) (Value.bool true)
                            rw [hwf]
                            have r0 : wf.cell? ⟨w.heap.size, 0, none⟩ = some (.string (⟨#[]⟩ : ByteArray)) := (block_cell b6 0).trans rfl
                            have r1 : wf.cell? ⟨w.heap.size, 1, none⟩ = some (.string n) := (block_cell b6 1).trans rfl
                            have r2 : wf.cell? ⟨w.heap.size, 2, none⟩ = some (.string D) := (block_cell b6 2).trans rfl
                            have r3 : wf.cell? ⟨w.heap.size, 3, none⟩ = some (.int .i64 0) := (block_cell b6 3).trans rfl
                            have r4 : wf.cell? ⟨w.heap.size, 4, none⟩ = some (.int .i64 N2) := (block_cell b6 4).trans rfl
                            have r5 : wf.cell? ⟨w.heap.size, 5, none⟩ = some (.bool true) := (block_cell b6 5).trans rfl
                            refine bodyPost_ret (by simp [results, Tryz.results35, go_sem, r0, r1, r2, r3, r4, r5]; try rfl) rfl ?_
                            exact ⟨⟨(⟨#[]⟩ : ByteArray), n, D, 0, N2, true, (by rw [E.out]; rfl), .inl E.out, zM, zF, zD⟩, hbel _ _ HV3s.out.be (Nat.le_refl _)⟩
                          | cons c1 cs1 =>
                            have hlen9 : ((cs1.length : Int) + 1 == 0) = false := by rw [beq_eq_false_iff_ne]; omega
                            have E := hide (show R = none by rw [← hR]; simp [frO, frR, hck, hcallM, hcallF, eR, hwy, plR, pl2, pl3, hP1, hfK, hfF, hfL, hP2, hK2, hN2])
                            clear hR hway hk hck hcallM hcallF hm wF eR hwy hP1 hP3 nP2 nst hfF hmid hrk hD hC hck2 hfK hfL wW hP2 hK2 hN2
                            go_enter Tryz.func35, Tryz.ntmps35
                            go_wp2_with (first | (go_at_call 53; (refine HCU.out.mono ?_; rintro e U0 ⟨rfl, hu0⟩); have HU := hide (HF0.out.below hu0); clear HCU; have xg := (block_cell HU.out.box 1).trans rfl) | (go_at_call 54; ((with_reducible refine (HWF.out _).mono ?_); rintro e wz ⟨rfl, rfl⟩; clear HWF)) | (go_at_call 13; (refine (HSP.out _ HU.out.mx).mono ?_; rintro e V0 ⟨rfl, hv, hsl, _⟩); have HV0 := hide (FoI.words HU.out hv hsl); clear HSP hsl; have cy := head_o HV0.out) | (go_at_call 34; ((with_reducible refine (P1.out _).mono ?_); rintro e wz ⟨rfl, rfl⟩; clear P1)) | (go_at_call 58; ((with_reducible refine (P3.out _).mono ?_); rintro e wz ⟨rfl, rfl⟩; clear P3)) | (go_at_call 53; (refine (HC2.out _ HV0.out.mx).mono ?_; rintro e Va ⟨rfl, hva⟩); have HVa := hide (HV0.out.below hva); clear HC2; have fb2 := block_free HVa.out.box 2; have xb2 := (block_cell HVa.out.box 2).trans rfl; have HVb := hide (HVa.out.set HM.out 2 (.string D) (M' := (⟨#[]⟩ : ByteArray)) (F' := n) (f' := D) (l' := 0) (a' := (-1)) (o' := false) rfl); obtain ⟨Vb, hVb⟩ : ∃ Vb, Va.setCell ⟨w.heap.size + 1, 2, none⟩ (.string D) = Vb := ⟨_, rfl⟩; rw [hVb] at HVb; have HVz := hide HVb.out.drop; have cz := head_o HVz.out) | (go_at_call 54; ((with_reducible refine (HWW.out _).mono ?_); rintro e wz ⟨rfl, rfl⟩; clear HWW)) | (go_at_call 34; ((with_reducible refine (P2.out _).mono ?_); rintro e wz ⟨rfl, rfl⟩; clear P2)) | (go_at_call 32; (refine (HN2.out _).mono ?_; rintro e V2 ⟨rfl, hv2⟩); have HV2 := hide (HVz.out.below hv2); have fb4 := block_free HV2.out.box 4; have xb4 := (block_cell HV2.out.box 4).trans rfl; have HV3 := hide (HV2.out.set HM.out 4 (.int .i64 N2) (M' := (⟨#[]⟩ : ByteArray)) (F' := n) (f' := D) (l' := 0) (a' := N2) (o' := false) rfl); obtain ⟨V3, hV3⟩ : ∃ V3, V2.setCell ⟨w.heap.size + 1, 4, none⟩ (.int .i64 N2) = V3 := ⟨_, rfl⟩; rw [hV3] at HV3; have HV3 := hide HV3.out.drop; have cv := head_o HV3.out; have fb5 := block_free HV3.out.box 5; have xb5 := (block_cell HV3.out.box 5).trans rfl; have HV3s := hide (HV3.out.set HM.out 5 (.bool true) (M' := (⟨#[]⟩ : ByteArray)) (F' := n) (f' := D) (l' := 0) (a' := N2) (o' := true) rfl); obtain ⟨V3s, hV3s⟩ : ∃ V3s, V3.setCell ⟨w.heap.size + 1, 5, none⟩ (.bool true) = V3s := ⟨_, rfl⟩; rw [hV3s] at HV3s; have x0 := (block_cell HV3s.out.box 0).trans rfl; have y0 := (block_cell HV3s.out.res 0).trans rfl; have f0 := block_free HV3s.out.res 0; have x1 := (block_cell HV3s.out.box 1).trans rfl; have y1 := (block_cell HV3s.out.res 1).trans rfl; have f1 := block_free HV3s.out.res 1; have x2 := (block_cell HV3s.out.box 2).trans rfl; have y2 := (block_cell HV3s.out.res 2).trans rfl; have f2 := block_free HV3s.out.res 2; have x3 := (block_cell HV3s.out.box 3).trans rfl; have y3 := (block_cell HV3s.out.res 3).trans rfl; have f3 := block_free HV3s.out.res 3; have x4 := (block_cell HV3s.out.box 4).trans rfl; have y4 := (block_cell HV3s.out.res 4).trans rfl; have f4 := block_free HV3s.out.res 4; have x5 := (block_cell HV3s.out.box 5).trans rfl; have y5 := (block_cell HV3s.out.res 5).trans rfl; have f5 := block_free HV3s.out.res 5))
                            obtain ⟨wf, hwf, b6, hbel⟩ := put6 HV3s.out.res (Value.string (⟨#[]⟩ : ByteArray)) (Value.string n) (Value.string D) (Value.int .i64 0) (Value.int .i64 N2) (Value.bool true)
                            rw [hwf]
                            have r0 : wf.cell? ⟨w.heap.size, 0, none⟩ = some (.string (⟨#[]⟩ : ByteArray)) := (block_cell b6 0).trans rfl
                            have r1 : wf.cell? ⟨w.heap.size, 1, none⟩ = some (.string n) := (block_cell b6 1).trans rfl
                            have r2 : wf.cell? ⟨w.heap.size, 2, none⟩ = some (.string D) := (block_cell b6 2).trans rfl
                            have r3 : wf.cell? ⟨w.heap.size, 3, none⟩ = some (.int .i64 0) := (block_cell b6 3).trans rfl
                            have r4 : wf.cell? ⟨w.heap.size, 4, none⟩ = some (.int .i64 N2) := (block_cell b6 4).trans rfl
                            have r5 : wf.cell? ⟨w.heap.size, 5, none⟩ = some (.bool true) := (block_cell b6 5).trans rfl
                            refine bodyPost_ret (by simp [results, Tryz.results35, go_sem, r0, r1, r2, r3, r4, r5]; try rfl) rfl ?_
                            exact ⟨⟨(⟨#[]⟩ : ByteArray), n, D, 0, N2, true, (by rw [E.out]; rfl), .inr E.out, zM, zF, zD⟩, hbel _ _ HV3s.out.be (Nat.le_refl _)⟩
                        · obtain ⟨ne1, ne2⟩ := str_neS hst
                          have hlen8 : ((u.length : Int) + 1 == 0) = false := by rw [beq_eq_false_iff_ne]; omega
                          have E := hide (show R = none by rw [← hR]; simp [frO, frR, hck, hcallM, hcallF, eR, hwy, plR, pl2, pl3, hP1, hfK, hfF, hfL, hP2, hK2, hN2, hst])
                          clear hR hway hk hck hcallM hcallF hm wF eR hwy hP1 hP3 nP2 nst hfF hmid hrk hD hC hck2 hfK hfL wW hP2 hK2 hN2 hst
                          go_enter Tryz.func35, Tryz.ntmps35
                          go_wp2_with (first | (go_at_call 53; (refine HCU.out.mono ?_; rintro e U0 ⟨rfl, hu0⟩); have HU := hide (HF0.out.below hu0); clear HCU; have xg := (block_cell HU.out.box 1).trans rfl) | (go_at_call 54; ((with_reducible refine (HWF.out _).mono ?_); rintro e wz ⟨rfl, rfl⟩; clear HWF)) | (go_at_call 13; (refine (HSP.out _ HU.out.mx).mono ?_; rintro e V0 ⟨rfl, hv, hsl, _⟩); have HV0 := hide (FoI.words HU.out hv hsl); clear HSP hsl; have cy := head_o HV0.out) | (go_at_call 34; ((with_reducible refine (P1.out _).mono ?_); rintro e wz ⟨rfl, rfl⟩; clear P1)) | (go_at_call 58; ((with_reducible refine (P3.out _).mono ?_); rintro e wz ⟨rfl, rfl⟩; clear P3)) | (go_at_call 53; (refine (HC2.out _ HV0.out.mx).mono ?_; rintro e Va ⟨rfl, hva⟩); have HVa := hide (HV0.out.below hva); clear HC2; have fb2 := block_free HVa.out.box 2; have xb2 := (block_cell HVa.out.box 2).trans rfl; have HVb := hide (HVa.out.set HM.out 2 (.string D) (M' := (⟨#[]⟩ : ByteArray)) (F' := n) (f' := D) (l' := 0) (a' := (-1)) (o' := false) rfl); obtain ⟨Vb, hVb⟩ : ∃ Vb, Va.setCell ⟨w.heap.size + 1, 2, none⟩ (.string D) = Vb := ⟨_, rfl⟩; rw [hVb] at HVb; have HVz := hide HVb.out.drop; have cz := head_o HVz.out) | (go_at_call 54; ((with_reducible refine (HWW.out _).mono ?_); rintro e wz ⟨rfl, rfl⟩; clear HWW)) | (go_at_call 34; ((with_reducible refine (P2.out _).mono ?_); rintro e wz ⟨rfl, rfl⟩; clear P2)) | (go_at_call 32; (refine (HN2.out _).mono ?_; rintro e V2 ⟨rfl, hv2⟩); have HV2 := hide (HVz.out.below hv2); have fb4 := block_free HV2.out.box 4; have xb4 := (block_cell HV2.out.box 4).trans rfl; have HV3 := hide (HV2.out.set HM.out 4 (.int .i64 N2) (M' := (⟨#[]⟩ : ByteArray)) (F' := n) (f' := D) (l' := 0) (a' := N2) (o' := false) rfl); obtain ⟨V3, hV3⟩ : ∃ V3, V2.setCell ⟨w.heap.size + 1, 4, none⟩ (.int .i64 N2) = V3 := ⟨_, rfl⟩; rw [hV3] at HV3; have HV3 := hide HV3.out.drop; have cv := head_o HV3.out; have x0 := (block_cell HV3.out.box 0).trans rfl; have y0 := (block_cell HV3.out.res 0).trans rfl; have f0 := block_free HV3.out.res 0; have x1 := (block_cell HV3.out.box 1).trans rfl; have y1 := (block_cell HV3.out.res 1).trans rfl; have f1 := block_free HV3.out.res 1; have x2 := (block_cell HV3.out.box 2).trans rfl; have y2 := (block_cell HV3.out.res 2).trans rfl; have f2 := block_free HV3.out.res 2; have x3 := (block_cell HV3.out.box 3).trans rfl; have y3 := (block_cell HV3.out.res 3).trans rfl; have f3 := block_free HV3.out.res 3; have x4 := (block_cell HV3.out.box 4).trans rfl; have y4 := (block_cell HV3.out.res 4).trans rfl; have f4 := block_free HV3.out.res 4; have x5 := (block_cell HV3.out.box 5).trans rfl; have y5 := (block_cell HV3.out.res 5).trans rfl; have f5 := block_free HV3.out.res 5))
                          obtain ⟨wf, hwf, b6, hbel⟩ := put6 HV3.out.res (Value.string (⟨#[]⟩ : ByteArray)) (Value.string n) (Value.string D) (Value.int .i64 0) (Value.int .i64 N2) (Value.bool false)
                          rw [hwf]
                          have r0 : wf.cell? ⟨w.heap.size, 0, none⟩ = some (.string (⟨#[]⟩ : ByteArray)) := (block_cell b6 0).trans rfl
                          have r1 : wf.cell? ⟨w.heap.size, 1, none⟩ = some (.string n) := (block_cell b6 1).trans rfl
                          have r2 : wf.cell? ⟨w.heap.size, 2, none⟩ = some (.string D) := (block_cell b6 2).trans rfl
                          have r3 : wf.cell? ⟨w.heap.size, 3, none⟩ = some (.int .i64 0) := (block_cell b6 3).trans rfl
                          have r4 : wf.cell? ⟨w.heap.size, 4, none⟩ = some (.int .i64 N2) := (block_cell b6 4).trans rfl
                          have r5 : wf.cell? ⟨w.heap.size, 5, none⟩ = some (.bool false) := (block_cell b6 5).trans rfl
                          refine bodyPost_ret (by simp [results, Tryz.results35, go_sem, r0, r1, r2, r3, r4, r5]; try rfl) rfl ?_
                          exact ⟨⟨(⟨#[]⟩ : ByteArray), n, D, 0, N2, false, (by rw [E.out]; rfl), .inr E.out, zM, zF, zD⟩, hbel _ _ HV3.out.be (Nat.le_refl _)⟩
            · skip
              exact absurd hway (by simp [wayO, hwy, eR, hP1, hP3, hl2, hck2])
    · have eR' : r.toList.isEmpty = true := eR
      have E := hide (show R = some ((⟨#[]⟩ : ByteArray), n, (⟨#[]⟩ : ByteArray), 0, (-1), false) by rw [← hR]; simp [frO, frR, hck, hcallM, hcallF, eR, plR, pl2, pl3])
      clear hR hway hk hck hcallM hcallF hm wF eR
      go_enter Tryz.func35, Tryz.ntmps35
      go_wp2_with (first | (go_at_call 53; (refine HCU.out.mono ?_; rintro e U0 ⟨rfl, hu0⟩); have HU := hide (HF0.out.below hu0); clear HCU; have xg := (block_cell HU.out.box 1).trans rfl; have x0 := (block_cell HU.out.box 0).trans rfl; have y0 := (block_cell HU.out.res 0).trans rfl; have f0 := block_free HU.out.res 0; have x1 := (block_cell HU.out.box 1).trans rfl; have y1 := (block_cell HU.out.res 1).trans rfl; have f1 := block_free HU.out.res 1; have x2 := (block_cell HU.out.box 2).trans rfl; have y2 := (block_cell HU.out.res 2).trans rfl; have f2 := block_free HU.out.res 2; have x3 := (block_cell HU.out.box 3).trans rfl; have y3 := (block_cell HU.out.res 3).trans rfl; have f3 := block_free HU.out.res 3; have x4 := (block_cell HU.out.box 4).trans rfl; have y4 := (block_cell HU.out.res 4).trans rfl; have f4 := block_free HU.out.res 4; have x5 := (block_cell HU.out.box 5).trans rfl; have y5 := (block_cell HU.out.res 5).trans rfl; have f5 := block_free HU.out.res 5) | (go_at_call 54; ((with_reducible refine (HWF.out _).mono ?_); rintro e wz ⟨rfl, rfl⟩; clear HWF)))
      obtain ⟨wf, hwf, b6, hbel⟩ := put6 HU.out.res (Value.string (⟨#[]⟩ : ByteArray)) (Value.string n) (Value.string (⟨#[]⟩ : ByteArray)) (Value.int .i64 0) (Value.int .i64 (-1)) (Value.bool false)
      rw [hwf]
      have r0 : wf.cell? ⟨w.heap.size, 0, none⟩ = some (.string (⟨#[]⟩ : ByteArray)) := (block_cell b6 0).trans rfl
      have r1 : wf.cell? ⟨w.heap.size, 1, none⟩ = some (.string n) := (block_cell b6 1).trans rfl
      have r2 : wf.cell? ⟨w.heap.size, 2, none⟩ = some (.string (⟨#[]⟩ : ByteArray)) := (block_cell b6 2).trans rfl
      have r3 : wf.cell? ⟨w.heap.size, 3, none⟩ = some (.int .i64 0) := (block_cell b6 3).trans rfl
      have r4 : wf.cell? ⟨w.heap.size, 4, none⟩ = some (.int .i64 (-1)) := (block_cell b6 4).trans rfl
      have r5 : wf.cell? ⟨w.heap.size, 5, none⟩ = some (.bool false) := (block_cell b6 5).trans rfl
      refine bodyPost_ret (by simp [results, Tryz.results35, go_sem, r0, r1, r2, r3, r4, r5]; try rfl) rfl ?_
      exact ⟨⟨(⟨#[]⟩ : ByteArray), n, (⟨#[]⟩ : ByteArray), 0, (-1), false, (by rw [E.out]; rfl), .inl E.out, zM, zF, Nat.zero_le _⟩, hbel _ _ HU.out.be (Nat.le_refl _)⟩
end Go.Proofs.YtkjpojaanocfjaaGreatDoor
