/- Walk of frameOf, name B1 (printed by gen_so.py). -/
import Derived.Test.YtkjpojaanocfjaaGreatDoorStRdR
namespace Go.Proofs.YtkjpojaanocfjaaGreatDoor
open Go.RowKit
set_option linter.unusedVariables false
set_option linter.unusedSimpArgs false
set_option maxRecDepth 100000 in
set_option maxHeartbeats 64000000 in
theorem frameOf_B1 (n r : ByteArray) (hway : wayO r = 1) (w : World) (hs : n.size ≤ 1000000) (hr : r.size ≤ 1000000) (hm : Mx w) (hk : cutK n 33 = false) :
    Calls Tryz.prog 35 #[.string n, .string r] w fun e w' => FoOut (frO n r) e ∧ Below w.heap.size w w' := by
  have HF0 := hide (FoI.first (n := n) hm rfl)
  have HM := hide hm
  have hcu := Cut_any n 33 _ hs HF0.out.mx
  rw [hk] at hcu
  have HCU := hide hcu
  clear hcu
  have hcallM : callM n = (⟨#[]⟩ : ByteArray) := by unfold callM; rw [hk]; rfl
  have hcallF : callF n = n := by unfold callF; rw [hk]; rfl
  obtain ⟨z1, z2⟩ := cut_size n 33
  have hck : callK n = (!emptyB n && wordX n) := by unfold callK; rw [hcallM, hcallF, hk]; rw [wordX_nil]; cases emptyB n <;> cases wordX n <;> simp
  obtain ⟨R, hR⟩ : ∃ R, frO n r = R := ⟨_, rfl⟩
  rw [hR]
  unfold FoOut
  have zM : (⟨#[]⟩ : ByteArray).size ≤ 1000000 := Nat.zero_le _
  have zF : n.size ≤ 1000000 := hs
  have HWF := hide (fun W => word_m n W (by unfold maxLen; omega))
  cases wF : (!emptyB n && wordX n)
  · simp only [wF] at HWF hck
    have E := hide (show R = none by rw [← hR]; simp [frO, frR, hck, hcallM, hcallF])
    clear hR hway hk hck hcallM hcallF hm wF
    go_enter Tryz.func35, Tryz.ntmps35
    go_wp2_with (first | (go_at_call 53; (refine HCU.out.mono ?_; rintro e U0 ⟨rfl, hu0⟩); have HU := hide (HF0.out.below hu0); clear HCU; have xg := (block_cell HU.out.box 1).trans rfl; have x0 := (block_cell HU.out.box 0).trans rfl; have y0 := (block_cell HU.out.res 0).trans rfl; have f0 := block_free HU.out.res 0; have x1 := (block_cell HU.out.box 1).trans rfl; have y1 := (block_cell HU.out.res 1).trans rfl; have f1 := block_free HU.out.res 1; have x2 := (block_cell HU.out.box 2).trans rfl; have y2 := (block_cell HU.out.res 2).trans rfl; have f2 := block_free HU.out.res 2; have x3 := (block_cell HU.out.box 3).trans rfl; have y3 := (block_cell HU.out.res 3).trans rfl; have f3 := block_free HU.out.res 3; have x4 := (block_cell HU.out.box 4).trans rfl; have y4 := (block_cell HU.out.res 4).trans rfl; have f4 := block_free HU.out.res 4; have x5 := (block_cell HU.out.box 5).trans rfl; have y5 := (block_cell HU.out.res 5).trans rfl; have f5 := block_free HU.out.res 5) | (go_at_call 54; ((with_reducible refine (HWF.out _).mono ?_); rintro e wz ⟨rfl, rfl⟩; clear HWF)))
    obtain ⟨wf, hwf, b6, hbel⟩ := put6 HU.out.res (Value.string (⟨#[]⟩ : ByteArray)) (Value.string n) (Value.string (⟨#[]⟩ : ByteArray)) (Value.int .i64 0) (Value.int .i64 (-1)) (Value.bool false)
    rw [hwf]
    have r0 : wf.cell? ⟨w.heap.size, 0, none⟩ = some (.string (⟨#[]⟩ : ByteArray)) := (block_cell b6 0).trans rfl
    have r1 : wf.cell? ⟨w.heap.size, 1, none⟩ = some (.string n) := (block_cell b6 1).trans rfl
    have r2 : wf.cell? ⟨w.heap.size, 2, none⟩ = some (.string (⟨#[]⟩ : ByteArray)) := (block_cell b6 2).trans rfl
    have r3 : wf.cell? ⟨w.heap.size, 3, none⟩ = some (.int .i64 0) := (block_cell b6 3).trans rfl
    have r4 : wf.cell? ⟨w.heap.size, 4, none⟩ = some (.int .i64 (-1)) := (block_cell b6 4).trans rfl
    have r5 : wf.cell? ⟨w.heap.size, 5, none⟩ = some (.bool false) := (block_cell b6 5).trans rfl
    refine bodyPost_ret (by simp [results, Tryz.results35, go_sem, r0, r1, r2, r3, r4, r5]; try rfl) rfl ?_
    exact ⟨⟨(⟨#[]⟩ : ByteArray), n, (⟨#[]⟩ : ByteArray), 0, (-1), false, (by rw [E.out]; rfl), .inr E.out, zM, zF, Nat.zero_le _⟩, hbel _ _ HU.out.be (Nat.le_refl _)⟩
  · simp only [wF] at HWF hck
    cases eR : emptyB r
    · have eR' : r.toList.isEmpty = false := eR
      obtain ⟨y, q, hwy⟩ := wordsOf_cons r
      have hsz : ∀ x ∈ y :: q, x.size ≤ 1000000 := fun x hx => by have := wordsOf_le (hwy ▸ hx); omega
      have hsp := fun W (h : Mx W) => Split_any r W hr h
      simp only [hwy] at hsp
      have HSP := hide hsp
      clear hsp
      cases hP1 : preB y 40
      · have P1 := hide (fun W => show Calls Tryz.prog 34 #[.string y, .string ⟨#[40]⟩] W fun e w' => e = .returned (.bool false) ∧ w' = W from hP1 ▸ Tryz.strings_HasPrefix y ⟨#[40]⟩ W)
        cases hP2 : preB y 64
        · have P2 := hide (fun W => show Calls Tryz.prog 34 #[.string y, .string ⟨#[64]⟩] W fun e w' => e = .returned (.bool false) ∧ w' = W from hP2 ▸ Tryz.strings_HasPrefix y ⟨#[64]⟩ W)
          by_cases hst : y = ⟨#[42]⟩
          · subst hst
            cases q with
            | nil =>
              have E := hide (show R = some ((⟨#[]⟩ : ByteArray), n, (⟨#[]⟩ : ByteArray), 0, (-1), true) by rw [← hR]; simp [frO, frR, hck, hcallM, hcallF, eR, hwy, plR, pl2, pl3, hP1, hP2])
              clear hR hway hk hck hcallM hcallF hm wF eR hwy hP1 hP2
              go_enter Tryz.func35, Tryz.ntmps35
              go_wp2_with (first | (go_at_call 53; (refine HCU.out.mono ?_; rintro e U0 ⟨rfl, hu0⟩); have HU := hide (HF0.out.below hu0); clear HCU; have xg := (block_cell HU.out.box 1).trans rfl) | (go_at_call 54; ((with_reducible refine (HWF.out _).mono ?_); rintro e wz ⟨rfl, rfl⟩; clear HWF)) | (go_at_call 13; (refine (HSP.out _ HU.out.mx).mono ?_; rintro e V0 ⟨rfl, hv, hsl, _⟩); have HV0 := hide (FoI.words HU.out hv hsl); clear HSP hsl; have cy := head_o HV0.out; have fb5 := block_free HV0.out.box 5; have xb5 := (block_cell HV0.out.box 5).trans rfl; have HV0s := hide (HV0.out.set HM.out 5 (.bool true) (M' := (⟨#[]⟩ : ByteArray)) (F' := n) (f' := (⟨#[]⟩ : ByteArray)) (l' := 0) (a' := (-1)) (o' := true) rfl); obtain ⟨V0s, hV0s⟩ : ∃ V0s, V0.setCell ⟨w.heap.size + 1, 5, none⟩ (.bool true) = V0s := ⟨_, rfl⟩; rw [hV0s] at HV0s; have x0 := (block_cell HV0s.out.box 0).trans rfl; have y0 := (block_cell HV0s.out.res 0).trans rfl; have f0 := block_free HV0s.out.res 0; have x1 := (block_cell HV0s.out.box 1).trans rfl; have y1 := (block_cell HV0s.out.res 1).trans rfl; have f1 := block_free HV0s.out.res 1; have x2 := (block_cell HV0s.out.box 2).trans rfl; have y2 := (block_cell HV0s.out.res 2).trans rfl; have f2 := block_free HV0s.out.res 2; have x3 := (block_cell HV0s.out.box 3).trans rfl; have y3 := (block_cell HV0s.out.res 3).trans rfl; have f3 := block_free HV0s.out.res 3; have x4 := (block_cell HV0s.out.box 4).trans rfl; have y4 := (block_cell HV0s.out.res 4).trans rfl; have f4 := block_free HV0s.out.res 4; have x5 := (block_cell HV0s.out.box 5).trans rfl; have y5 := (block_cell HV0s.out.res 5).trans rfl; have f5 := block_free HV0s.out.res 5) | (go_at_call 34; ((with_reducible refine (P1.out _).mono ?_); rintro e wz ⟨rfl, rfl⟩; clear P1)) | (go_at_call 34; ((with_reducible refine (P2.out _).mono ?_); rintro e wz ⟨rfl, rfl⟩; clear P2)))
              obtain ⟨wf, hwf, b6, hbel⟩ := put6 HV0s.out.res (Value.string (⟨#[]⟩ : ByteArray)) (Value.string n) (Value.string (⟨#[]⟩ : ByteArray)) (Value.int .i64 0) (Value.int .i64 (-1)) (Value.bool true)
              rw [hwf]
              have r0 : wf.cell? ⟨w.heap.size, 0, none⟩ = some (.string (⟨#[]⟩ : ByteArray)) := (block_cell b6 0).trans rfl
              have r1 : wf.cell? ⟨w.heap.size, 1, none⟩ = some (.string n) := (block_cell b6 1).trans rfl
              have r2 : wf.cell? ⟨w.heap.size, 2, none⟩ = some (.string (⟨#[]⟩ : ByteArray)) := (block_cell b6 2).trans rfl
              have r3 : wf.cell? ⟨w.heap.size, 3, none⟩ = some (.int .i64 0) := (block_cell b6 3).trans rfl
              have r4 : wf.cell? ⟨w.heap.size, 4, none⟩ = some (.int .i64 (-1)) := (block_cell b6 4).trans rfl
              have r5 : wf.cell? ⟨w.heap.size, 5, none⟩ = some (.bool true) := (block_cell b6 5).trans rfl
              refine bodyPost_ret (by simp [results, Tryz.results35, go_sem, r0, r1, r2, r3, r4, r5]; try rfl) rfl ?_
              exact ⟨⟨(⟨#[]⟩ : ByteArray), n, (⟨#[]⟩ : ByteArray), 0, (-1), true, (by rw [E.out]; rfl), .inl E.out, zM, zF, Nat.zero_le _⟩, hbel _ _ HV0s.out.be (Nat.le_refl _)⟩
            | cons c1 cs1 =>
              have hlen9 : ((cs1.length : Int) + 1 == 0) = false := by rw [beq_eq_false_iff_ne]; omega
              have E := hide (show R = none by rw [← hR]; simp [frO, frR, hck, hcallM, hcallF, eR, hwy, plR, pl2, pl3, hP1, hP2])
              clear hR hway hk hck hcallM hcallF hm wF eR hwy hP1 hP2
              go_enter Tryz.func35, Tryz.ntmps35
              go_wp2_with (first | (go_at_call 53; (refine HCU.out.mono ?_; rintro e U0 ⟨rfl, hu0⟩); have HU := hide (HF0.out.below hu0); clear HCU; have xg := (block_cell HU.out.box 1).trans rfl) | (go_at_call 54; ((with_reducible refine (HWF.out _).mono ?_); rintro e wz ⟨rfl, rfl⟩; clear HWF)) | (go_at_call 13; (refine (HSP.out _ HU.out.mx).mono ?_; rintro e V0 ⟨rfl, hv, hsl, _⟩); have HV0 := hide (FoI.words HU.out hv hsl); clear HSP hsl; have cy := head_o HV0.out; have fb5 := block_free HV0.out.box 5; have xb5 := (block_cell HV0.out.box 5).trans rfl; have HV0s := hide (HV0.out.set HM.out 5 (.bool true) (M' := (⟨#[]⟩ : ByteArray)) (F' := n) (f' := (⟨#[]⟩ : ByteArray)) (l' := 0) (a' := (-1)) (o' := true) rfl); obtain ⟨V0s, hV0s⟩ : ∃ V0s, V0.setCell ⟨w.heap.size + 1, 5, none⟩ (.bool true) = V0s := ⟨_, rfl⟩; rw [hV0s] at HV0s; have x0 := (block_cell HV0s.out.box 0).trans rfl; have y0 := (block_cell HV0s.out.res 0).trans rfl; have f0 := block_free HV0s.out.res 0; have x1 := (block_cell HV0s.out.box 1).trans rfl; have y1 := (block_cell HV0s.out.res 1).trans rfl; have f1 := block_free HV0s.out.res 1; have x2 := (block_cell HV0s.out.box 2).trans rfl; have y2 := (block_cell HV0s.out.res 2).trans rfl; have f2 := block_free HV0s.out.res 2; have x3 := (block_cell HV0s.out.box 3).trans rfl; have y3 := (block_cell HV0s.out.res 3).trans rfl; have f3 := block_free HV0s.out.res 3; have x4 := (block_cell HV0s.out.box 4).trans rfl; have y4 := (block_cell HV0s.out.res 4).trans rfl; have f4 := block_free HV0s.out.res 4; have x5 := (block_cell HV0s.out.box 5).trans rfl; have y5 := (block_cell HV0s.out.res 5).trans rfl; have f5 := block_free HV0s.out.res 5) | (go_at_call 34; ((with_reducible refine (P1.out _).mono ?_); rintro e wz ⟨rfl, rfl⟩; clear P1)) | (go_at_call 34; ((with_reducible refine (P2.out _).mono ?_); rintro e wz ⟨rfl, rfl⟩; clear P2)))
              obtain ⟨wf, hwf, b6, hbel⟩ := put6 HV0s.out.res (Value.string (⟨#[]⟩ : ByteArray)) (Value.string n) (Value.string (⟨#[]⟩ : ByteArray)) (Value.int .i64 0) (Value.int .i64 (-1)) (Value.bool true)
              rw [hwf]
              have r0 : wf.cell? ⟨w.heap.size, 0, none⟩ = some (.string (⟨#[]⟩ : ByteArray)) := (block_cell b6 0).trans rfl
              have r1 : wf.cell? ⟨w.heap.size, 1, none⟩ = some (.string n) := (block_cell b6 1).trans rfl
              have r2 : wf.cell? ⟨w.heap.size, 2, none⟩ = some (.string (⟨#[]⟩ : ByteArray)) := (block_cell b6 2).trans rfl
              have r3 : wf.cell? ⟨w.heap.size, 3, none⟩ = some (.int .i64 0) := (block_cell b6 3).trans rfl
              have r4 : wf.cell? ⟨w.heap.size, 4, none⟩ = some (.int .i64 (-1)) := (block_cell b6 4).trans rfl
              have r5 : wf.cell? ⟨w.heap.size, 5, none⟩ = some (.bool true) := (block_cell b6 5).trans rfl
              refine bodyPost_ret (by simp [results, Tryz.results35, go_sem, r0, r1, r2, r3, r4, r5]; try rfl) rfl ?_
              exact ⟨⟨(⟨#[]⟩ : ByteArray), n, (⟨#[]⟩ : ByteArray), 0, (-1), true, (by rw [E.out]; rfl), .inr E.out, zM, zF, Nat.zero_le _⟩, hbel _ _ HV0s.out.be (Nat.le_refl _)⟩
          · obtain ⟨ne1, ne2⟩ := str_neS hst
            have hlen8 : ((q.length : Int) + 1 == 0) = false := by rw [beq_eq_false_iff_ne]; omega
            have E := hide (show R = none by rw [← hR]; simp [frO, frR, hck, hcallM, hcallF, eR, hwy, plR, pl2, pl3, hP1, hP2, hst])
            clear hR hway hk hck hcallM hcallF hm wF eR hwy hP1 hP2 hst
            go_enter Tryz.func35, Tryz.ntmps35
            go_wp2_with (first | (go_at_call 53; (refine HCU.out.mono ?_; rintro e U0 ⟨rfl, hu0⟩); have HU := hide (HF0.out.below hu0); clear HCU; have xg := (block_cell HU.out.box 1).trans rfl) | (go_at_call 54; ((with_reducible refine (HWF.out _).mono ?_); rintro e wz ⟨rfl, rfl⟩; clear HWF)) | (go_at_call 13; (refine (HSP.out _ HU.out.mx).mono ?_; rintro e V0 ⟨rfl, hv, hsl, _⟩); have HV0 := hide (FoI.words HU.out hv hsl); clear HSP hsl; have cy := head_o HV0.out; have x0 := (block_cell HV0.out.box 0).trans rfl; have y0 := (block_cell HV0.out.res 0).trans rfl; have f0 := block_free HV0.out.res 0; have x1 := (block_cell HV0.out.box 1).trans rfl; have y1 := (block_cell HV0.out.res 1).trans rfl; have f1 := block_free HV0.out.res 1; have x2 := (block_cell HV0.out.box 2).trans rfl; have y2 := (block_cell HV0.out.res 2).trans rfl; have f2 := block_free HV0.out.res 2; have x3 := (block_cell HV0.out.box 3).trans rfl; have y3 := (block_cell HV0.out.res 3).trans rfl; have f3 := block_free HV0.out.res 3; have x4 := (block_cell HV0.out.box 4).trans rfl; have y4 := (block_cell HV0.out.res 4).trans rfl; have f4 := block_free HV0.out.res 4; have x5 := (block_cell HV0.out.box 5).trans rfl; have y5 := (block_cell HV0.out.res 5).trans rfl; have f5 := block_free HV0.out.res 5) | (go_at_call 34; ((with_reducible refine (P1.out _).mono ?_); rintro e wz ⟨rfl, rfl⟩; clear P1)) | (go_at_call 34; ((with_reducible refine (P2.out _).mono ?_); rintro e wz ⟨rfl, rfl⟩; clear P2)))
            obtain ⟨wf, hwf, b6, hbel⟩ := put6 HV0.out.res (Value.string (⟨#[]⟩ : ByteArray)) (Value.string n) (Value.string (⟨#[]⟩ : ByteArray)) (Value.int .i64 0) (Value.int .i64 (-1)) (Value.bool false)
            rw [hwf]
            have r0 : wf.cell? ⟨w.heap.size, 0, none⟩ = some (.string (⟨#[]⟩ : ByteArray)) := (block_cell b6 0).trans rfl
            have r1 : wf.cell? ⟨w.heap.size, 1, none⟩ = some (.string n) := (block_cell b6 1).trans rfl
            have r2 : wf.cell? ⟨w.heap.size, 2, none⟩ = some (.string (⟨#[]⟩ : ByteArray)) := (block_cell b6 2).trans rfl
            have r3 : wf.cell? ⟨w.heap.size, 3, none⟩ = some (.int .i64 0) := (block_cell b6 3).trans rfl
            have r4 : wf.cell? ⟨w.heap.size, 4, none⟩ = some (.int .i64 (-1)) := (block_cell b6 4).trans rfl
            have r5 : wf.cell? ⟨w.heap.size, 5, none⟩ = some (.bool false) := (block_cell b6 5).trans rfl
            refine bodyPost_ret (by simp [results, Tryz.results35, go_sem, r0, r1, r2, r3, r4, r5]; try rfl) rfl ?_
            exact ⟨⟨(⟨#[]⟩ : ByteArray), n, (⟨#[]⟩ : ByteArray), 0, (-1), false, (by rw [E.out]; rfl), .inr E.out, zM, zF, Nat.zero_le _⟩, hbel _ _ HV0.out.be (Nat.le_refl _)⟩
        · have P2 := hide (fun W => show Calls Tryz.prog 34 #[.string y, .string ⟨#[64]⟩] W fun e w' => e = .returned (.bool true) ∧ w' = W from hP2 ▸ Tryz.strings_HasPrefix y ⟨#[64]⟩ W)
          have hp2 := pre_pos hP2
          have hp2i : (1 : Int) ≤ (y.size : Int) := by omega
          have hrs2 := restB_size y
          have HN2 := hide (fun W => rnumber_16 (restB y) 12 W (by decide) (by have := hsz y (by simp); omega))
          obtain ⟨N2, hN2⟩ : ∃ N2, numO 16 12 (restB y) = N2 := ⟨_, rfl⟩
          cases hK2 : numK 16 12 (restB y)
          · simp only [hN2, hK2] at HN2
            unfold restB at HN2
            have E := hide (show R = none by rw [← hR]; simp [frO, frR, hck, hcallM, hcallF, eR, hwy, plR, pl2, pl3, hP1, hP2, hK2])
            clear hR hway hk hck hcallM hcallF hm wF eR hwy hP1 hP2 hK2 hN2
            go_enter Tryz.func35, Tryz.ntmps35
            go_wp2_with (first | (go_at_call 53; (refine HCU.out.mono ?_; rintro e U0 ⟨rfl, hu0⟩); have HU := hide (HF0.out.below hu0); clear HCU; have xg := (block_cell HU.out.box 1).trans rfl) | (go_at_call 54; ((with_reducible refine (HWF.out _).mono ?_); rintro e wz ⟨rfl, rfl⟩; clear HWF)) | (go_at_call 13; (refine (HSP.out _ HU.out.mx).mono ?_; rintro e V0 ⟨rfl, hv, hsl, _⟩); have HV0 := hide (FoI.words HU.out hv hsl); clear HSP hsl; have cy := head_o HV0.out) | (go_at_call 34; ((with_reducible refine (P1.out _).mono ?_); rintro e wz ⟨rfl, rfl⟩; clear P1)) | (go_at_call 34; ((with_reducible refine (P2.out _).mono ?_); rintro e wz ⟨rfl, rfl⟩; clear P2)) | (go_at_call 32; (refine (HN2.out _).mono ?_; rintro e V2 ⟨rfl, hv2⟩); have HV2 := hide (HV0.out.below hv2); have x0 := (block_cell HV2.out.box 0).trans rfl; have y0 := (block_cell HV2.out.res 0).trans rfl; have f0 := block_free HV2.out.res 0; have x1 := (block_cell HV2.out.box 1).trans rfl; have y1 := (block_cell HV2.out.res 1).trans rfl; have f1 := block_free HV2.out.res 1; have x2 := (block_cell HV2.out.box 2).trans rfl; have y2 := (block_cell HV2.out.res 2).trans rfl; have f2 := block_free HV2.out.res 2; have x3 := (block_cell HV2.out.box 3).trans rfl; have y3 := (block_cell HV2.out.res 3).trans rfl; have f3 := block_free HV2.out.res 3; have x4 := (block_cell HV2.out.box 4).trans rfl; have y4 := (block_cell HV2.out.res 4).trans rfl; have f4 := block_free HV2.out.res 4; have x5 := (block_cell HV2.out.box 5).trans rfl; have y5 := (block_cell HV2.out.res 5).trans rfl; have f5 := block_free HV2.out.res 5))
            obtain ⟨wf, hwf, b6, hbel⟩ := put6 HV2.out.res (Value.string (⟨#[]⟩ : ByteArray)) (Value.string n) (Value.string (⟨#[]⟩ : ByteArray)) (Value.int .i64 0) (Value.int .i64 (-1)) (Value.bool false)
            rw [hwf]
            have r0 : wf.cell? ⟨w.heap.size, 0, none⟩ = some (.string (⟨#[]⟩ : ByteArray)) := (block_cell b6 0).trans rfl
            have r1 : wf.cell? ⟨w.heap.size, 1, none⟩ = some (.string n) := (block_cell b6 1).trans rfl
            have r2 : wf.cell? ⟨w.heap.size, 2, none⟩ = some (.string (⟨#[]⟩ : ByteArray)) := (block_cell b6 2).trans rfl
            have r3 : wf.cell? ⟨w.heap.size, 3, none⟩ = some (.int .i64 0) := (block_cell b6 3).trans rfl
            have r4 : wf.cell? ⟨w.heap.size, 4, none⟩ = some (.int .i64 (-1)) := (block_cell b6 4).trans rfl
            have r5 : wf.cell? ⟨w.heap.size, 5, none⟩ = some (.bool false) := (block_cell b6 5).trans rfl
            refine bodyPost_ret (by simp [results, Tryz.results35, go_sem, r0, r1, r2, r3, r4, r5]; try rfl) rfl ?_
            exact ⟨⟨(⟨#[]⟩ : ByteArray), n, (⟨#[]⟩ : ByteArray), 0, (-1), false, (by rw [E.out]; rfl), .inr E.out, zM, zF, Nat.zero_le _⟩, hbel _ _ HV2.out.be (Nat.le_refl _)⟩
          · simp only [hN2, hK2] at HN2
            unfold restB at HN2
            cases q with
            | nil =>
              have E := hide (show R = some ((⟨#[]⟩ : ByteArray), n, (⟨#[]⟩ : ByteArray), 0, N2, false) by rw [← hR]; simp [frO, frR, hck, hcallM, hcallF, eR, hwy, plR, pl2, pl3, hP1, hP2, hK2, hN2])
              clear hR hway hk hck hcallM hcallF hm wF eR hwy hP1 hP2 hK2 hN2
              go_enter Tryz.func35, Tryz.ntmps35
              go_wp2_with (first | (go_at_call 53; (refine HCU.out.mono ?_; rintro e U0 ⟨rfl, hu0⟩); have HU := hide (HF0.out.below hu0); clear HCU; have xg := (block_cell HU.out.box 1).trans rfl) | (go_at_call 54; ((with_reducible refine (HWF.out _).mono ?_); rintro e wz ⟨rfl, rfl⟩; clear HWF)) | (go_at_call 13; (refine (HSP.out _ HU.out.mx).mono ?_; rintro e V0 ⟨rfl, hv, hsl, _⟩); have HV0 := hide (FoI.words HU.out hv hsl); clear HSP hsl; have cy := head_o HV0.out) | (go_at_call 34; ((with_reducible refine (P1.out _).mono ?_); rintro e wz ⟨rfl, rfl⟩; clear P1)) | (go_at_call 34; ((with_reducible refine (P2.out _).mono ?_); rintro e wz ⟨rfl, rfl⟩; clear P2)) | (go_at_call 32; (refine (HN2.out _).mono ?_; rintro e V2 ⟨rfl, hv2⟩); have HV2 := hide (HV0.out.below hv2); have fb4 := block_free HV2.out.box 4; have xb4 := (block_cell HV2.out.box 4).trans rfl; have HV3 := hide (HV2.out.set HM.out 4 (.int .i64 N2) (M' := (⟨#[]⟩ : ByteArray)) (F' := n) (f' := (⟨#[]⟩ : ByteArray)) (l' := 0) (a' := N2) (o' := false) rfl); obtain ⟨V3, hV3⟩ : ∃ V3, V2.setCell ⟨w.heap.size + 1, 4, none⟩ (.int .i64 N2) = V3 := ⟨_, rfl⟩; rw [hV3] at HV3; have HV3 := hide HV3.out.drop; have x0 := (block_cell HV3.out.box 0).trans rfl; have y0 := (block_cell HV3.out.res 0).trans rfl; have f0 := block_free HV3.out.res 0; have x1 := (block_cell HV3.out.box 1).trans rfl; have y1 := (block_cell HV3.out.res 1).trans rfl; have f1 := block_free HV3.out.res 1; have x2 := (block_cell HV3.out.box 2).trans rfl; have y2 := (block_cell HV3.out.res 2).trans rfl; have f2 := block_free HV3.out.res 2; have x3 := (block_cell HV3.out.box 3).trans rfl; have y3 := (block_cell HV3.out.res 3).trans rfl; have f3 := block_free HV3.out.res 3; have x4 := (block_cell HV3.out.box 4).trans rfl; have y4 := (block_cell HV3.out.res 4).trans rfl; have f4 := block_free HV3.out.res 4; have x5 := (block_cell HV3.out.box 5).trans rfl; have y5 := (block_cell HV3.out.res 5).trans rfl; have f5 := block_free HV3.out.res 5))
              obtain ⟨wf, hwf, b6, hbel⟩ := put6 HV3.out.res (Value.string (⟨#[]⟩ : ByteArray)) (Value.string n) (Value.string (⟨#[]⟩ : ByteArray)) (Value.int .i64 0) (Value.int .i64 N2) (Value.bool false)
              rw [hwf]
              have r0 : wf.cell? ⟨w.heap.size, 0, none⟩ = some (.string (⟨#[]⟩ : ByteArray)) := (block_cell b6 0).trans rfl
              have r1 : wf.cell? ⟨w.heap.size, 1, none⟩ = some (.string n) := (block_cell b6 1).trans rfl
              have r2 : wf.cell? ⟨w.heap.size, 2, none⟩ = some (.string (⟨#[]⟩ : ByteArray)) := (block_cell b6 2).trans rfl
              have r3 : wf.cell? ⟨w.heap.size, 3, none⟩ = some (.int .i64 0) := (block_cell b6 3).trans rfl
              have r4 : wf.cell? ⟨w.heap.size, 4, none⟩ = some (.int .i64 N2) := (block_cell b6 4).trans rfl
              have r5 : wf.cell? ⟨w.heap.size, 5, none⟩ = some (.bool false) := (block_cell b6 5).trans rfl
              refine bodyPost_ret (by simp [results, Tryz.results35, go_sem, r0, r1, r2, r3, r4, r5]; try rfl) rfl ?_
              exact ⟨⟨(⟨#[]⟩ : ByteArray), n, (⟨#[]⟩ : ByteArray), 0, N2, false, (by rw [E.out]; rfl), .inl E.out, zM, zF, Nat.zero_le _⟩, hbel _ _ HV3.out.be (Nat.le_refl _)⟩
            | cons z p =>
              by_cases hst : z = ⟨#[42]⟩
              · subst hst
                cases p with
                | nil =>
                  have E := hide (show R = some ((⟨#[]⟩ : ByteArray), n, (⟨#[]⟩ : ByteArray), 0, N2, true) by rw [← hR]; simp [frO, frR, hck, hcallM, hcallF, eR, hwy, plR, pl2, pl3, hP1, hP2, hK2, hN2])
                  clear hR hway hk hck hcallM hcallF hm wF eR hwy hP1 hP2 hK2 hN2
                  go_enter Tryz.func35, Tryz.ntmps35
                  go_wp2_with (first | (go_at_call 53; (refine HCU.out.mono ?_; rintro e U0 ⟨rfl, hu0⟩); have HU := hide (HF0.out.below hu0); clear HCU; have xg := (block_cell HU.out.box 1).trans rfl) | (go_at_call 54; ((with_reducible refine (HWF.out _).mono ?_); rintro e wz ⟨rfl, rfl⟩; clear HWF)) | (go_at_call 13; (refine (HSP.out _ HU.out.mx).mono ?_; rintro e V0 ⟨rfl, hv, hsl, _⟩); have HV0 := hide (FoI.words HU.out hv hsl); clear HSP hsl; have cy := head_o HV0.out) | (go_at_call 34; ((with_reducible refine (P1.out _).mono ?_); rintro e wz ⟨rfl, rfl⟩; clear P1)) | (go_at_call 34; ((with_reducible refine (P2.out _).mono ?_); rintro e wz ⟨rfl, rfl⟩; clear P2)) | (go_at_call 32; (refine (HN2.out _).mono ?_; rintro e V2 ⟨rfl, hv2⟩); have HV2 := hide (HV0.out.below hv2); have fb4 := block_free HV2.out.box 4; have xb4 := (block_cell HV2.out.box 4).trans rfl; have HV3 := hide (HV2.out.set HM.out 4 (.int .i64 N2) (M' := (⟨#[]⟩ : ByteArray)) (F' := n) (f' := (⟨#[]⟩ : ByteArray)) (l' := 0) (a' := N2) (o' := false) rfl); obtain ⟨V3, hV3⟩ : ∃ V3, V2.setCell ⟨w.heap.size + 1, 4, none⟩ (.int .i64 N2) = V3 := ⟨_, rfl⟩; rw [hV3] at HV3; have HV3 := hide HV3.out.drop; have cv := head_o HV3.out; have fb5 := block_free HV3.out.box 5; have xb5 := (block_cell HV3.out.box 5).trans rfl; have HV3s := hide (HV3.out.set HM.out 5 (.bool true) (M' := (⟨#[]⟩ : ByteArray)) (F' := n) (f' := (⟨#[]⟩ : ByteArray)) (l' := 0) (a' := N2) (o' := true) rfl); obtain ⟨V3s, hV3s⟩ : ∃ V3s, V3.setCell ⟨w.heap.size + 1, 5, none⟩ (.bool true) = V3s := ⟨_, rfl⟩; rw [hV3s] at HV3s; have x0 := (block_cell HV3s.out.box 0).trans rfl; have y0 := (block_cell HV3s.out.res 0).trans rfl; have f0 := block_free HV3s.out.res 0; have x1 := (block_cell HV3s.out.box 1).trans rfl; have y1 := (block_cell HV3s.out.res 1).trans rfl; have f1 := block_free HV3s.out.res 1; have x2 := (block_cell HV3s.out.box 2).trans rfl; have y2 := (block_cell HV3s.out.res 2).trans rfl; have f2 := block_free HV3s.out.res 2; have x3 := (block_cell HV3s.out.box 3).trans rfl; have y3 := (block_cell HV3s.out.res 3).trans rfl; have f3 := block_free HV3s.out.res 3; have x4 := (block_cell HV3s.out.box 4).trans rfl; have y4 := (block_cell HV3s.out.res 4).trans rfl; have f4 := block_free HV3s.out.res 4; have x5 := (block_cell HV3s.out.box 5).trans rfl; have y5 := (block_cell HV3s.out.res 5).trans rfl; have f5 := block_free HV3s.out.res 5))
                  obtain ⟨wf, hwf, b6, hbel⟩ := put6 HV3s.out.res (Value.string (⟨#[]⟩ : ByteArray)) (Value.string n) (Value.string (⟨#[]⟩ : ByteArray)) (Value.int .i64 0) (Value.int .i64 N2) (Value.bool true)
                  rw [hwf]
                  have r0 : wf.cell? ⟨w.heap.size, 0, none⟩ = some (.string (⟨#[]⟩ : ByteArray)) := (block_cell b6 0).trans rfl
                  have r1 : wf.cell? ⟨w.heap.size, 1, none⟩ = some (.string n) := (block_cell b6 1).trans rfl
                  have r2 : wf.cell? ⟨w.heap.size, 2, none⟩ = some (.string (⟨#[]⟩ : ByteArray)) := (block_cell b6 2).trans rfl
                  have r3 : wf.cell? ⟨w.heap.size, 3, none⟩ = some (.int .i64 0) := (block_cell b6 3).trans rfl
                  have r4 : wf.cell? ⟨w.heap.size, 4, none⟩ = some (.int .i64 N2) := (block_cell b6 4).trans rfl
                  have r5 : wf.cell? ⟨w.heap.size, 5, none⟩ = some (.bool true) := (block_cell b6 5).trans rfl
                  refine bodyPost_ret (by simp [results, Tryz.results35, go_sem, r0, r1, r2, r3, r4, r5]; try rfl) rfl ?_
                  exact ⟨⟨(⟨#[]⟩ : ByteArray), n, (⟨#[]⟩ : ByteArray), 0, N2, true, (by rw [E.out]; rfl), .inl E.out, zM, zF, Nat.zero_le _⟩, hbel _ _ HV3s.out.be (Nat.le_refl _)⟩
                | cons c1 cs1 =>
                  have hlen9 : ((cs1.length : Int) + 1 == 0) = false := by rw [beq_eq_false_iff_ne]; omega
                  have E := hide (show R = none by rw [← hR]; simp [frO, frR, hck, hcallM, hcallF, eR, hwy, plR, pl2, pl3, hP1, hP2, hK2, hN2])
                  clear hR hway hk hck hcallM hcallF hm wF eR hwy hP1 hP2 hK2 hN2
                  go_enter Tryz.func35, Tryz.ntmps35
                  go_wp2_with (first | (go_at_call 53; (refine HCU.out.mono ?_; rintro e U0 ⟨rfl, hu0⟩); have HU := hide (HF0.out.below hu0); clear HCU; have xg := (block_cell HU.out.box 1).trans rfl) | (go_at_call 54; ((with_reducible refine (HWF.out _).mono ?_); rintro e wz ⟨rfl, rfl⟩; clear HWF)) | (go_at_call 13; (refine (HSP.out _ HU.out.mx).mono ?_; rintro e V0 ⟨rfl, hv, hsl, _⟩); have HV0 := hide (FoI.words HU.out hv hsl); clear HSP hsl; have cy := head_o HV0.out) | (go_at_call 34; ((with_reducible refine (P1.out _).mono ?_); rintro e wz ⟨rfl, rfl⟩; clear P1)) | (go_at_call 34; ((with_reducible refine (P2.out _).mono ?_); rintro e wz ⟨rfl, rfl⟩; clear P2)) | (go_at_call 32; (refine (HN2.out _).mono ?_; rintro e V2 ⟨rfl, hv2⟩); have HV2 := hide (HV0.out.below hv2); have fb4 := block_free HV2.out.box 4; have xb4 := (block_cell HV2.out.box 4).trans rfl; have HV3 := hide (HV2.out.set HM.out 4 (.int .i64 N2) (M' := (⟨#[]⟩ : ByteArray)) (F' := n) (f' := (⟨#[]⟩ : ByteArray)) (l' := 0) (a' := N2) (o' := false) rfl); obtain ⟨V3, hV3⟩ : ∃ V3, V2.setCell ⟨w.heap.size + 1, 4, none⟩ (.int .i64 N2) = V3 := ⟨_, rfl⟩; rw [hV3] at HV3; have HV3 := hide HV3.out.drop; have cv := head_o HV3.out; have fb5 := block_free HV3.out.box 5; have xb5 := (block_cell HV3.out.box 5).trans rfl; have HV3s := hide (HV3.out.set HM.out 5 (.bool true) (M' := (⟨#[]⟩ : ByteArray)) (F' := n) (f' := (⟨#[]⟩ : ByteArray)) (l' := 0) (a' := N2) (o' := true) rfl); obtain ⟨V3s, hV3s⟩ : ∃ V3s, V3.setCell ⟨w.heap.size + 1, 5, none⟩ (.bool true) = V3s := ⟨_, rfl⟩; rw [hV3s] at HV3s; have x0 := (block_cell HV3s.out.box 0).trans rfl; have y0 := (block_cell HV3s.out.res 0).trans rfl; have f0 := block_free HV3s.out.res 0; have x1 := (block_cell HV3s.out.box 1).trans rfl; have y1 := (block_cell HV3s.out.res 1).trans rfl; have f1 := block_free HV3s.out.res 1; have x2 := (block_cell HV3s.out.box 2).trans rfl; have y2 := (block_cell HV3s.out.res 2).trans rfl; have f2 := block_free HV3s.out.res 2; have x3 := (block_cell HV3s.out.box 3).trans rfl; have y3 := (block_cell HV3s.out.res 3).trans rfl; have f3 := block_free HV3s.out.res 3; have x4 := (block_cell HV3s.out.box 4).trans rfl; have y4 := (block_cell HV3s.out.res 4).trans rfl; have f4 := block_free HV3s.out.res 4; have x5 := (block_cell HV3s.out.box 5).trans rfl; have y5 := (block_cell HV3s.out.res 5).trans rfl; have f5 := block_free HV3s.out.res 5))
                  obtain ⟨wf, hwf, b6, hbel⟩ := put6 HV3s.out.res (Value.string (⟨#[]⟩ : ByteArray)) (Value.string n) (Value.string (⟨#[]⟩ : ByteArray)) (Value.int .i64 0) (Value.int .i64 N2) (Value.bool true)
                  rw [hwf]
                  have r0 : wf.cell? ⟨w.heap.size, 0, none⟩ = some (.string (⟨#[]⟩ : ByteArray)) := (block_cell b6 0).trans rfl
                  have r1 : wf.cell? ⟨w.heap.size, 1, none⟩ = some (.string n) := (block_cell b6 1).trans rfl
                  have r2 : wf.cell? ⟨w.heap.size, 2, none⟩ = some (.string (⟨#[]⟩ : ByteArray)) := (block_cell b6 2).trans rfl
                  have r3 : wf.cell? ⟨w.heap.size, 3, none⟩ = some (.int .i64 0) := (block_cell b6 3).trans rfl
                  have r4 : wf.cell? ⟨w.heap.size, 4, none⟩ = some (.int .i64 N2) := (block_cell b6 4).trans rfl
                  have r5 : wf.cell? ⟨w.heap.size, 5, none⟩ = some (.bool true) := (block_cell b6 5).trans rfl
                  refine bodyPost_ret (by simp [results, Tryz.results35, go_sem, r0, r1, r2, r3, r4, r5]; try rfl) rfl ?_
                  exact ⟨⟨(⟨#[]⟩ : ByteArray), n, (⟨#[]⟩ : ByteArray), 0, N2, true, (by rw [E.out]; rfl), .inr E.out, zM, zF, Nat.zero_le _⟩, hbel _ _ HV3s.out.be (Nat.le_refl _)⟩
              · obtain ⟨ne1, ne2⟩ := str_neS hst
                have hlen8 : ((p.length : Int) + 1 == 0) = false := by rw [beq_eq_false_iff_ne]; omega
                have E := hide (show R = none by rw [← hR]; simp [frO, frR, hck, hcallM, hcallF, eR, hwy, plR, pl2, pl3, hP1, hP2, hK2, hN2, hst])
                clear hR hway hk hck hcallM hcallF hm wF eR hwy hP1 hP2 hK2 hN2 hst
                go_enter Tryz.func35, Tryz.ntmps35
                go_wp2_with (first | (go_at_call 53; (refine HCU.out.mono ?_; rintro e U0 ⟨rfl, hu0⟩); have HU := hide (HF0.out.below hu0); clear HCU; have xg := (block_cell HU.out.box 1).trans rfl) | (go_at_call 54; ((with_reducible refine (HWF.out _).mono ?_); rintro e wz ⟨rfl, rfl⟩; clear HWF)) | (go_at_call 13; (refine (HSP.out _ HU.out.mx).mono ?_; rintro e V0 ⟨rfl, hv, hsl, _⟩); have HV0 := hide (FoI.words HU.out hv hsl); clear HSP hsl; have cy := head_o HV0.out) | (go_at_call 34; ((with_reducible refine (P1.out _).mono ?_); rintro e wz ⟨rfl, rfl⟩; clear P1)) | (go_at_call 34; ((with_reducible refine (P2.out _).mono ?_); rintro e wz ⟨rfl, rfl⟩; clear P2)) | (go_at_call 32; (refine (HN2.out _).mono ?_; rintro e V2 ⟨rfl, hv2⟩); have HV2 := hide (HV0.out.below hv2); have fb4 := block_free HV2.out.box 4; have xb4 := (block_cell HV2.out.box 4).trans rfl; have HV3 := hide (HV2.out.set HM.out 4 (.int .i64 N2) (M' := (⟨#[]⟩ : ByteArray)) (F' := n) (f' := (⟨#[]⟩ : ByteArray)) (l' := 0) (a' := N2) (o' := false) rfl); obtain ⟨V3, hV3⟩ : ∃ V3, V2.setCell ⟨w.heap.size + 1, 4, none⟩ (.int .i64 N2) = V3 := ⟨_, rfl⟩; rw [hV3] at HV3; have HV3 := hide HV3.out.drop; have cv := head_o HV3.out; have x0 := (block_cell HV3.out.box 0).trans rfl; have y0 := (block_cell HV3.out.res 0).trans rfl; have f0 := block_free HV3.out.res 0; have x1 := (block_cell HV3.out.box 1).trans rfl; have y1 := (block_cell HV3.out.res 1).trans rfl; have f1 := block_free HV3.out.res 1; have x2 := (block_cell HV3.out.box 2).trans rfl; have y2 := (block_cell HV3.out.res 2).trans rfl; have f2 := block_free HV3.out.res 2; have x3 := (block_cell HV3.out.box 3).trans rfl; have y3 := (block_cell HV3.out.res 3).trans rfl; have f3 := block_free HV3.out.res 3; have x4 := (block_cell HV3.out.box 4).trans rfl; have y4 := (block_cell HV3.out.res 4).trans rfl; have f4 := block_free HV3.out.res 4; have x5 := (block_cell HV3.out.box 5).trans rfl; have y5 := (block_cell HV3.out.res 5).trans rfl; have f5 := block_free HV3.out.res 5))
                obtain ⟨wf, hwf, b6, hbel⟩ := put6 HV3.out.res (Value.string (⟨#[]⟩ : ByteArray)) (Value.string n) (Value.string (⟨#[]⟩ : ByteArray)) (Value.int .i64 0) (Value.int .i64 N2) (Value.bool false)
                rw [hwf]
                have r0 : wf.cell? ⟨w.heap.size, 0, none⟩ = some (.string (⟨#[]⟩ : ByteArray)) := (block_cell b6 0).trans rfl
                have r1 : wf.cell? ⟨w.heap.size, 1, none⟩ = some (.string n) := (block_cell b6 1).trans rfl
                have r2 : wf.cell? ⟨w.heap.size, 2, none⟩ = some (.string (⟨#[]⟩ : ByteArray)) := (block_cell b6 2).trans rfl
                have r3 : wf.cell? ⟨w.heap.size, 3, none⟩ = some (.int .i64 0) := (block_cell b6 3).trans rfl
                have r4 : wf.cell? ⟨w.heap.size, 4, none⟩ = some (.int .i64 N2) := (block_cell b6 4).trans rfl
                have r5 : wf.cell? ⟨w.heap.size, 5, none⟩ = some (.bool false) := (block_cell b6 5).trans rfl
                refine bodyPost_ret (by simp [results, Tryz.results35, go_sem, r0, r1, r2, r3, r4, r5]; try rfl) rfl ?_
                exact ⟨⟨(⟨#[]⟩ : ByteArray), n, (⟨#[]⟩ : ByteArray), 0, N2, false, (by rw [E.out]; rfl), .inr E.out, zM, zF, Nat.zero_le _⟩, hbel _ _ HV3.out.be (Nat.le_refl _)⟩
      · have P1 := hide (fun W => show Calls Tryz.prog 34 #[.string y, .string ⟨#[40]⟩] W fun e w' => e = .returned (.bool true) ∧ w' = W from hP1 ▸ Tryz.strings_HasPrefix y ⟨#[40]⟩ W)
        exact absurd hway (by simp only [wayO, hwy, eR, hP1]; simp; split <;> simp)
    · have eR' : r.toList.isEmpty = true := eR
      have E := hide (show R = some ((⟨#[]⟩ : ByteArray), n, (⟨#[]⟩ : ByteArray), 0, (-1), false) by rw [← hR]; simp [frO, frR, hck, hcallM, hcallF, eR, plR, pl2, pl3])
      clear hR hway hk hck hcallM hcallF hm wF eR
      go_enter Tryz.func35, Tryz.ntmps35
      go_wp2_with (first | (go_at_call 53; (refine HCU.out.mono ?_; rintro e U0 ⟨rfl, hu0⟩); have HU := hide (HF0.out.below hu0); clear HCU; have xg := (block_cell HU.out.box 1).trans rfl; have x0 := (block_cell HU.out.box 0).trans rfl; have y0 := (block_cell HU.out.res 0).trans rfl; have f0 := block_free HU.out.res 0; have x1 := (block_cell HU.out.box 1).trans rfl; have y1 := (block_cell HU.out.res 1).trans rfl; have f1 := block_free HU.out.res 1; have x2 := (block_cell HU.out.box 2).trans rfl; have y2 := (block_cell HU.out.res 2).trans rfl; have f2 := block_free HU.out.res 2; have x3 := (block_cell HU.out.box 3).trans rfl; have y3 := (block_cell HU.out.res 3).trans rfl; have f3 := block_free HU.out.res 3; have x4 := (block_cell HU.out.box 4).trans rfl; have y4 := (block_cell HU.out.res 4).trans rfl; have f4 := block_free HU.out.res 4; have x5 := (block_cell HU.out.box 5).trans rfl; have y5 := (block_cell HU.out.res 5).trans rfl; have f5 := block_free HU.out.res 5) | (go_at_call 54; ((with_reducible refine (HWF.out _).mono ?_); rintro e wz ⟨rfl, rfl⟩; clear HWF)))
      obtain ⟨wf, hwf, b6, hbel⟩ := put6 HU.out.res (Value.string (⟨#[]⟩ : ByteArray)) (Value.string n) (Value.string (⟨#[]⟩ : ByteArray)) (Value.int .i64 0) (Value.int .i64 (-1)) (Value.bool false)
      rw [hwf]
      have r0 : wf.cell? ⟨w.heap.size, 0, none⟩ = some (.string (⟨#[]⟩ : ByteArray)) := (block_cell b6 0).trans rfl
      have r1 : wf.cell? ⟨w.heap.size, 1, none⟩ = some (.string n) := (block_cell b6 1).trans rfl
      have r2 : wf.cell? ⟨w.heap.size, 2, none⟩ = some (.string (⟨#[]⟩ : ByteArray)) := (block_cell b6 2).trans rfl
      have r3 : wf.cell? ⟨w.heap.size, 3, none⟩ = some (.int .i64 0) := (block_cell b6 3).trans rfl
      have r4 : wf.cell? ⟨w.heap.size, 4, none⟩ = some (.int .i64 (-1)) := (block_cell b6 4).trans rfl
      have r5 : wf.cell? ⟨w.heap.size, 5, none⟩ = some (.bool false) := (block_cell b6 5).trans rfl
      refine bodyPost_ret (by simp [results, Tryz.results35, go_sem, r0, r1, r2, r3, r4, r5]; try rfl) rfl ?_
      exact ⟨⟨(⟨#[]⟩ : ByteArray), n, (⟨#[]⟩ : ByteArray), 0, (-1), false, (by rw [E.out]; rfl), .inl E.out, zM, zF, Nat.zero_le _⟩, hbel _ _ HU.out.be (Nat.le_refl _)⟩
end Go.Proofs.YtkjpojaanocfjaaGreatDoor
