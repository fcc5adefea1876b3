/- Walk of the reference's pairs (printed by gen_fp.py). -/
import Derived.Test.YtkjpojaanocfjaaGreatDoorStRfL
namespace Go.Proofs.YtkjpojaanocfjaaGreatDoor
open Go.RowKit
set_option linter.unusedVariables false
set_option linter.unusedSimpArgs false
/-- The lines, as the reference has them. -/
structure Lns (B bb oo n : Nat) (L : List ByteArray) (w : World) : Prop where
  sl : Sl w B cs 1 (some ⟨bb, oo, none⟩) n L
  szs : ∀ x ∈ L, x.size ≤ 1000000
  nl : n ≤ 1000000
  mp : 0 < B
  mx : Mx w
theorem Lns.up {B bb oo n : Nat} {L : List ByteArray} {w w' : World} (h : Lns B bb oo n L w) (hb : Below B w w') : Lns B bb oo n L w' :=
  ⟨h.sl.below hb, h.szs, h.nl, h.mp, h.mx.keep hb h.mp⟩
theorem Lns.line {B bb oo n k : Nat} {L : List ByteArray} {w : World} (h : Lns B bb oo n L w) (hk : k < n) : ∃ x, L[k]? = some x ∧ x.size ≤ 1000000 ∧ w.cell? ⟨bb, oo + k, none⟩ = some (.string x) := by
  obtain ⟨b, o, x, e, _, hx, hc⟩ := h.sl.at_ hk
  simp at e
  obtain ⟨rfl, rfl⟩ := e
  refine ⟨x, hx, h.szs x (List.mem_of_getElem? hx), ?_⟩
  have := hc 0 _ rfl
  simpa using this
/-- What a reader of the reference answers. -/
def RfOut (B : Nat) (R : RdR) (e : Ending) (w' : World) : Prop := ∃ v l z, e = .returned (.tuple #[v, .int .i64 z]) ∧ z = (R.2 : Int) - 1 ∧ Fts B w' v l ∧ l.map FaultT.flt = R.1.getD []
theorem RfOut.bad {B : Nat} {R : RdR} {w' : World} {k : Nat} {z : Int} (h : R = (none, k)) (hz : z = (k : Int) - 1) : RfOut B R (.returned (.tuple #[.slice none 0 0, .int .i64 z])) w' :=
  ⟨_, [], z, rfl, by rw [h]; exact hz, Fts.nil _ _, by rw [h]; rfl⟩
theorem hasP_drop {x pre : ByteArray} (h : hasP x pre = true) : (⟨(Lib.trimPrefix x.data.toList pre.data.toList).toArray⟩ : ByteArray) = x.extract pre.size x.size := by
  unfold hasP at h
  unfold Lib.trimPrefix
  rw [if_pos h]
  apply ByteArray.ext
  apply Array.toList_inj.1
  rw [Lib.extract_to_end, len_size']
theorem hasP_none {x pre : ByteArray} (h : hasP x pre = false) : (⟨(Lib.trimPrefix x.data.toList pre.data.toList).toArray⟩ : ByteArray) = x := by
  unfold Lib.trimPrefix
  rw [if_neg (by unfold hasP at h; rw [h]; decide)]
theorem begK_at {L : List ByteArray} {k : Nat} {x pre : ByteArray} (h : L[k]? = some x) : begK L k pre = hasP x pre := by unfold begK hasP; rw [h]
theorem lineR_at {L : List ByteArray} {k : Nat} {x pre : ByteArray} (h : L[k]? = some x) : lineR L k pre = x.extract pre.size x.size := by unfold lineR; rw [h]
theorem begK_out {L : List ByteArray} {k : Nat} {pre : ByteArray} (h : L.length ≤ k) : begK L k pre = false := by unfold begK; rw [List.getElem?_eq_none h]
theorem frO_call (x : ByteArray) : (frO x ⟨#[]⟩).isSome = callK x := by
  unfold frO frR
  rw [emptyB_nil]
  simp only [if_true]
  cases callK x <;> simp [plR, pl2, pl3]
theorem FBox.keepF {p F : Nat} {w w' : World} {v : Value} {K T : ByteArray} {fs : List Frame} (h : FBox F K T v fs w) (hg : w.grownBy w' v.ownBlock) (u : Value) : Below F w (w'.setCell ⟨F, 2, none⟩ u) := (h.keepB (p := F) hg (Nat.le_refl F) u).be
set_option maxRecDepth 100000 in
set_option maxHeartbeats 16000000 in
theorem pairs_any {bb oo n c : Nat} {L : List ByteArray} {w : World} (h : Lns w.heap.size bb oo n L w) :
    Calls Tryz.prog 16 #[.slice (some ⟨bb, oo, none⟩) n c] w fun e w' => RfOut w.heap.size (parR L (L.length + 1) 0 []) e w' ∧ Below w.heap.size w w' := by
  have hn := h.nl
  have hlen := h.sl.len
  have H0 := hide h
  clear h
  obtain ⟨RR, hRR⟩ : ∃ RR, parR L (L.length + 1) 0 [] = RR := ⟨_, rfl⟩
  rw [hRR]
  have HRR := hide hRR
  have HLEN := hide hlen
  clear hRR hlen
  obtain ⟨i0, hi0, iz0, iz1, iz2⟩ := info_parts info_fault
  obtain ⟨j0, hj0, jz0, jz1, jz2⟩ := info_parts info_frame
  go_enter Tryz.func16, Tryz.ntmps16
  go_wp2_with (fail)
  go_loopw [4, 5] (fun v i wr => ∃ (l : List FaultT) (k : Nat), i = .int .i64 (k : Int) ∧ k ≤ n ∧ Below w.heap.size w wr ∧ Fts w.heap.size wr v l ∧ l.length ≤ k ∧ (((l.length = 0 ∨ k < n) ∧ parR L (L.length - k + 1) k (l.map FaultT.flt) = RR) ∨ (¬ l.length = 0 ∧ k = n ∧ RR = (some (l.map FaultT.flt), 0)))) (fun _ i _ => n - (intOf i).toNat)
  case atStart => exact ⟨[], 0, rfl, Nat.zero_le _, Below.refl _ _, Fts.nil _ _, Nat.le_refl _, .inl ⟨.inl rfl, HRR.out⟩⟩
  case round =>
    obtain ⟨l, k, rfl, hkn, hB, hF, hlk, hor⟩ := hrel
    have HF := hide hF
    have HB := hide hB
    have hz := hB.size
    obtain ⟨lA, lc, rfl⟩ := own_sl hF.out
    have HLN := hide (H0.out.up hB)
    clear hB hF
    rcases hor with ⟨hlo, hRk⟩ | ⟨hl0, hke, hRR⟩
    · skip
      have HRK := hide hRk
      clear hRk
      by_cases hk : k < n
      · obtain ⟨x0, hx0, hz0, c0⟩ := HLN.out.line hk
        have hki : (k : Int) < (n : Int) := by omega
        have hkne : ((k : Int) == (n : Int)) = false := by rw [beq_eq_false_iff_ne]; omega
        have HX0 := hide hx0
        have hcp := fun W => Tryz.strings_CutPrefix x0 ⟨#[102, 97, 117, 108, 116, 32]⟩ W
        have hfs : fltS L k preFlt = if hasP x0 preFlt && headK (x0.extract preFlt.size x0.size) then some (cutL (x0.extract preFlt.size x0.size) 58, headS (x0.extract preFlt.size x0.size)) else none := by
          unfold fltS; rw [begK_at hx0, lineR_at hx0]
        clear hx0
        cases hp0 : hasP x0 preFlt
        · skip
          have hcp : ∀ W, Calls Tryz.prog 27 #[.string x0, .string ⟨#[102, 97, 117, 108, 116, 32]⟩] W fun e w' => e = .returned (.tuple #[.string x0, .bool false]) ∧ w' = W := fun W => by
            have h9 := hcp W
            rw [hasP_none (pre := ⟨#[102, 97, 117, 108, 116, 32]⟩) hp0, show Lib.hasPrefix x0.data.toList (⟨#[102, 97, 117, 108, 116, 32]⟩ : ByteArray).data.toList = false from hp0] at h9
            exact h9
          have HCP := hide hcp
          have E := hide (show RR = (none, k + 1) by rw [← HRK.out]; exact par_last (by unfold parStep; rw [hfs, hp0]; rfl))
          clear hcp hfs hp0
          go_wp2_with (first | (go_at_call 27; refine (HCP.out _).mono ?_; rintro e wz ⟨rfl, rfl⟩; clear HCP) | (go_at_call 28; refine (headLine_any x0 _ (by omega) HLN.out.mx).mono ?_; rintro e w1 ⟨⟨X, Y, rfl, hxy, zx', zy'⟩, hb1⟩; have HB1 := hide (HB.out.trans (hb1.mono hz)); clear hxy hb1))
          have hal : ∀ ob, Below w.heap.size w (w1.alloc ob) := fun ob => HB1.out.alloc HB1.out.size ob
          refine bodyPost_ret (by simp [results, Tryz.results16, go_sem]; try rfl) rfl ?_
          exact ⟨RfOut.bad E.out (by omega), hal _⟩
        · have hcp : ∀ W, Calls Tryz.prog 27 #[.string x0, .string ⟨#[102, 97, 117, 108, 116, 32]⟩] W fun e w' => e = .returned (.tuple #[.string (x0.extract preFlt.size x0.size), .bool true]) ∧ w' = W := fun W => by
            have h9 := hcp W
            rw [hasP_drop (pre := ⟨#[102, 97, 117, 108, 116, 32]⟩) hp0, show Lib.hasPrefix x0.data.toList (⟨#[102, 97, 117, 108, 116, 32]⟩ : ByteArray).data.toList = true from hp0] at h9
            exact h9
          have hzx : (x0.extract preFlt.size x0.size).size ≤ 1000000 := by rw [ByteArray.size_extract]; omega
          obtain ⟨S, hS⟩ : ∃ S, x0.extract preFlt.size x0.size = S := ⟨_, rfl⟩
          simp only [hS] at hcp hzx
          rw [hS, hp0] at hfs
          simp only [Bool.true_and] at hfs
          have HCP := hide hcp
          have hhl := fun W (H : Mx W) => headLine_any S W hzx H
          simp only [HdOut] at hhl
          clear hcp hS hp0
          cases hhk : headK S
          · skip
            have E := hide (show RR = (none, k + 1) by rw [← HRK.out]; exact par_last (by unfold parStep; rw [hfs, hhk]; rfl))
            simp only [hhk] at hhl
            have HHL := hide hhl
            clear hhl hfs hhk
            go_wp2_with (first | (go_at_call 27; refine (HCP.out _).mono ?_; rintro e wz ⟨rfl, rfl⟩; clear HCP) | (go_at_call 28; refine (HHL.out _ HLN.out.mx).mono ?_; rintro e w1 ⟨⟨X, Y, rfl, hxy, zx', zy'⟩, hb1⟩; have HB1 := hide (HB.out.trans (hb1.mono hz)); clear hxy hb1))
            have hal : ∀ ob, Below w.heap.size w (w1.alloc ob) := fun ob => HB1.out.alloc HB1.out.size ob
            refine bodyPost_ret (by simp [results, Tryz.results16, go_sem]; try rfl) rfl ?_
            exact ⟨RfOut.bad E.out (by omega), hal _⟩
          · skip
            have hst : parStep L k (l.map FaultT.flt) = if (parFrs L (L.length - (k + 1)) (k + 1) []).1 = 0 then
                  (if (parFrs L (L.length - (k + 1)) (k + 1) []).2.1 = L.length then .inl (some (l.map FaultT.flt ++ [⟨cutL S 58, headS S, (parFrs L (L.length - (k + 1)) (k + 1) []).2.2⟩]), 0)
                   else .inr ((parFrs L (L.length - (k + 1)) (k + 1) []).2.1, l.map FaultT.flt ++ [⟨cutL S 58, headS S, (parFrs L (L.length - (k + 1)) (k + 1) []).2.2⟩]))
                else .inl (none, (parFrs L (L.length - (k + 1)) (k + 1) []).1) := by unfold parStep; rw [hfs, hhk]; rfl
            simp only [hhk] at hhl
            have HHL := hide hhl
            obtain ⟨RF, hRF⟩ : ∃ RF, parFrs L (L.length - (k + 1)) (k + 1) [] = RF := ⟨_, rfl⟩
            rw [hRF] at hst
            have HST := hide hst
            have HRF := hide hRF
            clear hhl hfs hhk hst hRF
            go_wp2_with (first | (go_at_call 27; refine (HCP.out _).mono ?_; rintro e wz ⟨rfl, rfl⟩; clear HCP) | (go_at_call 28; refine (HHL.out _ HLN.out.mx).mono ?_; rintro e w1 ⟨⟨X, Y, rfl, hxy, zx', zy'⟩, hb1⟩; have HB1 := hide (HB.out.trans (hb1.mono hz)); have hx1 := (hxy (by simp)).1; have hy1 := (hxy (by simp)).2; have HSTEP := hide HST.out; rw [← hx1, ← hy1] at HSTEP; have zx : X.size ≤ 1000000 := (by omega); have zy : Y.size ≤ 1000000 := (by omega); have HT1 := hide (HF.out.below hb1); have hz1 := HB1.out.size; clear hxy hb1 hx1 hy1) | fail)
            have HFB0 := hide (FBox.new w1 X Y)
            have HB0 := hide (fun ob : Obj => (Below.refl w1.heap.size w1).alloc (Nat.le_refl _) ob)
            go_loopw [5] (fun i wr2 => ∃ (k1 : Nat) (fs : List Frame) (v : Value), i = .int .i64 (k1 : Int) ∧ k1 ≤ n ∧ FBox w1.heap.size X Y v fs wr2 ∧ Below w1.heap.size w1 wr2 ∧ fs.length + (k + 1) ≤ k1 ∧ parFrs L (L.length - k1) k1 fs = RF) (fun i _ => n - (intOf i).toNat)
            case atStart => exact ⟨k + 1, [], _, by go_num, by omega, HFB0.out, HB0.out _, by simp, HRF.out⟩
            case round =>
              obtain ⟨k1, fs, v, rfl, hk1n, hF2, hK2, hfs, hR2⟩ := hrel
              obtain ⟨A2, c2, rfl⟩ := own_sl hF2.row
              have HF2 := hide hF2
              have HK2 := hide hK2
              have HB2 := hide (HB1.out.trans (hK2.mono hz1))
              have HR2 := hide hR2
              have HLN2 := hide (H0.out.up HB2.out)
              have hz2 := hK2.size
              have hF2lt := hF2.lt
              clear hF2 hK2 hR2
              by_cases hk1 : k1 < n
              · obtain ⟨x, hx, hxs, c1⟩ := HLN2.out.line hk1
                have hk1i : (k1 : Int) < (n : Int) := by omega
                have HPF := hide (fun W => Tryz.strings_HasPrefix x ⟨#[102, 97, 117, 108, 116, 32]⟩ W)
                have hbx := begK_at (pre := preFlt) hx
                cases hbg : hasP x preFlt
                · rw [show Lib.hasPrefix x.data.toList (⟨#[102, 97, 117, 108, 116, 32]⟩ : ByteArray).data.toList = false from hbg] at HPF
                  rw [hbg] at hbx
                  have hfc := fun W (H : Mx W) => frameOf_any x ⟨#[]⟩ W hxs (Nat.zero_le _) H
                  have hsc := frO_call x
                  obtain ⟨R0, hR0⟩ : ∃ R0, frO x ⟨#[]⟩ = R0 := ⟨_, rfl⟩
                  simp only [hR0, FoOut, frAgg] at hfc hsc
                  simp only [hsc] at hfc
                  cases hck : callK x
                  · skip
                    have E := hide (show RR = (none, k1 + 1) by rw [← HRK.out]; exact par_last (by rw [HSTEP.out, ← HR2.out, par_call hx hbx hck]; rfl))
                    simp only [hck] at hfc
                    have HFC := hide hfc
                    clear hfc hsc hR0 hck hbx hbg hx
                    go_wp2_with (first | (go_at_call 34; ((with_reducible refine (HPF.out _).mono ?_); rintro e wz ⟨rfl, hwz⟩; have hwz := hwz.symm; subst hwz; clear HPF)) | (go_at_call 35; refine (HFC.out _ HLN2.out.mx).mono ?_; rintro e w3 ⟨⟨M0, G0, f0, li0, ad0, ow0, rfl, _, zM0, zG0, zf0⟩, hb3⟩; clear HFC; have HB3 := hide (HB2.out.trans (hb3.mono HB2.out.size)); have HK3 := hide (HK2.out.trans (hb3.mono hz2)); have HF3 := hide (HF2.out.below hb3); have hz3 := hb3.size; clear hb3) | fail)
                    have hal : ∀ ob, Below w.heap.size w (w3.alloc ob) := fun ob => HB3.out.alloc HB3.out.size ob
                    refine bodyPost_ret (by simp [results, Tryz.results16, go_sem]; try rfl) rfl ?_
                    exact ⟨RfOut.bad E.out (by omega), hal _⟩
                  · simp only [hck] at hfc
                    have HFC := hide hfc
                    clear hfc hsc hR0
                    by_cases hk2 : k1 + 1 = n
                    · skip
                      have hbt : begK L (k1 + 1) preTab = false := begK_out (by rw [HLEN.out]; omega)
                      have E := hide (show RR = (none, k1 + 2) by rw [← HRK.out]; exact par_last (by rw [HSTEP.out, ← HR2.out, par_tab hx hbx hck hbt]; rfl))
                      have hke2 : ((k1 : Int) + 1 == (n : Int)) = true := by rw [beq_iff_eq]; omega
                      have HK2E := hide hk2
                      clear hck hbx hbg hx hbt hk2
                      go_wp2_with (first | (go_at_call 34; ((with_reducible refine (HPF.out _).mono ?_); rintro e wz ⟨rfl, hwz⟩; have hwz := hwz.symm; subst hwz; clear HPF)) | (go_at_call 35; refine (HFC.out _ HLN2.out.mx).mono ?_; rintro e w3 ⟨⟨M0, G0, f0, li0, ad0, ow0, rfl, _, zM0, zG0, zf0⟩, hb3⟩; clear HFC; have HB3 := hide (HB2.out.trans (hb3.mono HB2.out.size)); have HK3 := hide (HK2.out.trans (hb3.mono hz2)); have HF3 := hide (HF2.out.below hb3); have hz3 := hb3.size; clear hb3) | fail)
                      have hal : ∀ ob, Below w.heap.size w (w3.alloc ob) := fun ob => HB3.out.alloc HB3.out.size ob
                      refine bodyPost_ret (by simp [results, Tryz.results16, go_sem]; try rfl) rfl ?_
                      exact ⟨RfOut.bad E.out (by omega), hal _⟩
                    · have hke2 : ((k1 : Int) + 1 == (n : Int)) = false := by rw [beq_eq_false_iff_ne]; omega
                      have hk3 : k1 + 1 < n := by omega
                      have hk3i : (k1 : Int) + 1 < (n : Int) := by omega
                      obtain ⟨y, hy, hys, _⟩ := HLN2.out.line hk3
                      have HCL := hide (show ∀ W, Lns w.heap.size bb oo n L W → W.cell? ⟨bb, oo + (k1 + 1), none⟩ = some (.string y) ∧ W.cell? ⟨bb, oo + k1, none⟩ = some (.string x) from fun W H => by
                        obtain ⟨y', hy', _, h1⟩ := H.line hk3
                        obtain ⟨x', hx', _, h2⟩ := H.line hk1
                        rw [hy] at hy'
                        rw [hx] at hx'
                        obtain rfl := Option.some.inj hy'
                        obtain rfl := Option.some.inj hx'
                        exact ⟨h1, h2⟩)
                      have hct := fun W => Tryz.strings_CutPrefix y ⟨#[9]⟩ W
                      have hbty := begK_at (pre := preTab) hy
                      have hlty := lineR_at (pre := preTab) hy
                      cases hbt : hasP y preTab
                      · skip
                        rw [hbt] at hbty
                        have hct : ∀ W, Calls Tryz.prog 27 #[.string y, .string ⟨#[9]⟩] W fun e w' => e = .returned (.tuple #[.string y, .bool false]) ∧ w' = W := fun W => by
                          have h9 := hct W
                          rw [hasP_none (pre := ⟨#[9]⟩) hbt, show Lib.hasPrefix y.data.toList (⟨#[9]⟩ : ByteArray).data.toList = false from hbt] at h9
                          exact h9
                        have HCT := hide hct
                        have hfd := fun W (H : Mx W) => frameOf_any x y W hxs hys H
                        simp only [FoOut, frAgg] at hfd
                        obtain ⟨R1, hR1⟩ : ∃ R1, frO x y = R1 := ⟨_, rfl⟩
                        simp only [hR1] at hfd
                        have HFD := hide hfd
                        have E := hide (show RR = (none, k1 + 2) by rw [← HRK.out]; exact par_last (by rw [HSTEP.out, ← HR2.out, par_tab hx hbx hck hbty]; rfl))
                        clear hck hbx hbg hx hbt hbty hlty hct hfd hy hR1
                        go_wp2_with (first | (go_at_call 34; ((with_reducible refine (HPF.out _).mono ?_); rintro e wz ⟨rfl, hwz⟩; have hwz := hwz.symm; subst hwz; clear HPF)) | (go_at_call 35; refine (HFC.out _ HLN2.out.mx).mono ?_; rintro e w3 ⟨⟨M0, G0, f0, li0, ad0, ow0, rfl, _, zM0, zG0, zf0⟩, hb3⟩; clear HFC; have HB3 := hide (HB2.out.trans (hb3.mono HB2.out.size)); have HK3 := hide (HK2.out.trans (hb3.mono hz2)); have HF3 := hide (HF2.out.below hb3); have hz3 := hb3.size; clear hb3; have hal3 := fun ob : Obj => (Below.refl w3.heap.size w3).alloc (Nat.le_refl _) ob; obtain ⟨w4, hw4⟩ : ∃ w4, w3.alloc (.cells #[.string M0, .string G0, .string f0, .int .i64 li0, .int .i64 ad0, .bool ow0] 43) = w4 := ⟨_, rfl⟩; have hb4 : Below w3.heap.size w3 w4 := hw4 ▸ hal3 _; have HB4 := hide (HB3.out.trans (hb4.mono HB3.out.size)); have HK4 := hide (HK3.out.trans (hb4.mono (Nat.le_trans hz2 hz3))); have HF4 := hide (HF3.out.below hb4); have HLN4 := hide (H0.out.up HB4.out); have hz4 := hb4.size; clear hb4 hal3; obtain ⟨d1, d2⟩ := HCL.out _ HLN4.out) | (go_at_call 27; refine (HCT.out _).mono ?_; rintro e wz ⟨rfl, rfl⟩; clear HCT) | (go_at_call 35; refine (HFD.out _ HLN4.out.mx).mono ?_; rintro e w5 ⟨⟨M, G, f, li, ad, ow, rfl, hor, zM, zG, zf⟩, hb5⟩; clear HFD; have HB5 := hide (HB4.out.trans (hb5.mono HB4.out.size)); have HK5 := hide (HK4.out.trans (hb5.mono (Nat.le_trans (Nat.le_trans hz2 hz3) hz4))); have HF5 := hide (HF4.out.below hb5); have hz5 := hb5.size; clear hb5; clear hor) | fail)
                        have hal : ∀ ob, Below w.heap.size w (w5.alloc ob) := fun ob => HB5.out.alloc HB5.out.size ob
                        refine bodyPost_ret (by simp [results, Tryz.results16, go_sem]; try rfl) rfl ?_
                        exact ⟨RfOut.bad E.out (by omega), hal _⟩
                      · rw [hbt] at hbty
                        have hct : ∀ W, Calls Tryz.prog 27 #[.string y, .string ⟨#[9]⟩] W fun e w' => e = .returned (.tuple #[.string (y.extract preTab.size y.size), .bool true]) ∧ w' = W := fun W => by
                          have h9 := hct W
                          rw [hasP_drop (pre := ⟨#[9]⟩) hbt, show Lib.hasPrefix y.data.toList (⟨#[9]⟩ : ByteArray).data.toList = true from hbt] at h9
                          exact h9
                        have hzy : (y.extract preTab.size y.size).size ≤ 1000000 := by rw [ByteArray.size_extract]; omega
                        obtain ⟨T, hT⟩ : ∃ T, y.extract preTab.size y.size = T := ⟨_, rfl⟩
                        simp only [hT] at hct hzy hlty
                        have HCT := hide hct
                        have hfd := fun W (H : Mx W) => frameOf_any x T W hxs hzy H
                        simp only [FoOut, frAgg] at hfd
                        obtain ⟨R1, hR1⟩ : ∃ R1, frO x T = R1 := ⟨_, rfl⟩
                        simp only [hR1] at hfd
                        have HFD := hide hfd
                        clear hct hfd hT
                        cases R1 with
                        | none =>
                          have E := hide (show RR = (none, k1 + 2) by rw [← HRK.out]; exact par_last (by rw [HSTEP.out, ← HR2.out, par_bad hx hbx hck hbty (by rw [hlty]; exact hR1)]; rfl))
                          clear hck hbx hbg hx hbt hbty hlty hy hR1
                          go_wp2_with (first | (go_at_call 34; ((with_reducible refine (HPF.out _).mono ?_); rintro e wz ⟨rfl, hwz⟩; have hwz := hwz.symm; subst hwz; clear HPF)) | (go_at_call 35; refine (HFC.out _ HLN2.out.mx).mono ?_; rintro e w3 ⟨⟨M0, G0, f0, li0, ad0, ow0, rfl, _, zM0, zG0, zf0⟩, hb3⟩; clear HFC; have HB3 := hide (HB2.out.trans (hb3.mono HB2.out.size)); have HK3 := hide (HK2.out.trans (hb3.mono hz2)); have HF3 := hide (HF2.out.below hb3); have hz3 := hb3.size; clear hb3; have hal3 := fun ob : Obj => (Below.refl w3.heap.size w3).alloc (Nat.le_refl _) ob; obtain ⟨w4, hw4⟩ : ∃ w4, w3.alloc (.cells #[.string M0, .string G0, .string f0, .int .i64 li0, .int .i64 ad0, .bool ow0] 43) = w4 := ⟨_, rfl⟩; have hb4 : Below w3.heap.size w3 w4 := hw4 ▸ hal3 _; have HB4 := hide (HB3.out.trans (hb4.mono HB3.out.size)); have HK4 := hide (HK3.out.trans (hb4.mono (Nat.le_trans hz2 hz3))); have HF4 := hide (HF3.out.below hb4); have HLN4 := hide (H0.out.up HB4.out); have hz4 := hb4.size; clear hb4 hal3; obtain ⟨d1, d2⟩ := HCL.out _ HLN4.out) | (go_at_call 27; refine (HCT.out _).mono ?_; rintro e wz ⟨rfl, rfl⟩; clear HCT) | (go_at_call 35; refine (HFD.out _ HLN4.out.mx).mono ?_; rintro e w5 ⟨⟨M, G, f, li, ad, ow, rfl, hor, zM, zG, zf⟩, hb5⟩; clear HFD; have HB5 := hide (HB4.out.trans (hb5.mono HB4.out.size)); have HK5 := hide (HK4.out.trans (hb5.mono (Nat.le_trans (Nat.le_trans hz2 hz3) hz4))); have HF5 := hide (HF4.out.below hb5); have hz5 := hb5.size; clear hb5; clear hor) | fail)
                          have hal : ∀ ob, Below w.heap.size w (w5.alloc ob) := fun ob => HB5.out.alloc HB5.out.size ob
                          refine bodyPost_ret (by simp [results, Tryz.results16, go_sem]; try rfl) rfl ?_
                          exact ⟨RfOut.bad E.out (by omega), hal _⟩
                        | some q =>
                          have hR4 : parFrs L (L.length - (k1 + 2)) (k1 + 2) (fs ++ [frmF q]) = RF := (par_step hx hbx hck hbty (by rw [hlty]; exact hR1)).symm.trans HR2.out
                          have HR4 := hide hR4
                          clear hck hbx hbg hx hbt hbty hlty hy hR1 hR4
                          go_wp2_with (first | (go_at_call 34; ((with_reducible refine (HPF.out _).mono ?_); rintro e wz ⟨rfl, hwz⟩; have hwz := hwz.symm; subst hwz; clear HPF)) | (go_at_call 35; refine (HFC.out _ HLN2.out.mx).mono ?_; rintro e w3 ⟨⟨M0, G0, f0, li0, ad0, ow0, rfl, _, zM0, zG0, zf0⟩, hb3⟩; clear HFC; have HB3 := hide (HB2.out.trans (hb3.mono HB2.out.size)); have HK3 := hide (HK2.out.trans (hb3.mono hz2)); have HF3 := hide (HF2.out.below hb3); have hz3 := hb3.size; clear hb3; have hal3 := fun ob : Obj => (Below.refl w3.heap.size w3).alloc (Nat.le_refl _) ob; obtain ⟨w4, hw4⟩ : ∃ w4, w3.alloc (.cells #[.string M0, .string G0, .string f0, .int .i64 li0, .int .i64 ad0, .bool ow0] 43) = w4 := ⟨_, rfl⟩; have hb4 : Below w3.heap.size w3 w4 := hw4 ▸ hal3 _; have HB4 := hide (HB3.out.trans (hb4.mono HB3.out.size)); have HK4 := hide (HK3.out.trans (hb4.mono (Nat.le_trans hz2 hz3))); have HF4 := hide (HF3.out.below hb4); have HLN4 := hide (H0.out.up HB4.out); have hz4 := hb4.size; clear hb4 hal3; obtain ⟨d1, d2⟩ := HCL.out _ HLN4.out) | (go_at_call 27; refine (HCT.out _).mono ?_; rintro e wz ⟨rfl, rfl⟩; clear HCT) | (go_at_call 35; refine (HFD.out _ HLN4.out.mx).mono ?_; rintro e w5 ⟨⟨M, G, f, li, ad, ow, rfl, hor, zM, zG, zf⟩, hb5⟩; clear HFD; have HB5 := hide (HB4.out.trans (hb5.mono HB4.out.size)); have HK5 := hide (HK4.out.trans (hb5.mono (Nat.le_trans (Nat.le_trans hz2 hz3) hz4))); have HF5 := hide (HF4.out.below hb5); have hz5 := hb5.size; clear hb5; have hq9 : q = (M, G, f, li, ad, ow) := Option.some.inj (hor.resolve_right (fun e => by cases e)); subst hq9; clear hor; have HALA := hide (fun ob ob2 : Obj => ((Below.refl w5.heap.size w5).alloc (Nat.le_refl _) ob).alloc (by simp) ob2); have hF5lt := HF5.out.lt; have fr5 := block_free HF5.out.box 2; have x2 : w5.cell? ⟨w1.heap.size, 2, none⟩ = some (.slice A2 fs.length c2) := (block_cell HF5.out.box 2).trans rfl) | (at_builtin; refine wpList_append_own _ rfl (.tmp 111) (.tmp 113) 38 rfl (w1.heap.size + 1) 43 j0 (.agg #[.string ByteArray.empty, .string ByteArray.empty, .string ByteArray.empty, .int .i64 0, .int .i64 0, .bool false]) 6 72 Tryz.underlying38 hj0 jz0 jz1 jz2 rfl (by decide) (.slice A2 fs.length c2) fs.length (fs.flatMap Frame.cs) rfl ((HF5.out.row.alloc _).alloc _) ⟨w5.heap.size + 1, 0, none⟩ 1 1 [.string M, .string G, .string f, .int .i64 li, .int .i64 ad, .bool ow] rfl rfl (cells_at _ [.string M, .string G, .string f, .int .i64 li, .int .i64 ad, .bool ow] _ _ (by simp)) (by intro u hu; simp at hu; rcases hu with rfl | rfl | rfl | rfl | rfl | rfl <;> rfl) (by unfold maxLen; omega) (by omega) (by simp; omega) ?_; intro vA wA hownA hgA _; obtain ⟨AA, cA, rfl⟩ := own_sl hownA; have hadd := (HF5.out.below (HALA.out _ _)).add (es := [frmF (M, G, f, li, ad, ow)]) hgA hownA (fun y hy => by simp at hy; subst hy; exact frmF_fit zM zG zf); have hkb := (HF5.out.below (HALA.out _ _)).keepF (p := 0) hgA (.slice AA (fs.length + 1) cA); have fA := block_free hadd.1 2; have yA : wA.cell? ⟨w1.heap.size, 2, none⟩ = some (.slice A2 fs.length c2) := (block_cell hadd.1 2).trans rfl; have HFB := hide hadd.2; have HKB := hide ((HK5.out.trans ((HALA.out _ _).mono (by omega))).trans hkb); clear hownA hgA hadd hkb) | fail)
                          go_roundw
                          case rel => exact ⟨k1 + 2, fs ++ [frmF (M, G, f, li, ad, ow)], _, by go_num, by omega, HFB.out, HKB.out, by rw [List.length_append]; simp; omega, HR4.out⟩
                          case measure => simp [intOf]; omega
                · skip
                  rw [show Lib.hasPrefix x.data.toList (⟨#[102, 97, 117, 108, 116, 32]⟩ : ByteArray).data.toList = true from hbg] at HPF
                  rw [hbg] at hbx
                  have hRF2 : RF = (0, k1, fs) := HR2.out.symm.trans (par_flt hx hbx)
                  have hne : ¬ k1 = L.length := by have := HLEN.out; omega
                  have E := hide (show parR L (L.length - k1 + 1) k1 (l.map FaultT.flt ++ [⟨X, Y, fs⟩]) = RR by rw [← HRK.out]; exact (par_next (by rw [HSTEP.out, hRF2]; simp only [if_neg hne, if_true])).symm)
                  clear hRF2 hbg hbx hx hne
                  have HT7 := hide (HT1.out.keep (p := w1.heap.size) (F := w1.heap.size) (KeepB.of_below HK2.out (Nat.le_refl _) (Nat.le_refl _)) (Nat.le_refl _) (.inr (Nat.le_refl _)))
                  have hx7 := HF2.out.flt (B := w.heap.size) zx zy (by omega) (by omega)
                  have HX7 : Hid ((FaultT.mk X Y A2 fs.length c2 fs).ok wr ∧ FIn w.heap.size wr (FaultT.mk X Y A2 fs.length c2 fs)) := hide (by obtain ⟨a9, c9, e9, h9⟩ := hx7; simp at e9; obtain ⟨rfl, rfl⟩ := e9; exact h9)
                  clear hx7
                  have z0 : wr.cell? ⟨w1.heap.size, 0, none⟩ = some (.string X) := (block_cell HF2.out.box 0).trans rfl
                  have z1 : wr.cell? ⟨w1.heap.size, 1, none⟩ = some (.string Y) := (block_cell HF2.out.box 1).trans rfl
                  have z2 : wr.cell? ⟨w1.heap.size, 2, none⟩ = some (.slice A2 fs.length c2) := (block_cell HF2.out.box 2).trans rfl
                  have HAL := hide (fun ob : Obj => (Below.refl wr.heap.size wr).alloc (Nat.le_refl _) ob)
                  go_wp2_with (first | (go_at_call 34; ((with_reducible refine (HPF.out _).mono ?_); rintro e wz ⟨rfl, hwz⟩; have hwz := hwz.symm; subst hwz; clear HPF)) | (at_builtin; refine wpList_append_own _ rfl (.tmp 116) (.tmp 118) 22 rfl w.heap.size 40 i0 (.agg #[.string ByteArray.empty, .string ByteArray.empty, .slice none 0 0]) 3 56 Tryz.underlying22 hi0 iz0 iz1 iz2 rfl (by decide) (.slice lA l.length lc) l.length (l.flatMap FaultT.cs) rfl (HT7.out.out.alloc _) ⟨wr.heap.size, 0, none⟩ 1 1 [.string X, .string Y, .slice A2 fs.length c2] rfl rfl (cells_at _ [.string X, .string Y, .slice A2 fs.length c2] _ _ rfl) (by intro u hu; simp at hu; rcases hu with rfl | rfl | rfl <;> rfl) (by unfold maxLen; omega) (by omega) (by simp; omega) ?_; intro v8 w8 hown8 hg8 _; obtain ⟨A8, c8, rfl⟩ := own_sl hown8; have hlo8 := HT7.out.out.lt; have HT8 := hide ((HT7.out.below (HAL.out _)).push (x := ⟨X, Y, A2, fs.length, c2, fs⟩) hg8 hown8 (HX7.out.1.up (HAL.out _)) (HX7.out.2.up (HAL.out _))); have HB8 := hide ((HB2.out.trans ((HAL.out _).mono HB2.out.size)).grown hg8 (Nat.le_trans HB2.out.size (HAL.out _).size) (fun j hj => (hlo8 j hj).1)); clear hown8 hg8 hlo8) | fail)
                  go_roundw
                  case rel => exact ⟨l ++ [⟨X, Y, A2, fs.length, c2, fs⟩], k1, rfl, hk1n, HB8.out, HT8.out, by rw [List.length_append]; simp; omega, .inl ⟨.inr hk1, by rw [List.map_append]; exact E.out⟩⟩
                  case measure => simp [intOf]; omega
              · skip
                have hke : k1 = n := by omega
                have hRF2 : RF = (0, k1, fs) := HR2.out.symm.trans (par_end (List.getElem?_eq_none (by have := HLEN.out; omega)))
                have hne : k1 = L.length := hke.trans HLEN.out.symm
                have E := hide (show RR = (some (l.map FaultT.flt ++ [⟨X, Y, fs⟩]), 0) by rw [← HRK.out]; exact par_last (by rw [HSTEP.out, hRF2]; simp only [if_pos hne, if_true]))
                have HKE := hide hke
                have hk1i : ¬ (k1 : Int) < (n : Int) := by omega
                clear hRF2 hne hke
                have HT7 := hide (HT1.out.keep (p := w1.heap.size) (F := w1.heap.size) (KeepB.of_below HK2.out (Nat.le_refl _) (Nat.le_refl _)) (Nat.le_refl _) (.inr (Nat.le_refl _)))
                have hx7 := HF2.out.flt (B := w.heap.size) zx zy (by omega) (by omega)
                have HX7 : Hid ((FaultT.mk X Y A2 fs.length c2 fs).ok wr ∧ FIn w.heap.size wr (FaultT.mk X Y A2 fs.length c2 fs)) := hide (by obtain ⟨a9, c9, e9, h9⟩ := hx7; simp at e9; obtain ⟨rfl, rfl⟩ := e9; exact h9)
                clear hx7
                have z0 : wr.cell? ⟨w1.heap.size, 0, none⟩ = some (.string X) := (block_cell HF2.out.box 0).trans rfl
                have z1 : wr.cell? ⟨w1.heap.size, 1, none⟩ = some (.string Y) := (block_cell HF2.out.box 1).trans rfl
                have z2 : wr.cell? ⟨w1.heap.size, 2, none⟩ = some (.slice A2 fs.length c2) := (block_cell HF2.out.box 2).trans rfl
                have HAL := hide (fun ob : Obj => (Below.refl wr.heap.size wr).alloc (Nat.le_refl _) ob)
                go_wp2_with (first | (at_builtin; refine wpList_append_own _ rfl (.tmp 116) (.tmp 118) 22 rfl w.heap.size 40 i0 (.agg #[.string ByteArray.empty, .string ByteArray.empty, .slice none 0 0]) 3 56 Tryz.underlying22 hi0 iz0 iz1 iz2 rfl (by decide) (.slice lA l.length lc) l.length (l.flatMap FaultT.cs) rfl (HT7.out.out.alloc _) ⟨wr.heap.size, 0, none⟩ 1 1 [.string X, .string Y, .slice A2 fs.length c2] rfl rfl (cells_at _ [.string X, .string Y, .slice A2 fs.length c2] _ _ rfl) (by intro u hu; simp at hu; rcases hu with rfl | rfl | rfl <;> rfl) (by unfold maxLen; omega) (by omega) (by simp; omega) ?_; intro v8 w8 hown8 hg8 _; obtain ⟨A8, c8, rfl⟩ := own_sl hown8; have hlo8 := HT7.out.out.lt; have HT8 := hide ((HT7.out.below (HAL.out _)).push (x := ⟨X, Y, A2, fs.length, c2, fs⟩) hg8 hown8 (HX7.out.1.up (HAL.out _)) (HX7.out.2.up (HAL.out _))); have HB8 := hide ((HB2.out.trans ((HAL.out _).mono HB2.out.size)).grown hg8 (Nat.le_trans HB2.out.size (HAL.out _).size) (fun j hj => (hlo8 j hj).1)); clear hown8 hg8 hlo8) | fail)
                go_roundw
                case rel => exact ⟨l ++ [⟨X, Y, A2, fs.length, c2, fs⟩], k1, rfl, hk1n, HB8.out, HT8.out, by rw [List.length_append]; simp; omega, .inr ⟨by rw [List.length_append]; simp, HKE.out, by rw [List.map_append]; exact E.out⟩⟩
                case measure => simp [intOf]; omega
      · skip
        have hl0 : l.length = 0 := by omega
        have hln : l = [] := List.eq_nil_of_length_eq_zero hl0
        subst hln
        have hke : k = n := by omega
        have E := hide (show RR = (none, k + 1) by rw [← HRK.out]; exact par_last (by unfold parStep fltS; rw [begK_out (by have := HLEN.out; omega)]; rfl))
        have hkb : ((k : Int) == (n : Int)) = true := by rw [beq_iff_eq]; omega
        have hkl : ¬ (k : Int) < (n : Int) := by omega
        clear hke
        go_wp2_with (fail)
        refine bodyPost_ret (by simp [results, Tryz.results16, go_sem]; try rfl) rfl ?_
        exact ⟨RfOut.bad E.out (by omega), HB.out⟩
    · skip
      have hkl : ¬ (k : Int) < (n : Int) := by omega
      have hll : ¬ (l.length : Int) = 0 := by omega
      have hlb : ((l.length : Int) == 0) = false := by rw [beq_eq_false_iff_ne]; exact hll
      have E := hide hRR
      have HKE := hide hke
      clear hRR hke
      go_wp2_with (fail)
      refine bodyPost_ret (by simp [results, Tryz.results16, go_sem]; try rfl) rfl ?_
      exact ⟨⟨_, l, -1, rfl, by rw [E.out]; rfl, HF.out, by rw [E.out]; rfl⟩, HB.out⟩
end Go.Proofs.YtkjpojaanocfjaaGreatDoor
