/- Walk of the reference's outer (printed by gen_fo.py). -/
import Derived.Test.YtkjpojaanocfjaaGreatDoorStRfQ
import Derived.Laws.AppendOwnNone
namespace Go.Proofs.YtkjpojaanocfjaaGreatDoor
open Go.RowKit
set_option linter.unusedVariables false
set_option linter.unusedSimpArgs false
theorem own_lit {B sz : Nat} {ty : TypeId} (w : World) (cells : List Value) (hl : cells.length = sz) (hB : B ≤ w.heap.size) : (w.alloc (.cells cells.toArray ty)).ownsRow B ty sz (.slice (some ⟨w.heap.size, 0, none⟩) 1 1) 1 cells := by
  refine ⟨by omega, .inr ⟨w.heap.size, 1, cells.toArray, rfl, hB, heap_alloc_new w _, Nat.le_refl _, by unfold maxLen; omega, by simp; omega, ?_⟩⟩
  simp
  exact List.take_of_length_le (by omega)
theorem extract_self (x : ByteArray) : x.extract 0 x.size = x := by
  apply ByteArray.ext
  apply Array.toList_inj.1
  rw [Lib.extract_to_end]; rfl
theorem hasP_nil (x : ByteArray) : hasP x ⟨#[]⟩ = true := rfl
theorem fltS_at {L : List ByteArray} {k : Nat} {x : ByteArray} (h : L[k]? = some x) : fltS L k ⟨#[]⟩ = if headK x then some (cutL x 58, headS x) else none := by
  have e : x.extract (⟨#[]⟩ : ByteArray).size x.size = x := extract_self x
  unfold fltS
  rw [begK_at h, hasP_nil, lineR_at h, e, Bool.true_and]
theorem lineIs_at {L : List ByteArray} {k : Nat} {x s : ByteArray} (h : L[k]? = some x) : lineIs L k s = decide (x = s) := by
  unfold lineIs
  rw [begK_at h, lineR_at h]
  by_cases e : x = s
  · subst e
    rw [decide_eq_true rfl]
    have h1 : hasP x x = true := by unfold hasP Lib.hasPrefix; rw [List.isPrefixOf_iff_prefix]; exact List.prefix_refl _
    have h2 : x.extract x.size x.size = ⟨#[]⟩ := by
      apply ByteArray.ext
      apply Array.toList_inj.1
      rw [Lib.extract_to_end, ← len_size']; simp
    rw [h1, h2, emptyB_nil]; rfl
  · rw [decide_eq_false e]
    cases h1 : hasP x s
    · rfl
    · cases h2 : emptyB (x.extract s.size x.size)
      · rfl
      · exfalso
        have h3 := emptyB_iff h2
        have h4 : (x.extract s.size x.size).data.toList = [] := by rw [h3]
        rw [Lib.extract_to_end, ← len_size'] at h4
        unfold hasP Lib.hasPrefix at h1
        obtain ⟨t, ht⟩ := List.isPrefixOf_iff_prefix.1 h1
        rw [← ht] at h4
        simp at h4
        rw [h4] at ht
        exact e (ByteArray.ext (Array.toList_inj.1 (by simpa using ht.symm)))
theorem str_ne {x s : ByteArray} {l : List UInt8} (hl : s.data.toList = l) (h : ¬ x = s) : ¬ x.toList = l ∧ (x.toList == l) = false := by
  have h1 : ¬ x.toList = l := fun e => h (by
    rw [ByteArray.toList_eq] at e
    exact ByteArray.ext (Array.toList_inj.1 (e.trans hl.symm)))
  exact ⟨h1, beq_false_of_ne h1⟩
section
variable {B : Nat} {w w' : World} {v v' : Value} {l : List FaultT} {x : FaultT}
/-- A fault more, in front. -/
theorem Fts.cons (h : Fts B w v l) (hb : Below w.heap.size w w') (hB : B ≤ w.heap.size) (ho : w'.ownsRow B 40 3 v' (1 + l.length) (x.cs ++ l.flatMap FaultT.cs)) (hx : x.ok w) (hi : FIn B w x) : Fts B w' v' (x :: l) := by
  have h' := h.below hb
  refine ⟨?_, fun y hy => ?_, fun y hy => ?_⟩
  · rw [List.length_cons, Nat.add_comm, List.flatMap_cons]
    exact ho
  · rcases List.mem_cons.1 hy with rfl | hy
    · exact hx.up hb
    · exact h'.ok y hy
  · rcases List.mem_cons.1 hy with rfl | hy
    · exact hi.up hb
    · exact h'.lies y hy
end
set_option maxRecDepth 100000 in
set_option maxHeartbeats 16000000 in
theorem outer_any {bb oo n c : Nat} {L : List ByteArray} {w : World} (h : Lns w.heap.size bb oo n L w) :
    Calls Tryz.prog 15 #[.slice (some ⟨bb, oo, none⟩) n c] w fun e w' => RfOut w.heap.size (outR L (L.length + 1) 0 []) e w' ∧ Below w.heap.size w w' := by
  have hn := h.nl
  have hlen := h.sl.len
  have H0 := hide h
  clear h
  obtain ⟨RR, hRR⟩ : ∃ RR, outR L (L.length + 1) 0 [] = RR := ⟨_, rfl⟩
  rw [hRR]
  have HRR := hide hRR
  have HLEN := hide hlen
  clear hRR hlen
  obtain ⟨i0, hi0, iz0, iz1, iz2⟩ := info_parts info_fault
  obtain ⟨j0, hj0, jz0, jz1, jz2⟩ := info_parts info_frame
  go_enter Tryz.func15, Tryz.ntmps15
  go_wp2_with (fail)
  go_loopw [4, 5] (fun v i wr => ∃ (l : List FaultT) (k : Nat), i = .int .i64 (k : Int) ∧ k ≤ n ∧ Below w.heap.size w wr ∧ Fts w.heap.size wr v l ∧ (l.length = 0 → v = .slice none 0 0) ∧ l.length ≤ k ∧ outR L (L.length - k + 1) k (l.map FaultT.flt).reverse = RR) (fun _ i _ => n - (intOf i).toNat)
  case atStart => exact ⟨[], 0, rfl, Nat.zero_le _, Below.refl _ _, Fts.nil _ _, fun _ => rfl, Nat.le_refl _, HRR.out⟩
  case round =>
    obtain ⟨l, k, rfl, hkn, hB, hF, hnil, hlk, hRk⟩ := hrel
    have HF := hide hF
    have HB := hide hB
    have HRK := hide hRk
    have HNIL := hide hnil
    have hz := hB.size
    obtain ⟨lA, lc, rfl⟩ := own_sl hF.out
    have HLN := hide (H0.out.up hB)
    clear hB hF hnil hRk
    by_cases hk : k < n
    · obtain ⟨x0, hx0, hz0, c0⟩ := HLN.out.line hk
      have hki : (k : Int) < (n : Int) := by omega
      have hkne : ((k : Int) == (n : Int)) = false := by rw [beq_eq_false_iff_ne]; omega
      have hli := lineIs_at (s := preTb) hx0
      clear hx0
      by_cases hxt : x0 = preTb
      · subst hxt
        rw [decide_eq_true rfl] at hli
        have HSTEP := hide (show outStep L k (l.map FaultT.flt).reverse = if (frsFrom L preTwo (L.length - (k + 1)) (k + 1) []).1 then outTail L (frsFrom L preTwo (L.length - (k + 1)) (k + 1) []).2.1 (frsFrom L preTwo (L.length - (k + 1)) (k + 1) []).2.2 (l.map FaultT.flt).reverse
           else .inl (none, (frsFrom L preTwo (L.length - (k + 1)) (k + 1) []).2.1 + 1) by unfold outStep; rw [if_pos hli])
        obtain ⟨RF, hRF⟩ : ∃ RF, frsFrom L preTwo (L.length - (k + 1)) (k + 1) [] = RF := ⟨_, rfl⟩
        rw [hRF] at HSTEP
        have HRF := hide hRF
        clear hRF hli
        have hpt : preTb.toList = [84, 114, 97, 99, 101, 98, 97, 99, 107, 58] := by rw [ByteArray.toList_eq]; rfl
        unfold preTb at c0 hpt
        go_wp2_with (fail)
        clear hpt c0
        obtain ⟨w1, hw1⟩ : ∃ w1, w1 = wr := ⟨_, rfl⟩
        subst hw1
        go_loopw [5, 6] (fun i v wr2 => ∃ (k1 : Nat) (gs : List Frame), i = .int .i64 (k1 : Int) ∧ k1 ≤ n ∧ ORow w1.heap.size v gs wr2 ∧ (gs.length = 0 → v = .slice none 0 0) ∧ Below w1.heap.size w1 wr2 ∧ gs.length + (k + 1) ≤ k1 ∧ frsFrom L preTwo (L.length - k1) k1 gs.reverse = RF) (fun i _ _ => n - (intOf i).toNat)
        case atStart => exact ⟨k + 1, [], by go_num, by omega, ⟨World.ownsRow_nil _ _ _ _, fun x hx => by simp at hx⟩, fun _ => rfl, Below.refl _ _, by simp, HRF.out⟩
        case round =>
          obtain ⟨k1, gs, rfl, hk1n, hF2, hnil2, hK2, hfs, hR2⟩ := hrel
          obtain ⟨A2, c2, rfl⟩ := own_sl hF2.row
          have HF2 := hide hF2
          have HK2 := hide hK2
          have HB2 := hide (HB.out.trans (hK2.mono hz))
          have HR2 := hide hR2
          have HNIL2 := hide hnil2
          have HLN2 := hide (H0.out.up HB2.out)
          have hz2 := hK2.size
          clear hF2 hK2 hR2 hnil2
          by_cases hk1 : k1 < n
          · obtain ⟨x, hx, hxs, c1⟩ := HLN2.out.line hk1
            have hk1i : (k1 : Int) < (n : Int) := by omega
            have hk1b : ((k1 : Int) == (n : Int)) = false := by rw [beq_eq_false_iff_ne]; omega
            have HPF := hide (fun W => Tryz.strings_HasPrefix x ⟨#[32, 32]⟩ W)
            have hbx := begK_at (pre := preTwo) hx
            cases hbg : hasP x preTwo
            · rw [show Lib.hasPrefix x.data.toList (⟨#[32, 32]⟩ : ByteArray).data.toList = false from hbg] at HPF
              rw [hbg] at hbx
              have hRF2 : RF = (true, k1, gs.reverse) := HR2.out.symm.trans (frs_stop hbx)
              have HT := hide (show outStep L k (l.map FaultT.flt).reverse = outTail L k1 gs.reverse (l.map FaultT.flt).reverse by rw [HSTEP.out, hRF2]; rfl)
              have hfl := fltS_at hx
              have hhl := fun W (H : Mx W) => headLine_any x W hxs H
              simp only [HdOut] at hhl
              clear HSTEP hRF2 hbx hbg hx
              cases hhk : headK x
              · skip
                have E := hide (show RR = (none, k1 + 1) by rw [← HRK.out]; exact out_end (by rw [HT.out]; unfold outTail; rw [hfl, hhk]; rfl))
                simp only [hhk] at hhl
                have HHL := hide hhl
                clear hhl hfl hhk
                go_wp2_with (first | (go_at_call 34; ((with_reducible refine (HPF.out _).mono ?_); rintro e wz ⟨rfl, hwz⟩; have hwz := hwz.symm; subst hwz; clear HPF)) | (go_at_call 28; refine (HHL.out _ HLN2.out.mx).mono ?_; rintro e w3 ⟨⟨X, Y, rfl, hxy, zx', zy'⟩, hb3⟩; have HB3 := hide (HB2.out.trans (hb3.mono HB2.out.size)); have HK3 := hide (HK2.out.trans (hb3.mono hz2)); have HF3 := hide (HF2.out.below hb3); have HLN3 := hide (H0.out.up HB3.out); have hz3 := HB3.out.size; have hz13 := HK3.out.size; clear hxy hb3) | fail)
                have hal : ∀ ob, Below w.heap.size w (w3.alloc ob) := fun ob => HB3.out.alloc HB3.out.size ob
                refine bodyPost_ret (by simp [results, Tryz.results15, go_sem]; try rfl) rfl ?_
                exact ⟨RfOut.bad E.out (by omega), hal _⟩
              · have hTL : outStep L k (l.map FaultT.flt).reverse = if k1 + 1 = L.length then .inl (some ((l.map FaultT.flt).reverse ++ [Flt.mk (cutL x 58) (headS x) gs.reverse.reverse]).reverse, 0) else if lineIs L (k1 + 1) preLed then .inr (k1 + 2, (l.map FaultT.flt).reverse ++ [⟨cutL x 58, headS x, gs.reverse.reverse⟩]) else .inl (none, k1 + 2) := by
                  rw [HT.out]; unfold outTail; rw [hfl, hhk]; rfl
                rw [List.reverse_reverse] at hTL
                have HTL0 := hide hTL
                simp only [hhk] at hhl
                have HHL := hide hhl
                clear hhl hfl hhk hTL HT
                by_cases hl0 : l.length = 0
                · have hln : l = [] := List.eq_nil_of_length_eq_zero hl0
                  have hv0 := HNIL.out hl0
                  subst hln
                  simp at hv0
                  obtain ⟨rfl, rfl⟩ := hv0
                  by_cases hend : k1 + 1 = n
                  · skip
                    have hend' : ((k1 : Int) + 1 == (n : Int)) = true := by rw [beq_iff_eq]; omega
                    have HEND := hide hend
                    clear hend
                    go_wp2_with (first | (go_at_call 34; ((with_reducible refine (HPF.out _).mono ?_); rintro e wz ⟨rfl, hwz⟩; have hwz := hwz.symm; subst hwz; clear HPF)) | (go_at_call 28; refine (HHL.out _ HLN2.out.mx).mono ?_; rintro e w3 ⟨⟨X, Y, rfl, hxy, zx', zy'⟩, hb3⟩; have HB3 := hide (HB2.out.trans (hb3.mono HB2.out.size)); have HK3 := hide (HK2.out.trans (hb3.mono hz2)); have HF3 := hide (HF2.out.below hb3); have HLN3 := hide (H0.out.up HB3.out); have hz3 := HB3.out.size; have hz13 := HK3.out.size; have hx1 := (hxy (by simp)).1; have hy1 := (hxy (by simp)).2; have HTL := hide HTL0.out; rw [← hx1, ← hy1] at HTL; have zx : X.size ≤ 1000000 := (by omega); have zy : Y.size ≤ 1000000 := (by omega); have HT3 := hide (HF.out.below ((HK3.out.mono (Nat.le_refl _)) : Below w1.heap.size w1 w3)); clear hxy hb3 hx1 hy1; have hx7 := HF3.out.flt (B := w.heap.size) zx zy (by omega) hz; have HX7 : Hid ((FaultT.mk X Y A2 gs.length c2 gs).ok w3 ∧ FIn w.heap.size w3 (FaultT.mk X Y A2 gs.length c2 gs)) := hide (by obtain ⟨a9, c9, e9, h9⟩ := hx7; simp at e9; obtain ⟨rfl, rfl⟩ := e9; exact h9); clear hx7; have HAL := hide (fun ob ob2 : Obj => ((Below.refl w3.heap.size w3).alloc (Nat.le_refl _) ob).alloc (by simp) ob2); have HLIT := hide (show ((w3.alloc (.cells #[.string X, .string Y, .slice A2 gs.length c2] 40)).alloc (.cells #[.string X, .string Y, .slice A2 gs.length c2] 40)).ownsRow w.heap.size 40 3 (.slice (some ⟨w3.heap.size + 1, 0, none⟩) 1 1) 1 [.string X, .string Y, .slice A2 gs.length c2] from by have h9 := own_lit (B := w.heap.size) (ty := 40) (w3.alloc (.cells #[.string X, .string Y, .slice A2 gs.length c2] 40)) [.string X, .string Y, .slice A2 gs.length c2] rfl (by simp; omega); simpa using h9)) | (at_builtin; refine wpList_append_own_none rfl (.tmp 73) (.tmp 74) 22 rfl w.heap.size 40 i0 3 Tryz.underlying22 hi0 (.slice (some ⟨w3.heap.size + 1, 0, none⟩) 1 1) 1 [.string X, .string Y, .slice A2 gs.length c2] rfl HLIT.out rfl ?_; have HT8 := hide (HT3.out.cons (x := ⟨X, Y, A2, gs.length, c2, gs⟩) (HAL.out (.cells #[.string X, .string Y, .slice A2 gs.length c2] 40) (.cells #[.string X, .string Y, .slice A2 gs.length c2] 40)) HB3.out.size HLIT.out HX7.out.1 HX7.out.2); have HB8 := hide (HB3.out.trans ((HAL.out (.cells #[.string X, .string Y, .slice A2 gs.length c2] 40) (.cells #[.string X, .string Y, .slice A2 gs.length c2] 40)).mono HB3.out.size))) | fail)
                    have E := hide (show RR = (some ((⟨X, Y, A2, gs.length, c2, gs⟩ : FaultT) :: [] |>.map FaultT.flt), 0) by rw [← HRK.out]; exact out_end (by rw [HTL.out, if_pos (HEND.out.trans HLEN.out.symm)]; simp [FaultT.flt]))
                    refine bodyPost_ret (by simp [results, Tryz.results15, go_sem]; try rfl) rfl ?_
                    exact ⟨⟨_, _, -1, rfl, by rw [E.out]; rfl, HT8.out, by rw [E.out]; rfl⟩, HB8.out⟩
                  · have hk3 : k1 + 1 < n := by omega
                    have hk3i : (k1 : Int) + 1 < (n : Int) := by omega
                    have hend' : ((k1 : Int) + 1 == (n : Int)) = false := by rw [beq_eq_false_iff_ne]; omega
                    obtain ⟨y, hy, hys, _⟩ := HLN2.out.line hk3
                    have HCL := hide (show ∀ W, Lns w.heap.size bb oo n L W → W.cell? ⟨bb, oo + (k1 + 1), none⟩ = some (.string y) from fun W H => by
                      obtain ⟨y', hy', _, h1⟩ := H.line hk3
                      rw [hy] at hy'
                      obtain rfl := Option.some.inj hy'
                      exact h1)
                    have hly := lineIs_at (s := preLed) hy
                    have HEND := hide hend
                    clear hy hend
                    by_cases hyl : y = preLed
                    · skip
                      rw [decide_eq_true hyl] at hly
                      subst hyl
                      have hpt : preLed.toList = [119, 104, 105, 99, 104, 32, 108, 101, 100, 32, 116, 111, 58] := by rw [ByteArray.toList_eq]; rfl
                      unfold preLed at HCL hpt
                      go_wp2_with (first | (go_at_call 34; ((with_reducible refine (HPF.out _).mono ?_); rintro e wz ⟨rfl, hwz⟩; have hwz := hwz.symm; subst hwz; clear HPF)) | (go_at_call 28; refine (HHL.out _ HLN2.out.mx).mono ?_; rintro e w3 ⟨⟨X, Y, rfl, hxy, zx', zy'⟩, hb3⟩; have HB3 := hide (HB2.out.trans (hb3.mono HB2.out.size)); have HK3 := hide (HK2.out.trans (hb3.mono hz2)); have HF3 := hide (HF2.out.below hb3); have HLN3 := hide (H0.out.up HB3.out); have hz3 := HB3.out.size; have hz13 := HK3.out.size; have hx1 := (hxy (by simp)).1; have hy1 := (hxy (by simp)).2; have HTL := hide HTL0.out; rw [← hx1, ← hy1] at HTL; have zx : X.size ≤ 1000000 := (by omega); have zy : Y.size ≤ 1000000 := (by omega); have HT3 := hide (HF.out.below ((HK3.out.mono (Nat.le_refl _)) : Below w1.heap.size w1 w3)); clear hxy hb3 hx1 hy1; have hx7 := HF3.out.flt (B := w.heap.size) zx zy (by omega) hz; have HX7 : Hid ((FaultT.mk X Y A2 gs.length c2 gs).ok w3 ∧ FIn w.heap.size w3 (FaultT.mk X Y A2 gs.length c2 gs)) := hide (by obtain ⟨a9, c9, e9, h9⟩ := hx7; simp at e9; obtain ⟨rfl, rfl⟩ := e9; exact h9); clear hx7; have HAL := hide (fun ob ob2 : Obj => ((Below.refl w3.heap.size w3).alloc (Nat.le_refl _) ob).alloc (by simp) ob2); have HLIT := hide (show ((w3.alloc (.cells #[.string X, .string Y, .slice A2 gs.length c2] 40)).alloc (.cells #[.string X, .string Y, .slice A2 gs.length c2] 40)).ownsRow w.heap.size 40 3 (.slice (some ⟨w3.heap.size + 1, 0, none⟩) 1 1) 1 [.string X, .string Y, .slice A2 gs.length c2] from by have h9 := own_lit (B := w.heap.size) (ty := 40) (w3.alloc (.cells #[.string X, .string Y, .slice A2 gs.length c2] 40)) [.string X, .string Y, .slice A2 gs.length c2] rfl (by simp; omega); simpa using h9)) | (at_builtin; refine wpList_append_own_none rfl (.tmp 73) (.tmp 74) 22 rfl w.heap.size 40 i0 3 Tryz.underlying22 hi0 (.slice (some ⟨w3.heap.size + 1, 0, none⟩) 1 1) 1 [.string X, .string Y, .slice A2 gs.length c2] rfl HLIT.out rfl ?_; have HT8 := hide (HT3.out.cons (x := ⟨X, Y, A2, gs.length, c2, gs⟩) (HAL.out (.cells #[.string X, .string Y, .slice A2 gs.length c2] 40) (.cells #[.string X, .string Y, .slice A2 gs.length c2] 40)) HB3.out.size HLIT.out HX7.out.1 HX7.out.2); have HB8 := hide (HB3.out.trans ((HAL.out (.cells #[.string X, .string Y, .slice A2 gs.length c2] 40) (.cells #[.string X, .string Y, .slice A2 gs.length c2] 40)).mono HB3.out.size)); have d1 := HCL.out _ (H0.out.up HB8.out)) | fail)
                      have E := hide (show outR L (L.length - (k1 + 2) + 1) (k1 + 2) (((⟨X, Y, A2, gs.length, c2, gs⟩ : FaultT) :: []).map FaultT.flt).reverse = RR by rw [← HRK.out]; exact (out_step (by rw [HTL.out, if_neg (fun e2 => HEND.out (e2.trans HLEN.out)), hly]; simp [FaultT.flt])).symm)
                      go_roundw
                      case rel => exact ⟨_, k1 + 2, by go_num, by omega, HB8.out, HT8.out, fun h9 => by simp at h9, by rw [List.length_cons]; omega, E.out⟩
                      case measure => simp [intOf]; omega
                    · skip
                      rw [decide_eq_false hyl] at hly
                      obtain ⟨ne1, ne2⟩ := str_ne (l := [119, 104, 105, 99, 104, 32, 108, 101, 100, 32, 116, 111, 58]) rfl hyl
                      clear hyl
                      go_wp2_with (first | (go_at_call 34; ((with_reducible refine (HPF.out _).mono ?_); rintro e wz ⟨rfl, hwz⟩; have hwz := hwz.symm; subst hwz; clear HPF)) | (go_at_call 28; refine (HHL.out _ HLN2.out.mx).mono ?_; rintro e w3 ⟨⟨X, Y, rfl, hxy, zx', zy'⟩, hb3⟩; have HB3 := hide (HB2.out.trans (hb3.mono HB2.out.size)); have HK3 := hide (HK2.out.trans (hb3.mono hz2)); have HF3 := hide (HF2.out.below hb3); have HLN3 := hide (H0.out.up HB3.out); have hz3 := HB3.out.size; have hz13 := HK3.out.size; have hx1 := (hxy (by simp)).1; have hy1 := (hxy (by simp)).2; have HTL := hide HTL0.out; rw [← hx1, ← hy1] at HTL; have zx : X.size ≤ 1000000 := (by omega); have zy : Y.size ≤ 1000000 := (by omega); have HT3 := hide (HF.out.below ((HK3.out.mono (Nat.le_refl _)) : Below w1.heap.size w1 w3)); clear hxy hb3 hx1 hy1; have hx7 := HF3.out.flt (B := w.heap.size) zx zy (by omega) hz; have HX7 : Hid ((FaultT.mk X Y A2 gs.length c2 gs).ok w3 ∧ FIn w.heap.size w3 (FaultT.mk X Y A2 gs.length c2 gs)) := hide (by obtain ⟨a9, c9, e9, h9⟩ := hx7; simp at e9; obtain ⟨rfl, rfl⟩ := e9; exact h9); clear hx7; have HAL := hide (fun ob ob2 : Obj => ((Below.refl w3.heap.size w3).alloc (Nat.le_refl _) ob).alloc (by simp) ob2); have HLIT := hide (show ((w3.alloc (.cells #[.string X, .string Y, .slice A2 gs.length c2] 40)).alloc (.cells #[.string X, .string Y, .slice A2 gs.length c2] 40)).ownsRow w.heap.size 40 3 (.slice (some ⟨w3.heap.size + 1, 0, none⟩) 1 1) 1 [.string X, .string Y, .slice A2 gs.length c2] from by have h9 := own_lit (B := w.heap.size) (ty := 40) (w3.alloc (.cells #[.string X, .string Y, .slice A2 gs.length c2] 40)) [.string X, .string Y, .slice A2 gs.length c2] rfl (by simp; omega); simpa using h9)) | (at_builtin; refine wpList_append_own_none rfl (.tmp 73) (.tmp 74) 22 rfl w.heap.size 40 i0 3 Tryz.underlying22 hi0 (.slice (some ⟨w3.heap.size + 1, 0, none⟩) 1 1) 1 [.string X, .string Y, .slice A2 gs.length c2] rfl HLIT.out rfl ?_; have HT8 := hide (HT3.out.cons (x := ⟨X, Y, A2, gs.length, c2, gs⟩) (HAL.out (.cells #[.string X, .string Y, .slice A2 gs.length c2] 40) (.cells #[.string X, .string Y, .slice A2 gs.length c2] 40)) HB3.out.size HLIT.out HX7.out.1 HX7.out.2); have HB8 := hide (HB3.out.trans ((HAL.out (.cells #[.string X, .string Y, .slice A2 gs.length c2] 40) (.cells #[.string X, .string Y, .slice A2 gs.length c2] 40)).mono HB3.out.size)); have d1 := HCL.out _ (H0.out.up HB8.out)) | fail)
                      have E := hide (show RR = (none, k1 + 2) by rw [← HRK.out]; exact out_end (by rw [HTL.out, if_neg (fun e2 => HEND.out (e2.trans HLEN.out)), hly]; rfl))
                      refine bodyPost_ret (by simp [results, Tryz.results15, go_sem]; try rfl) rfl ?_
                      exact ⟨RfOut.bad E.out (by omega), HB8.out⟩
                · obtain ⟨lg, lcap, lcur, hlv, _, _, _, _, _, _⟩ := own_blk HF.out.out (by omega)
                  simp at hlv
                  obtain ⟨rfl, rfl⟩ := hlv
                  by_cases hend : k1 + 1 = n
                  · skip
                    have hend' : ((k1 : Int) + 1 == (n : Int)) = true := by rw [beq_iff_eq]; omega
                    have HEND := hide hend
                    clear hend
                    go_wp2_with (first | (go_at_call 34; ((with_reducible refine (HPF.out _).mono ?_); rintro e wz ⟨rfl, hwz⟩; have hwz := hwz.symm; subst hwz; clear HPF)) | (go_at_call 28; refine (HHL.out _ HLN2.out.mx).mono ?_; rintro e w3 ⟨⟨X, Y, rfl, hxy, zx', zy'⟩, hb3⟩; have HB3 := hide (HB2.out.trans (hb3.mono HB2.out.size)); have HK3 := hide (HK2.out.trans (hb3.mono hz2)); have HF3 := hide (HF2.out.below hb3); have HLN3 := hide (H0.out.up HB3.out); have hz3 := HB3.out.size; have hz13 := HK3.out.size; have hx1 := (hxy (by simp)).1; have hy1 := (hxy (by simp)).2; have HTL := hide HTL0.out; rw [← hx1, ← hy1] at HTL; have zx : X.size ≤ 1000000 := (by omega); have zy : Y.size ≤ 1000000 := (by omega); have HT3 := hide (HF.out.below ((HK3.out.mono (Nat.le_refl _)) : Below w1.heap.size w1 w3)); clear hxy hb3 hx1 hy1; have hx7 := HF3.out.flt (B := w.heap.size) zx zy (by omega) hz; have HX7 : Hid ((FaultT.mk X Y A2 gs.length c2 gs).ok w3 ∧ FIn w.heap.size w3 (FaultT.mk X Y A2 gs.length c2 gs)) := hide (by obtain ⟨a9, c9, e9, h9⟩ := hx7; simp at e9; obtain ⟨rfl, rfl⟩ := e9; exact h9); clear hx7; have HAL := hide (fun ob ob2 : Obj => ((Below.refl w3.heap.size w3).alloc (Nat.le_refl _) ob).alloc (by simp) ob2); have HLIT := hide (show ((w3.alloc (.cells #[.string X, .string Y, .slice A2 gs.length c2] 40)).alloc (.cells #[.string X, .string Y, .slice A2 gs.length c2] 40)).ownsRow w.heap.size 40 3 (.slice (some ⟨w3.heap.size + 1, 0, none⟩) 1 1) 1 [.string X, .string Y, .slice A2 gs.length c2] from by have h9 := own_lit (B := w.heap.size) (ty := 40) (w3.alloc (.cells #[.string X, .string Y, .slice A2 gs.length c2] 40)) [.string X, .string Y, .slice A2 gs.length c2] rfl (by simp; omega); simpa using h9)) | (at_builtin; refine wpList_append_own _ rfl (.tmp 73) (.tmp 74) 22 rfl w.heap.size 40 i0 (.agg #[.string ByteArray.empty, .string ByteArray.empty, .slice none 0 0]) 3 56 Tryz.underlying22 hi0 iz0 iz1 iz2 rfl (by decide) (.slice (some ⟨w3.heap.size + 1, 0, none⟩) 1 1) 1 [.string X, .string Y, .slice A2 gs.length c2] rfl HLIT.out ⟨lg, 0, none⟩ l.length lc (l.flatMap FaultT.cs) rfl (flatMap_len FaultT.cs_len l) (((HT3.out.out.alloc _).alloc _).cells rfl) (one_faults l) (by unfold maxLen; omega) (by omega) (by simp; omega) ?_; intro v8 w8 hown8 hg8 _; obtain ⟨A8, c8, rfl⟩ := own_sl hown8; have hb8 := (HAL.out (.cells #[.string X, .string Y, .slice A2 gs.length c2] 40) (.cells #[.string X, .string Y, .slice A2 gs.length c2] 40)).grown hg8 (HAL.out (.cells #[.string X, .string Y, .slice A2 gs.length c2] 40) (.cells #[.string X, .string Y, .slice A2 gs.length c2] 40)).size (fun j hj => by simp [Value.ownBlock] at hj; omega); have HT8 := hide (HT3.out.cons (x := ⟨X, Y, A2, gs.length, c2, gs⟩) hb8 HB3.out.size hown8 HX7.out.1 HX7.out.2); have HB8 := hide (HB3.out.trans (hb8.mono HB3.out.size)); clear hown8 hg8 hb8) | fail)
                    have E := hide (show RR = (some ((⟨X, Y, A2, gs.length, c2, gs⟩ : FaultT) :: l |>.map FaultT.flt), 0) by rw [← HRK.out]; exact out_end (by rw [HTL.out, if_pos (HEND.out.trans HLEN.out.symm)]; simp [FaultT.flt]))
                    refine bodyPost_ret (by simp [results, Tryz.results15, go_sem]; try rfl) rfl ?_
                    exact ⟨⟨_, _, -1, rfl, by rw [E.out]; rfl, HT8.out, by rw [E.out]; rfl⟩, HB8.out⟩
                  · have hk3 : k1 + 1 < n := by omega
                    have hk3i : (k1 : Int) + 1 < (n : Int) := by omega
                    have hend' : ((k1 : Int) + 1 == (n : Int)) = false := by rw [beq_eq_false_iff_ne]; omega
                    obtain ⟨y, hy, hys, _⟩ := HLN2.out.line hk3
                    have HCL := hide (show ∀ W, Lns w.heap.size bb oo n L W → W.cell? ⟨bb, oo + (k1 + 1), none⟩ = some (.string y) from fun W H => by
                      obtain ⟨y', hy', _, h1⟩ := H.line hk3
                      rw [hy] at hy'
                      obtain rfl := Option.some.inj hy'
                      exact h1)
                    have hly := lineIs_at (s := preLed) hy
                    have HEND := hide hend
                    clear hy hend
                    by_cases hyl : y = preLed
                    · skip
                      rw [decide_eq_true hyl] at hly
                      subst hyl
                      have hpt : preLed.toList = [119, 104, 105, 99, 104, 32, 108, 101, 100, 32, 116, 111, 58] := by rw [ByteArray.toList_eq]; rfl
                      unfold preLed at HCL hpt
                      go_wp2_with (first | (go_at_call 34; ((with_reducible refine (HPF.out _).mono ?_); rintro e wz ⟨rfl, hwz⟩; have hwz := hwz.symm; subst hwz; clear HPF)) | (go_at_call 28; refine (HHL.out _ HLN2.out.mx).mono ?_; rintro e w3 ⟨⟨X, Y, rfl, hxy, zx', zy'⟩, hb3⟩; have HB3 := hide (HB2.out.trans (hb3.mono HB2.out.size)); have HK3 := hide (HK2.out.trans (hb3.mono hz2)); have HF3 := hide (HF2.out.below hb3); have HLN3 := hide (H0.out.up HB3.out); have hz3 := HB3.out.size; have hz13 := HK3.out.size; have hx1 := (hxy (by simp)).1; have hy1 := (hxy (by simp)).2; have HTL := hide HTL0.out; rw [← hx1, ← hy1] at HTL; have zx : X.size ≤ 1000000 := (by omega); have zy : Y.size ≤ 1000000 := (by omega); have HT3 := hide (HF.out.below ((HK3.out.mono (Nat.le_refl _)) : Below w1.heap.size w1 w3)); clear hxy hb3 hx1 hy1; have hx7 := HF3.out.flt (B := w.heap.size) zx zy (by omega) hz; have HX7 : Hid ((FaultT.mk X Y A2 gs.length c2 gs).ok w3 ∧ FIn w.heap.size w3 (FaultT.mk X Y A2 gs.length c2 gs)) := hide (by obtain ⟨a9, c9, e9, h9⟩ := hx7; simp at e9; obtain ⟨rfl, rfl⟩ := e9; exact h9); clear hx7; have HAL := hide (fun ob ob2 : Obj => ((Below.refl w3.heap.size w3).alloc (Nat.le_refl _) ob).alloc (by simp) ob2); have HLIT := hide (show ((w3.alloc (.cells #[.string X, .string Y, .slice A2 gs.length c2] 40)).alloc (.cells #[.string X, .string Y, .slice A2 gs.length c2] 40)).ownsRow w.heap.size 40 3 (.slice (some ⟨w3.heap.size + 1, 0, none⟩) 1 1) 1 [.string X, .string Y, .slice A2 gs.length c2] from by have h9 := own_lit (B := w.heap.size) (ty := 40) (w3.alloc (.cells #[.string X, .string Y, .slice A2 gs.length c2] 40)) [.string X, .string Y, .slice A2 gs.length c2] rfl (by simp; omega); simpa using h9)) | (at_builtin; refine wpList_append_own _ rfl (.tmp 73) (.tmp 74) 22 rfl w.heap.size 40 i0 (.agg #[.string ByteArray.empty, .string ByteArray.empty, .slice none 0 0]) 3 56 Tryz.underlying22 hi0 iz0 iz1 iz2 rfl (by decide) (.slice (some ⟨w3.heap.size + 1, 0, none⟩) 1 1) 1 [.string X, .string Y, .slice A2 gs.length c2] rfl HLIT.out ⟨lg, 0, none⟩ l.length lc (l.flatMap FaultT.cs) rfl (flatMap_len FaultT.cs_len l) (((HT3.out.out.alloc _).alloc _).cells rfl) (one_faults l) (by unfold maxLen; omega) (by omega) (by simp; omega) ?_; intro v8 w8 hown8 hg8 _; obtain ⟨A8, c8, rfl⟩ := own_sl hown8; have hb8 := (HAL.out (.cells #[.string X, .string Y, .slice A2 gs.length c2] 40) (.cells #[.string X, .string Y, .slice A2 gs.length c2] 40)).grown hg8 (HAL.out (.cells #[.string X, .string Y, .slice A2 gs.length c2] 40) (.cells #[.string X, .string Y, .slice A2 gs.length c2] 40)).size (fun j hj => by simp [Value.ownBlock] at hj; omega); have HT8 := hide (HT3.out.cons (x := ⟨X, Y, A2, gs.length, c2, gs⟩) hb8 HB3.out.size hown8 HX7.out.1 HX7.out.2); have HB8 := hide (HB3.out.trans (hb8.mono HB3.out.size)); clear hown8 hg8 hb8; have d1 := HCL.out _ (H0.out.up HB8.out)) | fail)
                      have E := hide (show outR L (L.length - (k1 + 2) + 1) (k1 + 2) (((⟨X, Y, A2, gs.length, c2, gs⟩ : FaultT) :: l).map FaultT.flt).reverse = RR by rw [← HRK.out]; exact (out_step (by rw [HTL.out, if_neg (fun e2 => HEND.out (e2.trans HLEN.out)), hly]; simp [FaultT.flt])).symm)
                      go_roundw
                      case rel => exact ⟨_, k1 + 2, by go_num, by omega, HB8.out, HT8.out, fun h9 => by simp at h9, by rw [List.length_cons]; omega, E.out⟩
                      case measure => simp [intOf]; omega
                    · skip
                      rw [decide_eq_false hyl] at hly
                      obtain ⟨ne1, ne2⟩ := str_ne (l := [119, 104, 105, 99, 104, 32, 108, 101, 100, 32, 116, 111, 58]) rfl hyl
                      clear hyl
                      go_wp2_with (first | (go_at_call 34; ((with_reducible refine (HPF.out _).mono ?_); rintro e wz ⟨rfl, hwz⟩; have hwz := hwz.symm; subst hwz; clear HPF)) | (go_at_call 28; refine (HHL.out _ HLN2.out.mx).mono ?_; rintro e w3 ⟨⟨X, Y, rfl, hxy, zx', zy'⟩, hb3⟩; have HB3 := hide (HB2.out.trans (hb3.mono HB2.out.size)); have HK3 := hide (HK2.out.trans (hb3.mono hz2)); have HF3 := hide (HF2.out.below hb3); have HLN3 := hide (H0.out.up HB3.out); have hz3 := HB3.out.size; have hz13 := HK3.out.size; have hx1 := (hxy (by simp)).1; have hy1 := (hxy (by simp)).2; have HTL := hide HTL0.out; rw [← hx1, ← hy1] at HTL; have zx : X.size ≤ 1000000 := (by omega); have zy : Y.size ≤ 1000000 := (by omega); have HT3 := hide (HF.out.below ((HK3.out.mono (Nat.le_refl _)) : Below w1.heap.size w1 w3)); clear hxy hb3 hx1 hy1; have hx7 := HF3.out.flt (B := w.heap.size) zx zy (by omega) hz; have HX7 : Hid ((FaultT.mk X Y A2 gs.length c2 gs).ok w3 ∧ FIn w.heap.size w3 (FaultT.mk X Y A2 gs.length c2 gs)) := hide (by obtain ⟨a9, c9, e9, h9⟩ := hx7; simp at e9; obtain ⟨rfl, rfl⟩ := e9; exact h9); clear hx7; have HAL := hide (fun ob ob2 : Obj => ((Below.refl w3.heap.size w3).alloc (Nat.le_refl _) ob).alloc (by simp) ob2); have HLIT := hide (show ((w3.alloc (.cells #[.string X, .string Y, .slice A2 gs.length c2] 40)).alloc (.cells #[.string X, .string Y, .slice A2 gs.length c2] 40)).ownsRow w.heap.size 40 3 (.slice (some ⟨w3.heap.size + 1, 0, none⟩) 1 1) 1 [.string X, .string Y, .slice A2 gs.length c2] from by have h9 := own_lit (B := w.heap.size) (ty := 40) (w3.alloc (.cells #[.string X, .string Y, .slice A2 gs.length c2] 40)) [.string X, .string Y, .slice A2 gs.length c2] rfl (by simp; omega); simpa using h9)) | (at_builtin; refine wpList_append_own _ rfl (.tmp 73) (.tmp 74) 22 rfl w.heap.size 40 i0 (.agg #[.string ByteArray.empty, .string ByteArray.empty, .slice none 0 0]) 3 56 Tryz.underlying22 hi0 iz0 iz1 iz2 rfl (by decide) (.slice (some ⟨w3.heap.size + 1, 0, none⟩) 1 1) 1 [.string X, .string Y, .slice A2 gs.length c2] rfl HLIT.out ⟨lg, 0, none⟩ l.length lc (l.flatMap FaultT.cs) rfl (flatMap_len FaultT.cs_len l) (((HT3.out.out.alloc _).alloc _).cells rfl) (one_faults l) (by unfold maxLen; omega) (by omega) (by simp; omega) ?_; intro v8 w8 hown8 hg8 _; obtain ⟨A8, c8, rfl⟩ := own_sl hown8; have hb8 := (HAL.out (.cells #[.string X, .string Y, .slice A2 gs.length c2] 40) (.cells #[.string X, .string Y, .slice A2 gs.length c2] 40)).grown hg8 (HAL.out (.cells #[.string X, .string Y, .slice A2 gs.length c2] 40) (.cells #[.string X, .string Y, .slice A2 gs.length c2] 40)).size (fun j hj => by simp [Value.ownBlock] at hj; omega); have HT8 := hide (HT3.out.cons (x := ⟨X, Y, A2, gs.length, c2, gs⟩) hb8 HB3.out.size hown8 HX7.out.1 HX7.out.2); have HB8 := hide (HB3.out.trans (hb8.mono HB3.out.size)); clear hown8 hg8 hb8; have d1 := HCL.out _ (H0.out.up HB8.out)) | fail)
                      have E := hide (show RR = (none, k1 + 2) by rw [← HRK.out]; exact out_end (by rw [HTL.out, if_neg (fun e2 => HEND.out (e2.trans HLEN.out)), hly]; rfl))
                      refine bodyPost_ret (by simp [results, Tryz.results15, go_sem]; try rfl) rfl ?_
                      exact ⟨RfOut.bad E.out (by omega), HB8.out⟩
            · rw [show Lib.hasPrefix x.data.toList (⟨#[32, 32]⟩ : ByteArray).data.toList = true from hbg] at HPF
              rw [hbg] at hbx
              have hps := pre_size (x := x) (pre := ⟨#[32, 32]⟩) hbg
              have hps2 : 2 ≤ x.size := hps
              have hps2i : (2 : Int) ≤ (x.size : Int) := by omega
              have hfm : frmS L k1 preTwo = frR (wordsOf (x.extract 2 x.size)) := by unfold frmS; rw [if_pos hbx, lineR_at hx]; rfl
              have hzx2 : (x.extract 2 x.size).size ≤ 1000000 := by rw [ByteArray.size_extract]; omega
              have hfa := fun W (H : Mx W) => frameLine_any (x.extract 2 x.size) W hzx2 H
              rw [← hfm] at hfa
              obtain ⟨FR, hFR⟩ : ∃ FR, frmS L k1 preTwo = FR := ⟨_, rfl⟩
              simp only [hFR, FoOut, frAgg] at hfa
              have HFA := hide hfa
              clear hfa hps hfm hx hbg
              cases FR with
              | none =>
                have hRF2 : RF = (false, k1, gs.reverse) := HR2.out.symm.trans (frs_bad hbx hFR)
                have E := hide (show RR = (none, k1 + 1) by rw [← HRK.out]; exact out_end (by rw [HSTEP.out, hRF2]; rfl))
                clear HSTEP hRF2 hbx hFR
                go_wp2_with (first | (go_at_call 34; ((with_reducible refine (HPF.out _).mono ?_); rintro e wz ⟨rfl, hwz⟩; have hwz := hwz.symm; subst hwz; clear HPF)) | (go_at_call 30; refine (HFA.out _ HLN2.out.mx).mono ?_; rintro e w3 ⟨⟨M, G, f, li, ad, ow, rfl, hor, zM, zG, zf⟩, hb3⟩; clear HFA; have HB3 := hide (HB2.out.trans (hb3.mono HB2.out.size)); have HK3 := hide (HK2.out.trans (hb3.mono hz2)); have HF3 := hide (HF2.out.below hb3); have hz3 := HK3.out.size; clear hb3; clear hor) | fail)
                have hal : ∀ ob, Below w.heap.size w (w3.alloc ob) := fun ob => HB3.out.alloc HB3.out.size ob
                refine bodyPost_ret (by simp [results, Tryz.results15, go_sem]; try rfl) rfl ?_
                exact ⟨RfOut.bad E.out (by omega), hal _⟩
              | some q =>
                have hR4 : frsFrom L preTwo (L.length - (k1 + 1)) (k1 + 1) (gs.reverse ++ [frmF q]) = RF := (frs_step hbx hFR).symm.trans HR2.out
                have HR4 := hide hR4
                clear hR4 hbx hFR
                by_cases hg0 : gs.length = 0
                · have hgn : gs = [] := List.eq_nil_of_length_eq_zero hg0
                  have hv0 := HNIL2.out hg0
                  subst hgn
                  simp at hv0
                  obtain ⟨rfl, rfl⟩ := hv0
                  go_wp2_with (first | (go_at_call 34; ((with_reducible refine (HPF.out _).mono ?_); rintro e wz ⟨rfl, hwz⟩; have hwz := hwz.symm; subst hwz; clear HPF)) | (go_at_call 30; refine (HFA.out _ HLN2.out.mx).mono ?_; rintro e w3 ⟨⟨M, G, f, li, ad, ow, rfl, hor, zM, zG, zf⟩, hb3⟩; clear HFA; have HB3 := hide (HB2.out.trans (hb3.mono HB2.out.size)); have HK3 := hide (HK2.out.trans (hb3.mono hz2)); have HF3 := hide (HF2.out.below hb3); have hz3 := HK3.out.size; clear hb3; have hq9 : q = (M, G, f, li, ad, ow) := Option.some.inj (hor.resolve_right (fun e => by cases e)); subst hq9; clear hor; have HAL := hide (fun ob ob2 : Obj => ((Below.refl w3.heap.size w3).alloc (Nat.le_refl _) ob).alloc (by simp) ob2); have HLIT := hide (show ((w3.alloc (.cells #[.string M, .string G, .string f, .int .i64 li, .int .i64 ad, .bool ow] 43)).alloc (.cells #[.string M, .string G, .string f, .int .i64 li, .int .i64 ad, .bool ow] 43)).ownsRow w1.heap.size 43 6 (.slice (some ⟨w3.heap.size + 1, 0, none⟩) 1 1) 1 [.string M, .string G, .string f, .int .i64 li, .int .i64 ad, .bool ow] from by have h9 := own_lit (B := w1.heap.size) (ty := 43) (w3.alloc (.cells #[.string M, .string G, .string f, .int .i64 li, .int .i64 ad, .bool ow] 43)) [.string M, .string G, .string f, .int .i64 li, .int .i64 ad, .bool ow] rfl (by simp; omega); simpa using h9)) | (at_builtin; refine wpList_append_own_none rfl (.tmp 51) (.tmp 52) 38 rfl w1.heap.size 43 j0 6 Tryz.underlying38 hj0 (.slice (some ⟨w3.heap.size + 1, 0, none⟩) 1 1) 1 [.string M, .string G, .string f, .int .i64 li, .int .i64 ad, .bool ow] rfl HLIT.out rfl ?_; have HF6 := hide (show ORow w1.heap.size (.slice (some ⟨w3.heap.size + 1, 0, none⟩) 1 1) [frmF (M, G, f, li, ad, ow)] ((w3.alloc (.cells #[.string M, .string G, .string f, .int .i64 li, .int .i64 ad, .bool ow] 43)).alloc (.cells #[.string M, .string G, .string f, .int .i64 li, .int .i64 ad, .bool ow] 43)) from ⟨HLIT.out, (fun y hy => by rcases List.mem_cons.1 hy with rfl | hy; exact frmF_fit zM zG zf; exact HF3.out.fit y hy)⟩); have HK6 := hide (HK3.out.trans ((HAL.out (.cells #[.string M, .string G, .string f, .int .i64 li, .int .i64 ad, .bool ow] 43) (.cells #[.string M, .string G, .string f, .int .i64 li, .int .i64 ad, .bool ow] 43)).mono hz3))) | fail)
                  go_roundw
                  case rel => exact ⟨k1 + 1, frmF (M, G, f, li, ad, ow) :: [], by go_num, by omega, HF6.out, fun h9 => by simp at h9, HK6.out, by rw [List.length_cons]; omega, by rw [List.reverse_cons]; exact HR4.out⟩
                  case measure => simp [intOf]; omega
                · obtain ⟨gg, gcap, gcur, hgv, _, _, _, _, _, _⟩ := own_blk HF2.out.row (by omega)
                  simp at hgv
                  obtain ⟨rfl, rfl⟩ := hgv
                  go_wp2_with (first | (go_at_call 34; ((with_reducible refine (HPF.out _).mono ?_); rintro e wz ⟨rfl, hwz⟩; have hwz := hwz.symm; subst hwz; clear HPF)) | (go_at_call 30; refine (HFA.out _ HLN2.out.mx).mono ?_; rintro e w3 ⟨⟨M, G, f, li, ad, ow, rfl, hor, zM, zG, zf⟩, hb3⟩; clear HFA; have HB3 := hide (HB2.out.trans (hb3.mono HB2.out.size)); have HK3 := hide (HK2.out.trans (hb3.mono hz2)); have HF3 := hide (HF2.out.below hb3); have hz3 := HK3.out.size; clear hb3; have hq9 : q = (M, G, f, li, ad, ow) := Option.some.inj (hor.resolve_right (fun e => by cases e)); subst hq9; clear hor; have HAL := hide (fun ob ob2 : Obj => ((Below.refl w3.heap.size w3).alloc (Nat.le_refl _) ob).alloc (by simp) ob2); have HLIT := hide (show ((w3.alloc (.cells #[.string M, .string G, .string f, .int .i64 li, .int .i64 ad, .bool ow] 43)).alloc (.cells #[.string M, .string G, .string f, .int .i64 li, .int .i64 ad, .bool ow] 43)).ownsRow w1.heap.size 43 6 (.slice (some ⟨w3.heap.size + 1, 0, none⟩) 1 1) 1 [.string M, .string G, .string f, .int .i64 li, .int .i64 ad, .bool ow] from by have h9 := own_lit (B := w1.heap.size) (ty := 43) (w3.alloc (.cells #[.string M, .string G, .string f, .int .i64 li, .int .i64 ad, .bool ow] 43)) [.string M, .string G, .string f, .int .i64 li, .int .i64 ad, .bool ow] rfl (by simp; omega); simpa using h9)) | (at_builtin; refine wpList_append_own _ rfl (.tmp 51) (.tmp 52) 38 rfl w1.heap.size 43 j0 (.agg #[.string ByteArray.empty, .string ByteArray.empty, .string ByteArray.empty, .int .i64 0, .int .i64 0, .bool false]) 6 72 Tryz.underlying38 hj0 jz0 jz1 jz2 rfl (by decide) (.slice (some ⟨w3.heap.size + 1, 0, none⟩) 1 1) 1 [.string M, .string G, .string f, .int .i64 li, .int .i64 ad, .bool ow] rfl HLIT.out ⟨gg, 0, none⟩ gs.length c2 (gs.flatMap Frame.cs) rfl (flatMap_len Frame.cs_len gs) (((HF3.out.row.alloc _).alloc _).cells rfl) (one_frames gs) (by unfold maxLen; omega) (by omega) (by simp; omega) ?_; intro v8 w8 hown8 hg8 _; obtain ⟨A8, c8, rfl⟩ := own_sl hown8; have hb8 := (HAL.out (.cells #[.string M, .string G, .string f, .int .i64 li, .int .i64 ad, .bool ow] 43) (.cells #[.string M, .string G, .string f, .int .i64 li, .int .i64 ad, .bool ow] 43)).grown hg8 (HAL.out (.cells #[.string M, .string G, .string f, .int .i64 li, .int .i64 ad, .bool ow] 43) (.cells #[.string M, .string G, .string f, .int .i64 li, .int .i64 ad, .bool ow] 43)).size (fun j hj => by simp [Value.ownBlock] at hj; omega); have HF6 := hide (show ORow w1.heap.size (.slice A8 (1 + gs.length) c8) (frmF (M, G, f, li, ad, ow) :: gs) w8 from ⟨by rw [List.length_cons, Nat.add_comm gs.length 1]; exact hown8, (fun y hy => by rcases List.mem_cons.1 hy with rfl | hy; exact frmF_fit zM zG zf; exact HF3.out.fit y hy)⟩); have HK6 := hide (HK3.out.trans (hb8.mono hz3)); clear hown8 hg8 hb8) | fail)
                  go_roundw
                  case rel => exact ⟨k1 + 1, frmF (M, G, f, li, ad, ow) :: gs, by go_num, by omega, HF6.out, fun h9 => by simp at h9, HK6.out, by rw [List.length_cons]; omega, by rw [List.reverse_cons]; exact HR4.out⟩
                  case measure => simp [intOf]; omega
          · skip
            have hke : k1 = n := by omega
            have hbx : begK L k1 preTwo = false := begK_out (by have := HLEN.out; omega)
            have hRF2 : RF = (true, k1, gs.reverse) := HR2.out.symm.trans (frs_stop hbx)
            have hfl : fltS L k1 ⟨#[]⟩ = none := by unfold fltS; rw [begK_out (by have := HLEN.out; omega)]; rfl
            have E := hide (show RR = (none, k1 + 1) by rw [← HRK.out]; exact out_end (by rw [HSTEP.out, hRF2]; unfold outTail; simp only [hfl, if_true]))
            have hk1b : ((k1 : Int) == (n : Int)) = true := by rw [beq_iff_eq]; omega
            have hk1i : ¬ (k1 : Int) < (n : Int) := by omega
            clear HSTEP hRF2 hbx hfl hke
            go_wp2_with (fail)
            refine bodyPost_ret (by simp [results, Tryz.results15, go_sem]; try rfl) rfl ?_
            exact ⟨RfOut.bad E.out (by omega), HB2.out⟩
      · skip
        have E := hide (show RR = (none, k + 1) by rw [← HRK.out]; exact out_end (by unfold outStep; rw [hli, decide_eq_false hxt]; rfl))
        obtain ⟨ne1, ne2⟩ := str_ne (l := [84, 114, 97, 99, 101, 98, 97, 99, 107, 58]) rfl hxt
        clear hli hxt
        go_wp2_with (fail)
        refine bodyPost_ret (by simp [results, Tryz.results15, go_sem]; try rfl) rfl ?_
        exact ⟨RfOut.bad E.out (by omega), HB.out⟩
    · skip
      have E := hide (show RR = (none, k + 1) by rw [← HRK.out]; exact out_end (by unfold outStep lineIs; rw [begK_out (by have := HLEN.out; omega)]; rfl))
      have hkb : ((k : Int) == (n : Int)) = true := by rw [beq_iff_eq]; omega
      go_wp2_with (fail)
      refine bodyPost_ret (by simp [results, Tryz.results15, go_sem]; try rfl) rfl ?_
      exact ⟨RfOut.bad E.out (by omega), HB.out⟩
end Go.Proofs.YtkjpojaanocfjaaGreatDoor
