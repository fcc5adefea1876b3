/- Plain law and walk of readOuter (printed by gen_rt.py). -/
import Derived.Test.YtkjpojaanocfjaaGreatDoorStRev
import Derived.Test.YtkjpojaanocfjaaGreatDoorStReI
import Derived.WalkMore
namespace Go.Proofs.YtkjpojaanocfjaaGreatDoor
open Go.RowKit
set_option linter.unusedVariables false
set_option linter.unusedSimpArgs false
def preTb : ByteArray := ⟨#[84, 114, 97, 99, 101, 98, 97, 99, 107, 58]⟩
def preTwo : ByteArray := ⟨#[32, 32]⟩
def preLed : ByteArray := ⟨#[119, 104, 105, 99, 104, 32, 108, 101, 100, 32, 116, 111, 58]⟩
/-- Line k is s. -/
def lineIs (L : List ByteArray) (k : Nat) (s : ByteArray) : Bool := begK L k s && emptyB (lineR L k s)
def outTail (L : List ByteArray) (k1 : Nat) (fs : List Frame) (out : List Flt) : RdR ⊕ (Nat × List Flt) :=
  match fltS L k1 ⟨#[]⟩ with
  | none => .inl (none, k1 + 1)
  | some (K, T) => if k1 + 1 = L.length then .inl (some (out ++ [Flt.mk K T fs.reverse]).reverse, 0) else if lineIs L (k1 + 1) preLed then .inr (k1 + 2, out ++ [⟨K, T, fs.reverse⟩]) else .inl (none, k1 + 2)
def outStep (L : List ByteArray) (k : Nat) (out : List Flt) : RdR ⊕ (Nat × List Flt) :=
  if lineIs L k preTb then
    (if (frsFrom L preTwo (L.length - (k + 1)) (k + 1) []).1 then outTail L (frsFrom L preTwo (L.length - (k + 1)) (k + 1) []).2.1 (frsFrom L preTwo (L.length - (k + 1)) (k + 1) []).2.2 out
     else .inl (none, (frsFrom L preTwo (L.length - (k + 1)) (k + 1) []).2.1 + 1))
  else .inl (none, k + 1)
/-- The form Outer. -/
def outR (L : List ByteArray) : Nat → Nat → List Flt → RdR
  | 0, k, _ => (none, k + 1)
  | f + 1, k, out => match outStep L k out with
    | .inl r => r
    | .inr (k2, out2) => outR L f k2 out2
theorem lineIs_lt {L : List ByteArray} {k : Nat} {s : ByteArray} (h : lineIs L k s = true) : k < L.length := begK_lt (by unfold lineIs at h; exact (Bool.and_eq_true_iff.1 h).1)
theorem outStep_lt {L : List ByteArray} {k : Nat} {out : List Flt} {k2 : Nat} {out2 : List Flt} (h : outStep L k out = .inr (k2, out2)) : k < k2 ∧ k2 ≤ L.length := by
  unfold outStep at h
  split at h
  · rename_i hl
    have h1 := lineIs_lt hl
    have h2 := frs_le L preTwo (L.length - (k + 1)) (k + 1) [] (by omega)
    split at h
    · unfold outTail at h
      split at h
      · cases h
      · split at h
        · cases h
        · split at h
          · rename_i hl2
            have := lineIs_lt hl2
            cases h
            omega
          · cases h
    · cases h
  · cases h
theorem out_end {L : List ByteArray} {k : Nat} {out : List Flt} {r : RdR} (h : outStep L k out = .inl r) : outR L (L.length - k + 1) k out = r := by
  rw [outR, h]
theorem out_step {L : List ByteArray} {k k2 : Nat} {out out2 : List Flt} (h : outStep L k out = .inr (k2, out2)) : outR L (L.length - k + 1) k out = outR L (L.length - k2 + 1) k2 out2 := by
  have h1 := outStep_lt h
  rw [outR, h]
  simp only
  have e : ∀ f g k out, L.length - k + 1 ≤ f → f ≤ g → outR L f k out = outR L g k out := by
    intro f
    induction f with
    | zero => intro g k out h; omega
    | succ f ih =>
      intro g k out hf hg
      obtain ⟨g, rfl⟩ : ∃ g', g = g' + 1 := ⟨g - 1, by omega⟩
      rw [outR, outR]
      split
      · rfl
      · rename_i k3 out3 hs
        have := outStep_lt hs
        exact ih g k3 out3 (by omega) (by omega)
  exact (e _ _ _ _ (Nat.le_refl _) (by omega)).symm
/-- Frames in a row of one's own. -/
structure ORow (F : Nat) (v : Value) (fs : List Frame) (w : World) : Prop where
  row : w.ownsRow F 43 6 v fs.length (fs.flatMap Frame.cs)
  fit : FramesFit fs
section
variable {p F B : Nat} {w w' : World} {v v' : Value} {fs es : List Frame} {l : List FaultT}
theorem ORow.below (h : ORow F v fs w) (hb : Below w.heap.size w w') : ORow F v fs w' := ⟨own_below h.row hb, h.fit⟩
theorem ORow.but (h : ORow F v fs w) (hb : ButAt p w w') (hp : p < F) : ORow F v fs w' := by
  refine ⟨⟨h.row.1, ?_⟩, h.fit⟩
  rcases h.row.2 with h0 | ⟨g, cap, cur, h1, h2, h3, h4⟩
  · exact .inl h0
  · exact .inr ⟨g, cap, cur, h1, h2, hb.keep g _ h3 (by omega), h4⟩
theorem ORow.add (h : ORow F v fs w) (ho : w'.ownsRow F 43 6 v' (fs.length + es.length) (fs.flatMap Frame.cs ++ es.flatMap Frame.cs)) (he : FramesFit es) : ORow F v' (fs ++ es) w' := by
  refine ⟨by rw [List.length_append, List.flatMap_append]; exact ho, fun x hx => ?_⟩
  rcases List.mem_append.1 hx with hx | hx
  · exact h.fit x hx
  · exact he x hx
theorem ORow.keepB (h : ORow F v fs w) (hg : w.grownBy w' v.ownBlock) (hp : p ≤ F) (hp2 : p ≤ w.heap.size) : KeepB p F w w' :=
  KeepB.grown hg (fun j hj => by have := (h.row.lt j hj).1; omega) hp2
theorem ORow.rev (h : ORow F v fs w) (ho : w'.ownsRow F 43 6 v fs.length (fs.reverse.flatMap Frame.cs)) : ORow F v fs.reverse w' :=
  ⟨by rw [List.length_reverse]; exact ho, fun x hx => h.fit x (List.mem_reverse.1 hx)⟩
theorem ORow.flt {K T : ByteArray} (h : ORow F v fs w) (hK : K.size ≤ 1000000) (hT : T.size ≤ 1000000) (hn : fs.length ≤ 2000001) (hB : B ≤ F) : ∃ A c, v = .slice A fs.length c ∧ (FaultT.mk K T A fs.length c fs).ok w ∧ FIn B w (FaultT.mk K T A fs.length c fs) := by
  obtain ⟨A, c, e, hsl, hnc, _⟩ := sl_of_own Frame.cs_len rfl h.row
  refine ⟨A, c, e, ⟨by show K.size ≤ maxLen; unfold maxLen; omega, by show T.size ≤ maxLen; unfold maxLen; omega, by show fs.length ≤ maxLen; unfold maxLen; omega, hnc, hsl, h.fit⟩, ?_⟩
  rcases h.row.2 with ⟨_, h0⟩ | ⟨g, cap, cur, h1, h2, h3, h4⟩
  · exact .inl h0
  · rw [e] at h1
    simp at h1
    exact .inr ⟨g, 0, cur, h1.1, by omega, h3⟩
theorem Fts.rev (h : Fts B w v l) (hg : w.grownBy w' v.ownBlock) (ho : w'.ownsRow B 40 3 v l.length (l.reverse.flatMap FaultT.cs)) : Fts B w' v l.reverse := by
  have hk : ∀ y, y.ok w → FIn B w y → y.ok w' ∧ FIn B w' y := fun y hy hyi => fok_keep hy hyi (fun g hg1 hB ⟨cs, hc⟩ => hg.block g hg1 (fun e => by
    have := own_other' h.out hc (by decide)
    exact this e.symm)) hg.size
  exact ⟨by rw [List.length_reverse]; exact ho, fun y hy => (hk y (h.ok y (List.mem_reverse.1 hy)) (h.lies y (List.mem_reverse.1 hy))).1, fun y hy => (hk y (h.ok y (List.mem_reverse.1 hy)) (h.lies y (List.mem_reverse.1 hy))).2⟩
end
theorem emptyB_iff {s : ByteArray} (h : emptyB s = true) : s = ⟨#[]⟩ := by
  unfold emptyB at h
  rw [ByteArray.toList_eq, List.isEmpty_iff] at h
  exact ByteArray.ext (Array.toList_inj.1 h)
set_option maxRecDepth 100000 in
set_option maxHeartbeats 16000000 in
theorem readOuter_any {p : Nat} {A : Option Addr} {n c : Nat} {L : List ByteArray} {t : ByteArray} {w : World} (h : Src p A n c L t 0 w) :
    Calls Tryz.prog 23 #[.pointer (some ⟨p, 0, none⟩)] w fun e w' => RdOut w.heap.size (outR L (L.length + 1) 0 []) e w' ∧ (∃ k, Src p A n c L t k w') ∧ ButAt p w w' := by
  have hn := h.nl
  have hlen := h.sl.len
  have hp := h.lt
  have H0 := hide h
  clear h
  obtain ⟨RR, hRR⟩ : ∃ RR, outR L (L.length + 1) 0 [] = RR := ⟨_, rfl⟩
  rw [hRR]
  have HRR := hide hRR
  have HLEN := hide hlen
  clear hRR hlen
  obtain ⟨i0, hi0, iz0, iz1, iz2⟩ := info_parts info_fault
  obtain ⟨j0, hj0, jz0, jz1, jz2⟩ := info_parts info_frame
  go_enter Tryz.func23, Tryz.ntmps23
  go_wp2_with (fail)
  go_step3
  go_wp2_with (fail)
  go_step3
  go_wp2_with (fail)
  go_loopw [4] (fun v wr => ∃ (l : List FaultT) (k : Nat), Src p A n c L t k wr ∧ Fts w.heap.size wr v l ∧ ButAt p w wr ∧ l.length ≤ k ∧ outR L (L.length - k + 1) k (l.map FaultT.flt) = RR) (fun _ wr => n - atOf p wr)
  case atStart => exact ⟨[], 0, H0.out, Fts.nil _ _, ButAt.refl _ _, Nat.le_refl _, HRR.out⟩
  case round =>
    obtain ⟨l, k, hS, hF, hB, hlk, hRk⟩ := hrel
    have HS := hide hS
    have HF := hide hF
    have HB := hide hB
    have HRK := hide hRk
    have hkn := hS.le
    have hpr := hS.lt
    obtain ⟨lA, lc, rfl⟩ := own_sl hF.out
    have hnx := next_any preTb hS
    unfold NxOut nextK at hnx
    have hzS := lineR_size hS preTb
    obtain ⟨S, hSd⟩ : ∃ S, lineR L k preTb = S := ⟨_, rfl⟩
    rw [hSd] at hnx hzS
    clear hS hF hB hRk
    cases hb : begK L k preTb
    · skip
      have E := hide (show RR = (none, k + 1) by rw [← HRK.out]; exact out_end (by unfold outStep lineIs; rw [hb]; rfl))
      rw [hb] at hnx
      have HNX := hide hnx
      clear hnx hb hSd
      go_wp2_with (first | (go_at_call 40; refine HNX.out.mono ?_; rintro e w1 ⟨rfl, hS1, hB1⟩; clear HNX; have HS1 : Hid (Src p A n c L t k w1) := hide hS1; have HB1 := hide (HB.out.trans hB1); clear hS1 hB1; have x1 : w1.cell? ⟨p, 1, none⟩ = some (.int .i64 (k : Int)) := (block_cell HS1.out.box 1).trans (by simp); have g1 := block_free HS1.out.box 1) | go_quiet (fail))
      try rw [Exit.noGoto_ret]
      refine bodyPost_ret (by simp [results, Tryz.results23, go_sem]; try rfl) rfl ?_
      have hbl : ∀ q, Below w1.heap.size w1 (w1.drewN q) := fun q => below_drewN (Below.refl _ _) q
      exact ⟨⟨_, [], by rw [E.out] <;> rfl, Fts.nil _ _, by rw [E.out] <;> rfl⟩, ⟨_, HS1.out.below (hbl _)⟩, HB1.out.trans (ButAt.of_below (hbl _) (Nat.le_of_lt HS1.out.lt))⟩
    · rw [hb] at hnx
      have HNX := hide hnx
      have hkL := begK_lt hb
      have hk1 : k + 1 ≤ n := by have := HLEN.out; omega
      clear hnx hkL
      cases he : emptyB S
      · skip
        have E := hide (show RR = (none, k + 1) by rw [← HRK.out]; exact out_end (by unfold outStep lineIs; rw [hb, hSd, he]; rfl))
        have he' : S.toList.isEmpty = false := he
        have he'' : (S.toList == []) = false := by rw [beq_eq_false_iff_ne]; intro e9; rw [e9] at he'; cases he'
        have he3 : ¬ S.toList = [] := by intro e9; rw [e9] at he'; cases he'
        clear hb hSd he
        go_wp2_with (first | (go_at_call 40; refine HNX.out.mono ?_; rintro e w1 ⟨rfl, hS1, hB1⟩; clear HNX; have HS1 : Hid (Src p A n c L t (k + 1) w1) := hide hS1; have HB1 := hide (HB.out.trans hB1); clear hS1 hB1; have x1 : w1.cell? ⟨p, 1, none⟩ = some (.int .i64 ((k : Int) + 1)) := (block_cell HS1.out.box 1).trans (by simp); have g1 := block_free HS1.out.box 1; have HS2 := hide (HS1.out.set (j := k) (by omega) (u := (k : Int)) (by omega)); have HB2 := hide (HB1.out.trans (ButAt.set w1 1 (.int .i64 (k : Int)))); obtain ⟨w2, hw2⟩ : ∃ w2, w1.setCell ⟨p, 1, none⟩ (.int .i64 (k : Int)) = w2 := ⟨_, rfl⟩; rw [hw2] at HS2 HB2; have x1' : w2.cell? ⟨p, 1, none⟩ = some (.int .i64 (k : Int)) := (block_cell HS2.out.box 1).trans (by simp)) | go_quiet (fail))
        try rw [Exit.noGoto_ret]
        refine bodyPost_ret (by simp [results, Tryz.results23, go_sem]; try rfl) rfl ?_
        have hbl : ∀ q, Below w2.heap.size w2 (w2.drewN q) := fun q => below_drewN (Below.refl _ _) q
        exact ⟨⟨_, [], by rw [E.out] <;> rfl, Fts.nil _ _, by rw [E.out] <;> rfl⟩, ⟨_, HS2.out.below (hbl _)⟩, HB2.out.trans (ButAt.of_below (hbl _) (Nat.le_of_lt HS2.out.lt))⟩
      · have hSe := emptyB_iff he
        subst hSe
        have hli : lineIs L k preTb = true := by unfold lineIs; rw [hb, hSd, he]; rfl
        have HSTEP := hide (show outStep L k (l.map FaultT.flt) = if (frsFrom L preTwo (L.length - (k + 1)) (k + 1) []).1 then outTail L (frsFrom L preTwo (L.length - (k + 1)) (k + 1) []).2.1 (frsFrom L preTwo (L.length - (k + 1)) (k + 1) []).2.2 (l.map FaultT.flt)
           else .inl (none, (frsFrom L preTwo (L.length - (k + 1)) (k + 1) []).2.1 + 1) by unfold outStep; rw [if_pos hli])
        clear hb hSd he hli
        obtain ⟨RF, hRF⟩ : ∃ RF, frsFrom L preTwo (L.length - (k + 1)) (k + 1) [] = RF := ⟨_, rfl⟩
        rw [hRF] at HSTEP
        have HRF := hide hRF
        clear hRF
        go_wp2_with (first | (go_at_call 40; refine HNX.out.mono ?_; rintro e w1 ⟨rfl, hS1, hB1⟩; clear HNX; have HS1 : Hid (Src p A n c L t (k + 1) w1) := hide hS1; have HB1 := hide (HB.out.trans hB1); have HT1 := hide (HF.out.keep (KeepB.of_but hB1) (Nat.le_refl _) (.inl hp)); clear hS1 hB1; have hp1 := HS1.out.lt; have hz1 := HB1.out.be.size) | fail)
        go_loopw [7] (fun v wr2 => ∃ (k1 : Nat) (fs : List Frame), Src p A n c L t k1 wr2 ∧ ORow w1.heap.size v fs wr2 ∧ KeepB p w1.heap.size w1 wr2 ∧ fs.length + (k + 1) ≤ k1 ∧ frsFrom L preTwo (L.length - k1) k1 fs = RF) (fun _ wr2 => n - atOf p wr2)
        case atStart => exact ⟨k + 1, [], HS1.out, ⟨World.ownsRow_nil _ _ _ _, fun x hx => by simp at hx⟩, KeepB.refl _ _ _, by simp, HRF.out⟩
        case round =>
          obtain ⟨k1, fs, hS2, hF2, hK2, hfs, hR2⟩ := hrel
          obtain ⟨A2, c2, rfl⟩ := own_sl hF2.row
          have HS2 := hide hS2
          have HF2 := hide hF2
          have HK2 := hide hK2
          have HR2 := hide hR2
          have hk1n := hS2.le
          have hp2 := hS2.lt
          have hz2 := hK2.be.size
          have HBG := hide (begins_any preTwo hS2)
          clear hS2 hF2 hK2 hR2
          cases hbg : begK L k1 preTwo
          · rw [hbg] at HBG
            have hRF2 : RF = (true, k1, fs) := HR2.out.symm.trans (frs_stop hbg)
            have HT := hide (show outStep L k (l.map FaultT.flt) = outTail L k1 fs (l.map FaultT.flt) by rw [HSTEP.out, hRF2]; rfl)
            have hfa := fun W (H : Src p A n c L t k1 W) => sfault_any ⟨#[]⟩ H
            obtain ⟨FR, hFR⟩ : ∃ FR, fltS L k1 ⟨#[]⟩ = FR := ⟨_, rfl⟩
            simp only [hFR, FsOut] at hfa
            have HFA := hide hfa
            clear HSTEP HRF HR2 hRF2 hbg hfa
            cases FR with
            | none =>
              have E := hide (show RR = (none, k1 + 1) by rw [← HRK.out]; exact out_end (by rw [HT.out]; unfold outTail; rw [hFR]))
              clear hFR
              go_wp2_with (first | (go_at_call 38; refine HBG.out.mono ?_; rintro e w3 ⟨rfl, hw3⟩; clear HBG; have HS3 := hide (HS2.out.below hw3); have HF3 := hide (HF2.out.below hw3); have HK3 := hide (HK2.out.trans (KeepB.of_below hw3 hz2 (Nat.le_of_lt hp2))); have hz3 := hw3.size; clear hw3) | (go_at_call 37; refine (HFA.out _ HS3.out).mono ?_; rintro e w4 ⟨⟨X, Y, rfl, hxy, zx, zy⟩, hS4, hB4⟩; clear HFA; have HF4 := hide (HF3.out.but hB4 hp1); have HK4 := hide (HK3.out.trans (KeepB.of_but hB4)); have hz4 := hB4.be.size; clear hxy; have HS4 : Hid (Src p A n c L t k1 w4) := hide hS4; clear hS4 hB4; have x1 : w4.cell? ⟨p, 1, none⟩ = some (.int .i64 (k1 : Int)) := (block_cell HS4.out.box 1).trans (by simp); have g1 := block_free HS4.out.box 1) | go_quiet (fail))
              have hal : ∀ ob q, Below w4.heap.size w4 ((w4.alloc ob).drewN q) := fun ob q => below_drewN ((Below.refl _ _).alloc (Nat.le_refl _) ob) q
              try rw [Exit.noGoto_ret]
              refine bodyPost_ret (by simp [results, Tryz.results23, go_sem]; try rfl) rfl ?_
              exact ⟨⟨_, [], by rw [E.out] <;> rfl, Fts.nil _ _, by rw [E.out] <;> rfl⟩, ⟨_, HS4.out.below (hal _ _)⟩, (HB1.out.keepB HK4.out hz1).trans (ButAt.of_below (hal _ _) (Nat.le_of_lt HS4.out.lt))⟩
            | some KT =>
              have hk1L := fltS_lt hFR
              have hk2n : k1 + 1 ≤ n := by have := HLEN.out; omega
              obtain ⟨X, Y⟩ := KT
              by_cases hend : k1 + 1 = n
              · skip
                have hend' : ((k1 : Int) + 1 == (n : Int)) = true := by rw [beq_iff_eq]; omega
                have E := hide (show RR = (some (l.map FaultT.flt ++ [Flt.mk X Y fs.reverse]).reverse, 0) by rw [← HRK.out]; exact out_end (by rw [HT.out]; unfold outTail; rw [hFR]; have h9 : k1 + 1 = L.length := hend.trans HLEN.out.symm; simp only [if_pos h9]))
                have HEND := hide hend
                clear hend hk1L hFR
                go_wp2_with (first | (go_at_call 38; refine HBG.out.mono ?_; rintro e w3 ⟨rfl, hw3⟩; clear HBG; have HS3 := hide (HS2.out.below hw3); have HF3 := hide (HF2.out.below hw3); have HK3 := hide (HK2.out.trans (KeepB.of_below hw3 hz2 (Nat.le_of_lt hp2))); have hz3 := hw3.size; clear hw3) | (go_at_call 37; refine (HFA.out _ HS3.out).mono ?_; rintro e w4 ⟨⟨X', Y', rfl, hxy, zx, zy⟩, hS4, hB4⟩; clear HFA; have HF4 := hide (HF3.out.but hB4 hp1); have HK4 := hide (HK3.out.trans (KeepB.of_but hB4)); have hz4 := hB4.be.size; have hkt : (X, Y) = (X', Y') := Option.some.inj (hxy.resolve_right (fun e => by cases e)); have hk1' : X = X' := (Prod.mk.inj hkt).1; have hk2' : Y = Y' := (Prod.mk.inj hkt).2; subst hk1' hk2'; clear hxy hkt; have HS4 : Hid (Src p A n c L t (k1 + 1) w4) := hide hS4; clear hS4 hB4; have HBX := hide (heap_alloc_new w4 (.cells #[.string X, .string Y, .slice none 0 0] 40)); have hal4 := fun ob : Obj => (Below.refl w4.heap.size w4).alloc (Nat.le_refl _) ob; have HAL := hide hal4; clear hal4; have hf4 := block_free HBX.out 2) | (go_at_call 43; refine (RevF_any (HF4.out.below (HAL.out _)).row (by omega)).mono ?_; rintro e w5 ⟨rfl, hr5, hg5⟩; have hb5 : w5.heap[w4.heap.size]? = some (.cells #[.string X, .string Y, .slice none 0 0] 40 (0, 0)) := (hg5.block w4.heap.size (by simp) (fun e => Nat.lt_irrefl _ (show w4.heap.size < w4.heap.size from (HF4.out.row.lt _ e.symm).2))).trans HBX.out; have HF5 := hide (HF4.out.rev hr5); have HK5 := hide ((HK4.out.trans (KeepB.of_below (HAL.out _) (by omega) (by omega))).trans ((HF4.out.below (HAL.out _)).keepB (p := p) hg5 (Nat.le_of_lt hp1) (by simp; omega))); have HS5 := hide ((HS4.out.below (HAL.out _)).grown hg5 (fun j hj => by have := (HF4.out.row.lt j hj).1; omega)); have HB5 := hide hb5; have z2' : w5.cell? ⟨w4.heap.size, 2, none⟩ = some (.slice none 0 0) := (block_cell HB5.out 2).trans rfl; have f5 := block_free HB5.out 2; have hb6 := (block_set HB5.out (i := 2) (.slice A2 fs.length c2)).trans rfl; have HB6 : Hid ((w5.setCell ⟨w4.heap.size, 2, none⟩ (.slice A2 fs.length c2)).heap[w4.heap.size]? = some (.cells #[.string X, .string Y, .slice A2 fs.length c2] 40 (0, 0))) := hide hb6; have HF6 := hide (show ORow w1.heap.size (.slice A2 fs.length c2) fs.reverse (w5.setCell ⟨w4.heap.size, 2, none⟩ (.slice A2 fs.length c2)) from ⟨ownsRow_setCell_other HF5.out.row (a := ⟨w4.heap.size, 2, none⟩) (fun e => Nat.lt_irrefl _ (show w4.heap.size < w4.heap.size from (HF4.out.row.lt _ e).2)) _, HF5.out.fit⟩); have HK6 := hide (HK5.out.trans (KeepB.set (b := w4.heap.size) (i := 2) (w := w5) (F := w1.heap.size) (p := p) (by omega) (by omega) (.slice A2 fs.length c2))); have HS6 := hide (HS5.out.other (ButAt.set w5 (c := w4.heap.size) 2 (.slice A2 fs.length c2)) (by omega)); obtain ⟨w7, hw7⟩ : ∃ w7, w5.setCell ⟨w4.heap.size, 2, none⟩ (.slice A2 fs.length c2) = w7 := ⟨_, rfl⟩; rw [hw7] at HB6 HF6 HK6 HS6; clear hr5 hg5 hb5 hb6; have HT7 := hide (HT1.out.keep HK6.out (Nat.le_refl _) (.inl hp)); have hx7 := HF6.out.flt (B := w.heap.size) zx zy (by rw [List.length_reverse]; omega) hz1; rw [List.length_reverse] at hx7; have HX7 : Hid ((FaultT.mk X Y A2 fs.length c2 fs.reverse).ok w7 ∧ FIn w.heap.size w7 (FaultT.mk X Y A2 fs.length c2 fs.reverse)) := hide (by obtain ⟨a9, c9, e9, h9⟩ := hx7; simp at e9; obtain ⟨rfl, rfl⟩ := e9; exact h9); clear hx7; have z0 : w7.cell? ⟨w4.heap.size, 0, none⟩ = some (.string X) := (block_cell HB6.out 0).trans rfl; have z1 : w7.cell? ⟨w4.heap.size, 1, none⟩ = some (.string Y) := (block_cell HB6.out 1).trans rfl; have z2 : w7.cell? ⟨w4.heap.size, 2, none⟩ = some (.slice A2 fs.length c2) := (block_cell HB6.out 2).trans rfl; have hal := fun ob : Obj => (Below.refl w7.heap.size w7).alloc (Nat.le_refl _) ob; have hz7 := HK6.out.be.size) | (go_at_call 44; refine (RevT_any (HT8.out.below (HBL8.out _)).out (by rw [List.length_append]; simp; omega)).mono ?_; rintro e w9 ⟨rfl, hr9, hg9⟩) | (at_builtin; refine wpList_append_own _ rfl (.tmp 72) (.tmp 74) 22 rfl w.heap.size 40 i0 (.agg #[.string ByteArray.empty, .string ByteArray.empty, .slice none 0 0]) 3 56 Tryz.underlying22 hi0 iz0 iz1 iz2 rfl (by decide) (.slice lA l.length lc) l.length (l.flatMap FaultT.cs) rfl (HT7.out.out.alloc _) ⟨w7.heap.size, 0, none⟩ 1 1 [.string X, .string Y, .slice A2 fs.length c2] rfl rfl (cells_at _ [.string X, .string Y, .slice A2 fs.length c2] _ _ rfl) (by intro u hu; simp at hu; rcases hu with rfl | rfl | rfl <;> rfl) (by unfold maxLen; omega) (by omega) (by simp; omega) ?_; intro v8 w8 hown8 hg8 _; obtain ⟨A8, c8, rfl⟩ := own_sl hown8; have hlo8 := HT7.out.out.lt; have HT8 := hide ((HT7.out.below (hal _)).push (x := ⟨X, Y, A2, fs.length, c2, fs.reverse⟩) hg8 hown8 (HX7.out.1.up (hal _)) (HX7.out.2.up (hal _))); have HS8 := hide ((HS6.out.below (hal _)).grown hg8 (fun j hj => by have := (hlo8 j hj).1; omega)); have HB8 := hide (((HB1.out.keepB HK6.out hz1).trans (ButAt.of_below (hal _) (Nat.le_of_lt HS6.out.lt))).grown hg8 (fun j hj => (hlo8 j hj).1) (Nat.le_of_lt hp)); clear hown8 hg8 hlo8; have y0 : w8.cell? ⟨p, 0, none⟩ = some (.slice A n c) := (block_cell HS8.out.box 0).trans rfl; have y1 : w8.cell? ⟨p, 1, none⟩ = some (.int .i64 ((k1 : Int) + 1)) := (block_cell HS8.out.box 1).trans (by simp); have hbl8 := fun q => below_drewN (Below.refl w8.heap.size w8) q; have HBL8 := hide hbl8; clear hbl8) | go_quiet (fail))
                try rw [Exit.noGoto_ret]
                refine bodyPost_ret (by simp [results, Tryz.results23, go_sem]; try rfl) rfl ?_
                have hF9 := (HT8.out.below (HBL8.out _)).rev hg9 hr9
                exact ⟨⟨_, _, by rw [E.out] <;> rfl, hF9, by rw [E.out, List.map_reverse, List.map_append] <;> rfl⟩, ⟨_, (HS8.out.below (HBL8.out _)).grown hg9 (fun j hj => by have := (HT8.out.out.lt j hj).1; omega)⟩, (HB8.out.trans (ButAt.of_below (HBL8.out _) (Nat.le_of_lt HS8.out.lt))).grown hg9 (fun j hj => (HT8.out.out.lt j hj).1) (Nat.le_of_lt hp)⟩
              · have hend' : ((k1 : Int) + 1 == (n : Int)) = false := by rw [beq_eq_false_iff_ne]; omega
                have hTL : ∀ K T, (X, Y) = (K, T) → outStep L k (l.map FaultT.flt) = if lineIs L (k1 + 1) preLed then .inr (k1 + 2, l.map FaultT.flt ++ [⟨K, T, fs.reverse⟩]) else .inl (none, k1 + 2) := fun K T e => by
                  rw [HT.out]; unfold outTail; rw [hFR, e]; have h9 : ¬ k1 + 1 = L.length := fun e2 => hend (e2.trans HLEN.out); simp only [if_neg h9]
                have HTL := hide hTL
                have HEND := hide hend
                have hn2 := fun W (H : Src p A n c L t (k1 + 1) W) => next_any preLed H
                simp only [NxOut, nextK] at hn2
                have hzS2 := lineR_size HS2.out preLed
                obtain ⟨S2, hS2d⟩ : ∃ S2, lineR L (k1 + 1) preLed = S2 := ⟨_, rfl⟩
                simp only [hS2d] at hn2
                clear hTL hend hk1L hFR
                cases hb2 : begK L (k1 + 1) preLed
                · skip
                  have hli : lineIs L (k1 + 1) preLed = false := by unfold lineIs; rw [hb2]; rfl
                  have E := hide (show RR = (none, k1 + 2) by rw [← HRK.out]; exact out_end (by rw [HTL.out _ _ rfl, hli]; rfl))
                  simp only [hb2] at hn2
                  have HN2 := hide hn2
                  clear hn2 hb2 hS2d hli
                  go_wp2_with (first | (go_at_call 38; refine HBG.out.mono ?_; rintro e w3 ⟨rfl, hw3⟩; clear HBG; have HS3 := hide (HS2.out.below hw3); have HF3 := hide (HF2.out.below hw3); have HK3 := hide (HK2.out.trans (KeepB.of_below hw3 hz2 (Nat.le_of_lt hp2))); have hz3 := hw3.size; clear hw3) | (go_at_call 37; refine (HFA.out _ HS3.out).mono ?_; rintro e w4 ⟨⟨X', Y', rfl, hxy, zx, zy⟩, hS4, hB4⟩; clear HFA; have HF4 := hide (HF3.out.but hB4 hp1); have HK4 := hide (HK3.out.trans (KeepB.of_but hB4)); have hz4 := hB4.be.size; have hkt : (X, Y) = (X', Y') := Option.some.inj (hxy.resolve_right (fun e => by cases e)); have hk1' : X = X' := (Prod.mk.inj hkt).1; have hk2' : Y = Y' := (Prod.mk.inj hkt).2; subst hk1' hk2'; clear hxy hkt; have HS4 : Hid (Src p A n c L t (k1 + 1) w4) := hide hS4; clear hS4 hB4; have HBX := hide (heap_alloc_new w4 (.cells #[.string X, .string Y, .slice none 0 0] 40)); have hal4 := fun ob : Obj => (Below.refl w4.heap.size w4).alloc (Nat.le_refl _) ob; have HAL := hide hal4; clear hal4; have hf4 := block_free HBX.out 2) | (go_at_call 43; refine (RevF_any (HF4.out.below (HAL.out _)).row (by omega)).mono ?_; rintro e w5 ⟨rfl, hr5, hg5⟩; have hb5 : w5.heap[w4.heap.size]? = some (.cells #[.string X, .string Y, .slice none 0 0] 40 (0, 0)) := (hg5.block w4.heap.size (by simp) (fun e => Nat.lt_irrefl _ (show w4.heap.size < w4.heap.size from (HF4.out.row.lt _ e.symm).2))).trans HBX.out; have HF5 := hide (HF4.out.rev hr5); have HK5 := hide ((HK4.out.trans (KeepB.of_below (HAL.out _) (by omega) (by omega))).trans ((HF4.out.below (HAL.out _)).keepB (p := p) hg5 (Nat.le_of_lt hp1) (by simp; omega))); have HS5 := hide ((HS4.out.below (HAL.out _)).grown hg5 (fun j hj => by have := (HF4.out.row.lt j hj).1; omega)); have HB5 := hide hb5; have z2' : w5.cell? ⟨w4.heap.size, 2, none⟩ = some (.slice none 0 0) := (block_cell HB5.out 2).trans rfl; have f5 := block_free HB5.out 2; have hb6 := (block_set HB5.out (i := 2) (.slice A2 fs.length c2)).trans rfl; have HB6 : Hid ((w5.setCell ⟨w4.heap.size, 2, none⟩ (.slice A2 fs.length c2)).heap[w4.heap.size]? = some (.cells #[.string X, .string Y, .slice A2 fs.length c2] 40 (0, 0))) := hide hb6; have HF6 := hide (show ORow w1.heap.size (.slice A2 fs.length c2) fs.reverse (w5.setCell ⟨w4.heap.size, 2, none⟩ (.slice A2 fs.length c2)) from ⟨ownsRow_setCell_other HF5.out.row (a := ⟨w4.heap.size, 2, none⟩) (fun e => Nat.lt_irrefl _ (show w4.heap.size < w4.heap.size from (HF4.out.row.lt _ e).2)) _, HF5.out.fit⟩); have HK6 := hide (HK5.out.trans (KeepB.set (b := w4.heap.size) (i := 2) (w := w5) (F := w1.heap.size) (p := p) (by omega) (by omega) (.slice A2 fs.length c2))); have HS6 := hide (HS5.out.other (ButAt.set w5 (c := w4.heap.size) 2 (.slice A2 fs.length c2)) (by omega)); obtain ⟨w7, hw7⟩ : ∃ w7, w5.setCell ⟨w4.heap.size, 2, none⟩ (.slice A2 fs.length c2) = w7 := ⟨_, rfl⟩; rw [hw7] at HB6 HF6 HK6 HS6; clear hr5 hg5 hb5 hb6; have HT7 := hide (HT1.out.keep HK6.out (Nat.le_refl _) (.inl hp)); have hx7 := HF6.out.flt (B := w.heap.size) zx zy (by rw [List.length_reverse]; omega) hz1; rw [List.length_reverse] at hx7; have HX7 : Hid ((FaultT.mk X Y A2 fs.length c2 fs.reverse).ok w7 ∧ FIn w.heap.size w7 (FaultT.mk X Y A2 fs.length c2 fs.reverse)) := hide (by obtain ⟨a9, c9, e9, h9⟩ := hx7; simp at e9; obtain ⟨rfl, rfl⟩ := e9; exact h9); clear hx7; have z0 : w7.cell? ⟨w4.heap.size, 0, none⟩ = some (.string X) := (block_cell HB6.out 0).trans rfl; have z1 : w7.cell? ⟨w4.heap.size, 1, none⟩ = some (.string Y) := (block_cell HB6.out 1).trans rfl; have z2 : w7.cell? ⟨w4.heap.size, 2, none⟩ = some (.slice A2 fs.length c2) := (block_cell HB6.out 2).trans rfl; have hal := fun ob : Obj => (Below.refl w7.heap.size w7).alloc (Nat.le_refl _) ob; have hz7 := HK6.out.be.size) | (at_builtin; refine wpList_append_own _ rfl (.tmp 72) (.tmp 74) 22 rfl w.heap.size 40 i0 (.agg #[.string ByteArray.empty, .string ByteArray.empty, .slice none 0 0]) 3 56 Tryz.underlying22 hi0 iz0 iz1 iz2 rfl (by decide) (.slice lA l.length lc) l.length (l.flatMap FaultT.cs) rfl (HT7.out.out.alloc _) ⟨w7.heap.size, 0, none⟩ 1 1 [.string X, .string Y, .slice A2 fs.length c2] rfl rfl (cells_at _ [.string X, .string Y, .slice A2 fs.length c2] _ _ rfl) (by intro u hu; simp at hu; rcases hu with rfl | rfl | rfl <;> rfl) (by unfold maxLen; omega) (by omega) (by simp; omega) ?_; intro v8 w8 hown8 hg8 _; obtain ⟨A8, c8, rfl⟩ := own_sl hown8; have hlo8 := HT7.out.out.lt; have HT8 := hide ((HT7.out.below (hal _)).push (x := ⟨X, Y, A2, fs.length, c2, fs.reverse⟩) hg8 hown8 (HX7.out.1.up (hal _)) (HX7.out.2.up (hal _))); have HS8 := hide ((HS6.out.below (hal _)).grown hg8 (fun j hj => by have := (hlo8 j hj).1; omega)); have HB8 := hide (((HB1.out.keepB HK6.out hz1).trans (ButAt.of_below (hal _) (Nat.le_of_lt HS6.out.lt))).grown hg8 (fun j hj => (hlo8 j hj).1) (Nat.le_of_lt hp)); clear hown8 hg8 hlo8; have y0 : w8.cell? ⟨p, 0, none⟩ = some (.slice A n c) := (block_cell HS8.out.box 0).trans rfl; have y1 : w8.cell? ⟨p, 1, none⟩ = some (.int .i64 ((k1 : Int) + 1)) := (block_cell HS8.out.box 1).trans (by simp); have hbl8 := fun q => below_drewN (Below.refl w8.heap.size w8) q; have HBL8 := hide hbl8; clear hbl8) | (go_at_call 40; refine (HN2.out _ (HS8.out.below (HBL8.out _))).mono ?_; rintro e wA ⟨rfl, hSA, hBA⟩; clear HN2; have HBA := hide ((HB8.out.trans (ButAt.of_below (HBL8.out _) (Nat.le_of_lt HS8.out.lt))).trans hBA); have HTA := hide ((HT8.out.below (HBL8.out _)).keep (KeepB.of_but hBA) (Nat.le_refl _) (.inl hp)); have HSA : Hid (Src p A n c L t (k1 + 1) wA) := hide hSA; clear hSA hBA; have x1 : wA.cell? ⟨p, 1, none⟩ = some (.int .i64 ((k1 : Int) + 1)) := (block_cell HSA.out.box 1).trans (by simp); have g1 := block_free HSA.out.box 1) | go_quiet (fail))
                  try rw [Exit.noGoto_ret]
                  refine bodyPost_ret (by simp [results, Tryz.results23, go_sem]; try rfl) rfl ?_
                  have hbl : ∀ q, Below wA.heap.size wA (wA.drewN q) := fun q => below_drewN (Below.refl _ _) q
                  exact ⟨⟨_, [], by rw [E.out] <;> rfl, Fts.nil _ _, by rw [E.out] <;> rfl⟩, ⟨_, HSA.out.below (hbl _)⟩, HBA.out.trans (ButAt.of_below (hbl _) (Nat.le_of_lt HSA.out.lt))⟩
                · simp only [hb2, if_true] at hn2
                  have HN2 := hide hn2
                  have hkL2 := begK_lt hb2
                  have hk3 : k1 + 2 ≤ n := by have := HLEN.out; omega
                  clear hn2 hkL2
                  cases he2 : emptyB S2
                  · skip
                    have hli : lineIs L (k1 + 1) preLed = false := by unfold lineIs; rw [hb2, hS2d, he2]; rfl
                    have E := hide (show RR = (none, k1 + 2) by rw [← HRK.out]; exact out_end (by rw [HTL.out _ _ rfl, hli]; rfl))
                    have he' : S2.toList.isEmpty = false := he2
                    have he'' : (S2.toList == []) = false := by rw [beq_eq_false_iff_ne]; intro e9; rw [e9] at he'; cases he'
                    have he3 : ¬ S2.toList = [] := by intro e9; rw [e9] at he'; cases he'
                    clear hb2 hS2d hli he2
                    go_wp2_with (first | (go_at_call 38; refine HBG.out.mono ?_; rintro e w3 ⟨rfl, hw3⟩; clear HBG; have HS3 := hide (HS2.out.below hw3); have HF3 := hide (HF2.out.below hw3); have HK3 := hide (HK2.out.trans (KeepB.of_below hw3 hz2 (Nat.le_of_lt hp2))); have hz3 := hw3.size; clear hw3) | (go_at_call 37; refine (HFA.out _ HS3.out).mono ?_; rintro e w4 ⟨⟨X', Y', rfl, hxy, zx, zy⟩, hS4, hB4⟩; clear HFA; have HF4 := hide (HF3.out.but hB4 hp1); have HK4 := hide (HK3.out.trans (KeepB.of_but hB4)); have hz4 := hB4.be.size; have hkt : (X, Y) = (X', Y') := Option.some.inj (hxy.resolve_right (fun e => by cases e)); have hk1' : X = X' := (Prod.mk.inj hkt).1; have hk2' : Y = Y' := (Prod.mk.inj hkt).2; subst hk1' hk2'; clear hxy hkt; have HS4 : Hid (Src p A n c L t (k1 + 1) w4) := hide hS4; clear hS4 hB4; have HBX := hide (heap_alloc_new w4 (.cells #[.string X, .string Y, .slice none 0 0] 40)); have hal4 := fun ob : Obj => (Below.refl w4.heap.size w4).alloc (Nat.le_refl _) ob; have HAL := hide hal4; clear hal4; have hf4 := block_free HBX.out 2) | (go_at_call 43; refine (RevF_any (HF4.out.below (HAL.out _)).row (by omega)).mono ?_; rintro e w5 ⟨rfl, hr5, hg5⟩; have hb5 : w5.heap[w4.heap.size]? = some (.cells #[.string X, .string Y, .slice none 0 0] 40 (0, 0)) := (hg5.block w4.heap.size (by simp) (fun e => Nat.lt_irrefl _ (show w4.heap.size < w4.heap.size from (HF4.out.row.lt _ e.symm).2))).trans HBX.out; have HF5 := hide (HF4.out.rev hr5); have HK5 := hide ((HK4.out.trans (KeepB.of_below (HAL.out _) (by omega) (by omega))).trans ((HF4.out.below (HAL.out _)).keepB (p := p) hg5 (Nat.le_of_lt hp1) (by simp; omega))); have HS5 := hide ((HS4.out.below (HAL.out _)).grown hg5 (fun j hj => by have := (HF4.out.row.lt j hj).1; omega)); have HB5 := hide hb5; have z2' : w5.cell? ⟨w4.heap.size, 2, none⟩ = some (.slice none 0 0) := (block_cell HB5.out 2).trans rfl; have f5 := block_free HB5.out 2; have hb6 := (block_set HB5.out (i := 2) (.slice A2 fs.length c2)).trans rfl; have HB6 : Hid ((w5.setCell ⟨w4.heap.size, 2, none⟩ (.slice A2 fs.length c2)).heap[w4.heap.size]? = some (.cells #[.string X, .string Y, .slice A2 fs.length c2] 40 (0, 0))) := hide hb6; have HF6 := hide (show ORow w1.heap.size (.slice A2 fs.length c2) fs.reverse (w5.setCell ⟨w4.heap.size, 2, none⟩ (.slice A2 fs.length c2)) from ⟨ownsRow_setCell_other HF5.out.row (a := ⟨w4.heap.size, 2, none⟩) (fun e => Nat.lt_irrefl _ (show w4.heap.size < w4.heap.size from (HF4.out.row.lt _ e).2)) _, HF5.out.fit⟩); have HK6 := hide (HK5.out.trans (KeepB.set (b := w4.heap.size) (i := 2) (w := w5) (F := w1.heap.size) (p := p) (by omega) (by omega) (.slice A2 fs.length c2))); have HS6 := hide (HS5.out.other (ButAt.set w5 (c := w4.heap.size) 2 (.slice A2 fs.length c2)) (by omega)); obtain ⟨w7, hw7⟩ : ∃ w7, w5.setCell ⟨w4.heap.size, 2, none⟩ (.slice A2 fs.length c2) = w7 := ⟨_, rfl⟩; rw [hw7] at HB6 HF6 HK6 HS6; clear hr5 hg5 hb5 hb6; have HT7 := hide (HT1.out.keep HK6.out (Nat.le_refl _) (.inl hp)); have hx7 := HF6.out.flt (B := w.heap.size) zx zy (by rw [List.length_reverse]; omega) hz1; rw [List.length_reverse] at hx7; have HX7 : Hid ((FaultT.mk X Y A2 fs.length c2 fs.reverse).ok w7 ∧ FIn w.heap.size w7 (FaultT.mk X Y A2 fs.length c2 fs.reverse)) := hide (by obtain ⟨a9, c9, e9, h9⟩ := hx7; simp at e9; obtain ⟨rfl, rfl⟩ := e9; exact h9); clear hx7; have z0 : w7.cell? ⟨w4.heap.size, 0, none⟩ = some (.string X) := (block_cell HB6.out 0).trans rfl; have z1 : w7.cell? ⟨w4.heap.size, 1, none⟩ = some (.string Y) := (block_cell HB6.out 1).trans rfl; have z2 : w7.cell? ⟨w4.heap.size, 2, none⟩ = some (.slice A2 fs.length c2) := (block_cell HB6.out 2).trans rfl; have hal := fun ob : Obj => (Below.refl w7.heap.size w7).alloc (Nat.le_refl _) ob; have hz7 := HK6.out.be.size) | (at_builtin; refine wpList_append_own _ rfl (.tmp 72) (.tmp 74) 22 rfl w.heap.size 40 i0 (.agg #[.string ByteArray.empty, .string ByteArray.empty, .slice none 0 0]) 3 56 Tryz.underlying22 hi0 iz0 iz1 iz2 rfl (by decide) (.slice lA l.length lc) l.length (l.flatMap FaultT.cs) rfl (HT7.out.out.alloc _) ⟨w7.heap.size, 0, none⟩ 1 1 [.string X, .string Y, .slice A2 fs.length c2] rfl rfl (cells_at _ [.string X, .string Y, .slice A2 fs.length c2] _ _ rfl) (by intro u hu; simp at hu; rcases hu with rfl | rfl | rfl <;> rfl) (by unfold maxLen; omega) (by omega) (by simp; omega) ?_; intro v8 w8 hown8 hg8 _; obtain ⟨A8, c8, rfl⟩ := own_sl hown8; have hlo8 := HT7.out.out.lt; have HT8 := hide ((HT7.out.below (hal _)).push (x := ⟨X, Y, A2, fs.length, c2, fs.reverse⟩) hg8 hown8 (HX7.out.1.up (hal _)) (HX7.out.2.up (hal _))); have HS8 := hide ((HS6.out.below (hal _)).grown hg8 (fun j hj => by have := (hlo8 j hj).1; omega)); have HB8 := hide (((HB1.out.keepB HK6.out hz1).trans (ButAt.of_below (hal _) (Nat.le_of_lt HS6.out.lt))).grown hg8 (fun j hj => (hlo8 j hj).1) (Nat.le_of_lt hp)); clear hown8 hg8 hlo8; have y0 : w8.cell? ⟨p, 0, none⟩ = some (.slice A n c) := (block_cell HS8.out.box 0).trans rfl; have y1 : w8.cell? ⟨p, 1, none⟩ = some (.int .i64 ((k1 : Int) + 1)) := (block_cell HS8.out.box 1).trans (by simp); have hbl8 := fun q => below_drewN (Below.refl w8.heap.size w8) q; have HBL8 := hide hbl8; clear hbl8) | (go_at_call 40; refine (HN2.out _ (HS8.out.below (HBL8.out _))).mono ?_; rintro e wA ⟨rfl, hSA, hBA⟩; clear HN2; have HBA := hide ((HB8.out.trans (ButAt.of_below (HBL8.out _) (Nat.le_of_lt HS8.out.lt))).trans hBA); have HTA := hide ((HT8.out.below (HBL8.out _)).keep (KeepB.of_but hBA) (Nat.le_refl _) (.inl hp)); have HSA : Hid (Src p A n c L t (k1 + 1 + 1) wA) := hide hSA; clear hSA hBA; have x1 : wA.cell? ⟨p, 1, none⟩ = some (.int .i64 ((k1 : Int) + 1 + 1)) := (block_cell HSA.out.box 1).trans (by simp); have g1 := block_free HSA.out.box 1; have HSC := hide (HSA.out.set (j := k1 + 1) (by omega) (u := (k1 : Int) + 1) (by omega)); have HBC := hide (HBA.out.trans (ButAt.set wA 1 (.int .i64 ((k1 : Int) + 1)))); obtain ⟨wC, hwC⟩ : ∃ wC, wA.setCell ⟨p, 1, none⟩ (.int .i64 ((k1 : Int) + 1)) = wC := ⟨_, rfl⟩; rw [hwC] at HSC HBC; have x1' : wC.cell? ⟨p, 1, none⟩ = some (.int .i64 ((k1 : Int) + 1)) := (block_cell HSC.out.box 1).trans (by simp)) | go_quiet (fail))
                    try rw [Exit.noGoto_ret]
                    refine bodyPost_ret (by simp [results, Tryz.results23, go_sem]; try rfl) rfl ?_
                    have hbl : ∀ q, Below wC.heap.size wC (wC.drewN q) := fun q => below_drewN (Below.refl _ _) q
                    exact ⟨⟨_, [], by rw [E.out] <;> rfl, Fts.nil _ _, by rw [E.out] <;> rfl⟩, ⟨_, HSC.out.below (hbl _)⟩, HBC.out.trans (ButAt.of_below (hbl _) (Nat.le_of_lt HSC.out.lt))⟩
                  · skip
                    have hSe := emptyB_iff he2
                    subst hSe
                    have hli : lineIs L (k1 + 1) preLed = true := by unfold lineIs; rw [hb2, hS2d, he2]; rfl
                    have E := hide (show outR L (L.length - (k1 + 2) + 1) (k1 + 2) (l.map FaultT.flt ++ [⟨X, Y, fs.reverse⟩]) = RR by rw [← HRK.out]; exact (out_step (by rw [HTL.out _ _ rfl, hli]; rfl)).symm)
                    clear hb2 hS2d hli he2
                    go_wp2_with (first | (go_at_call 38; refine HBG.out.mono ?_; rintro e w3 ⟨rfl, hw3⟩; clear HBG; have HS3 := hide (HS2.out.below hw3); have HF3 := hide (HF2.out.below hw3); have HK3 := hide (HK2.out.trans (KeepB.of_below hw3 hz2 (Nat.le_of_lt hp2))); have hz3 := hw3.size; clear hw3) | (go_at_call 37; refine (HFA.out _ HS3.out).mono ?_; rintro e w4 ⟨⟨X', Y', rfl, hxy, zx, zy⟩, hS4, hB4⟩; clear HFA; have HF4 := hide (HF3.out.but hB4 hp1); have HK4 := hide (HK3.out.trans (KeepB.of_but hB4)); have hz4 := hB4.be.size; have hkt : (X, Y) = (X', Y') := Option.some.inj (hxy.resolve_right (fun e => by cases e)); have hk1' : X = X' := (Prod.mk.inj hkt).1; have hk2' : Y = Y' := (Prod.mk.inj hkt).2; subst hk1' hk2'; clear hxy hkt; have HS4 : Hid (Src p A n c L t (k1 + 1) w4) := hide hS4; clear hS4 hB4; have HBX := hide (heap_alloc_new w4 (.cells #[.string X, .string Y, .slice none 0 0] 40)); have hal4 := fun ob : Obj => (Below.refl w4.heap.size w4).alloc (Nat.le_refl _) ob; have HAL := hide hal4; clear hal4; have hf4 := block_free HBX.out 2) | (go_at_call 43; refine (RevF_any (HF4.out.below (HAL.out _)).row (by omega)).mono ?_; rintro e w5 ⟨rfl, hr5, hg5⟩; have hb5 : w5.heap[w4.heap.size]? = some (.cells #[.string X, .string Y, .slice none 0 0] 40 (0, 0)) := (hg5.block w4.heap.size (by simp) (fun e => Nat.lt_irrefl _ (show w4.heap.size < w4.heap.size from (HF4.out.row.lt _ e.symm).2))).trans HBX.out; have HF5 := hide (HF4.out.rev hr5); have HK5 := hide ((HK4.out.trans (KeepB.of_below (HAL.out _) (by omega) (by omega))).trans ((HF4.out.below (HAL.out _)).keepB (p := p) hg5 (Nat.le_of_lt hp1) (by simp; omega))); have HS5 := hide ((HS4.out.below (HAL.out _)).grown hg5 (fun j hj => by have := (HF4.out.row.lt j hj).1; omega)); have HB5 := hide hb5; have z2' : w5.cell? ⟨w4.heap.size, 2, none⟩ = some (.slice none 0 0) := (block_cell HB5.out 2).trans rfl; have f5 := block_free HB5.out 2; have hb6 := (block_set HB5.out (i := 2) (.slice A2 fs.length c2)).trans rfl; have HB6 : Hid ((w5.setCell ⟨w4.heap.size, 2, none⟩ (.slice A2 fs.length c2)).heap[w4.heap.size]? = some (.cells #[.string X, .string Y, .slice A2 fs.length c2] 40 (0, 0))) := hide hb6; have HF6 := hide (show ORow w1.heap.size (.slice A2 fs.length c2) fs.reverse (w5.setCell ⟨w4.heap.size, 2, none⟩ (.slice A2 fs.length c2)) from ⟨ownsRow_setCell_other HF5.out.row (a := ⟨w4.heap.size, 2, none⟩) (fun e => Nat.lt_irrefl _ (show w4.heap.size < w4.heap.size from (HF4.out.row.lt _ e).2)) _, HF5.out.fit⟩); have HK6 := hide (HK5.out.trans (KeepB.set (b := w4.heap.size) (i := 2) (w := w5) (F := w1.heap.size) (p := p) (by omega) (by omega) (.slice A2 fs.length c2))); have HS6 := hide (HS5.out.other (ButAt.set w5 (c := w4.heap.size) 2 (.slice A2 fs.length c2)) (by omega)); obtain ⟨w7, hw7⟩ : ∃ w7, w5.setCell ⟨w4.heap.size, 2, none⟩ (.slice A2 fs.length c2) = w7 := ⟨_, rfl⟩; rw [hw7] at HB6 HF6 HK6 HS6; clear hr5 hg5 hb5 hb6; have HT7 := hide (HT1.out.keep HK6.out (Nat.le_refl _) (.inl hp)); have hx7 := HF6.out.flt (B := w.heap.size) zx zy (by rw [List.length_reverse]; omega) hz1; rw [List.length_reverse] at hx7; have HX7 : Hid ((FaultT.mk X Y A2 fs.length c2 fs.reverse).ok w7 ∧ FIn w.heap.size w7 (FaultT.mk X Y A2 fs.length c2 fs.reverse)) := hide (by obtain ⟨a9, c9, e9, h9⟩ := hx7; simp at e9; obtain ⟨rfl, rfl⟩ := e9; exact h9); clear hx7; have z0 : w7.cell? ⟨w4.heap.size, 0, none⟩ = some (.string X) := (block_cell HB6.out 0).trans rfl; have z1 : w7.cell? ⟨w4.heap.size, 1, none⟩ = some (.string Y) := (block_cell HB6.out 1).trans rfl; have z2 : w7.cell? ⟨w4.heap.size, 2, none⟩ = some (.slice A2 fs.length c2) := (block_cell HB6.out 2).trans rfl; have hal := fun ob : Obj => (Below.refl w7.heap.size w7).alloc (Nat.le_refl _) ob; have hz7 := HK6.out.be.size) | (at_builtin; refine wpList_append_own _ rfl (.tmp 72) (.tmp 74) 22 rfl w.heap.size 40 i0 (.agg #[.string ByteArray.empty, .string ByteArray.empty, .slice none 0 0]) 3 56 Tryz.underlying22 hi0 iz0 iz1 iz2 rfl (by decide) (.slice lA l.length lc) l.length (l.flatMap FaultT.cs) rfl (HT7.out.out.alloc _) ⟨w7.heap.size, 0, none⟩ 1 1 [.string X, .string Y, .slice A2 fs.length c2] rfl rfl (cells_at _ [.string X, .string Y, .slice A2 fs.length c2] _ _ rfl) (by intro u hu; simp at hu; rcases hu with rfl | rfl | rfl <;> rfl) (by unfold maxLen; omega) (by omega) (by simp; omega) ?_; intro v8 w8 hown8 hg8 _; obtain ⟨A8, c8, rfl⟩ := own_sl hown8; have hlo8 := HT7.out.out.lt; have HT8 := hide ((HT7.out.below (hal _)).push (x := ⟨X, Y, A2, fs.length, c2, fs.reverse⟩) hg8 hown8 (HX7.out.1.up (hal _)) (HX7.out.2.up (hal _))); have HS8 := hide ((HS6.out.below (hal _)).grown hg8 (fun j hj => by have := (hlo8 j hj).1; omega)); have HB8 := hide (((HB1.out.keepB HK6.out hz1).trans (ButAt.of_below (hal _) (Nat.le_of_lt HS6.out.lt))).grown hg8 (fun j hj => (hlo8 j hj).1) (Nat.le_of_lt hp)); clear hown8 hg8 hlo8; have y0 : w8.cell? ⟨p, 0, none⟩ = some (.slice A n c) := (block_cell HS8.out.box 0).trans rfl; have y1 : w8.cell? ⟨p, 1, none⟩ = some (.int .i64 ((k1 : Int) + 1)) := (block_cell HS8.out.box 1).trans (by simp); have hbl8 := fun q => below_drewN (Below.refl w8.heap.size w8) q; have HBL8 := hide hbl8; clear hbl8) | (go_at_call 40; refine (HN2.out _ (HS8.out.below (HBL8.out _))).mono ?_; rintro e wA ⟨rfl, hSA, hBA⟩; clear HN2; have HBA := hide ((HB8.out.trans (ButAt.of_below (HBL8.out _) (Nat.le_of_lt HS8.out.lt))).trans hBA); have HTA := hide ((HT8.out.below (HBL8.out _)).keep (KeepB.of_but hBA) (Nat.le_refl _) (.inl hp)); have HSA : Hid (Src p A n c L t (k1 + 2) wA) := hide hSA; clear hSA hBA) | go_quiet (fail))
                    go_roundw
                    case rel => exact ⟨_, k1 + 2, HSA.out, HTA.out, HBA.out, by rw [List.length_append]; simp; omega, by rw [List.map_append]; exact E.out⟩
                    case measure =>
                      rw [HSA.out.atOf, HS.out.atOf]
                      omega
          · rw [hbg] at HBG
            have hfa := fun W (H : Src p A n c L t k1 W) => sframe_any preTwo H
            obtain ⟨FR, hFR⟩ : ∃ FR, frmS L k1 preTwo = FR := ⟨_, rfl⟩
            simp only [hFR, FmOut, frAgg] at hfa
            have HFA := hide hfa
            have hk1L : k1 + 1 ≤ n := by have := begK_lt hbg; have := HLEN.out; omega
            clear hfa
            cases FR with
            | none =>
              have hRF2 : RF = (false, k1, fs) := HR2.out.symm.trans (frs_bad hbg hFR)
              have E := hide (show RR = (none, k1 + 1) by rw [← HRK.out]; exact out_end (by rw [HSTEP.out, hRF2]; rfl))
              clear HSTEP HRF HR2 hRF2 hbg hFR
              go_wp2_with (first | (go_at_call 38; refine HBG.out.mono ?_; rintro e w3 ⟨rfl, hw3⟩; clear HBG; have HS3 := hide (HS2.out.below hw3); have HF3 := hide (HF2.out.below hw3); have HK3 := hide (HK2.out.trans (KeepB.of_below hw3 hz2 (Nat.le_of_lt hp2))); have hz3 := hw3.size; clear hw3) | (go_at_call 39; refine (HFA.out _ HS3.out).mono ?_; rintro e w4 ⟨⟨M, G, f, li, ad, ow, rfl, hor, zM, zG, zf⟩, hS4, hB4⟩; clear HFA; have HF4 := hide (HF3.out.but hB4 hp1); have HK4 := hide (HK3.out.trans (KeepB.of_but hB4)); have hz4 := hB4.be.size; clear hor; have HS4 : Hid (Src p A n c L t k1 w4) := hide hS4; clear hS4 hB4; have x1 : w4.cell? ⟨p, 1, none⟩ = some (.int .i64 (k1 : Int)) := (block_cell HS4.out.box 1).trans (by simp); have g1 := block_free HS4.out.box 1) | go_quiet (fail))
              have hal : ∀ ob q, Below w4.heap.size w4 ((w4.alloc ob).drewN q) := fun ob q => below_drewN ((Below.refl _ _).alloc (Nat.le_refl _) ob) q
              try rw [Exit.noGoto_ret]
              refine bodyPost_ret (by simp [results, Tryz.results23, go_sem]; try rfl) rfl ?_
              exact ⟨⟨_, [], by rw [E.out] <;> rfl, Fts.nil _ _, by rw [E.out] <;> rfl⟩, ⟨_, HS4.out.below (hal _ _)⟩, (HB1.out.keepB HK4.out hz1).trans (ButAt.of_below (hal _ _) (Nat.le_of_lt HS4.out.lt))⟩
            | some x =>
              have hR4 : frsFrom L preTwo (L.length - (k1 + 1)) (k1 + 1) (fs ++ [frmF x]) = RF := (frs_step hbg hFR).symm.trans HR2.out
              have HR4 := hide hR4
              clear HSTEP HRF HR2 hR4 hbg hFR
              go_wp2_with (first | (go_at_call 38; refine HBG.out.mono ?_; rintro e w3 ⟨rfl, hw3⟩; clear HBG; have HS3 := hide (HS2.out.below hw3); have HF3 := hide (HF2.out.below hw3); have HK3 := hide (HK2.out.trans (KeepB.of_below hw3 hz2 (Nat.le_of_lt hp2))); have hz3 := hw3.size; clear hw3) | (go_at_call 39; refine (HFA.out _ HS3.out).mono ?_; rintro e w4 ⟨⟨M, G, f, li, ad, ow, rfl, hor, zM, zG, zf⟩, hS4, hB4⟩; clear HFA; have HF4 := hide (HF3.out.but hB4 hp1); have HK4 := hide (HK3.out.trans (KeepB.of_but hB4)); have hz4 := hB4.be.size; have hx9 : x = (M, G, f, li, ad, ow) := Option.some.inj (hor.resolve_right (fun e => by cases e)); subst hx9; clear hor; have HS4 : Hid (Src p A n c L t (k1 + 1) w4) := hide hS4; clear hS4 hB4; have hp4 := HS4.out.lt; have hal2 := fun ob ob2 : Obj => ((Below.refl w4.heap.size w4).alloc (Nat.le_refl _) ob).alloc (by simp) ob2) | (at_builtin; refine wpList_append_own _ rfl (.tmp 52) (.tmp 54) 38 rfl w1.heap.size 43 j0 (.agg #[.string ByteArray.empty, .string ByteArray.empty, .string ByteArray.empty, .int .i64 0, .int .i64 0, .bool false]) 6 72 Tryz.underlying38 hj0 jz0 jz1 jz2 rfl (by decide) (.slice A2 fs.length c2) fs.length (fs.flatMap Frame.cs) rfl ((HF4.out.row.alloc _).alloc _) ⟨w4.heap.size + 1, 0, none⟩ 1 1 [.string M, .string G, .string f, .int .i64 li, .int .i64 ad, .bool ow] rfl rfl (cells_at _ [.string M, .string G, .string f, .int .i64 li, .int .i64 ad, .bool ow] _ _ (by simp)) (by intro u hu; simp at hu; rcases hu with rfl | rfl | rfl | rfl | rfl | rfl <;> rfl) (by unfold maxLen; omega) (by omega) (by simp; omega) ?_; intro v5 w5 hown5 hg5 _; obtain ⟨A5, c5, rfl⟩ := own_sl hown5; have HF6 := hide (HF4.out.add (es := [frmF (M, G, f, li, ad, ow)]) hown5 (fun y hy => by simp at hy; subst hy; exact frmF_fit zM zG zf)); have hkb := (HF4.out.below (hal2 _ _)).keepB (p := p) hg5 (Nat.le_of_lt hp1) (by simp; omega); have hlo := HF4.out.row.lt; have HK6 := hide ((HK4.out.trans (KeepB.of_below (hal2 _ _) (by omega) (by omega))).trans hkb); have HS6 := hide ((HS4.out.below (hal2 _ _)).grown hg5 (fun j hj => by have := (hlo j hj).1; omega)); clear hown5 hg5 hkb hlo) | fail)
              go_roundw
              case rel => exact ⟨k1 + 1, fs ++ [frmF (M, G, f, li, ad, ow)], HS6.out, HF6.out, HK6.out, by rw [List.length_append]; simp; omega, HR4.out⟩
              case measure =>
                rw [HS6.out.atOf, HS2.out.atOf]
                omega
end Go.Proofs.YtkjpojaanocfjaaGreatDoor
