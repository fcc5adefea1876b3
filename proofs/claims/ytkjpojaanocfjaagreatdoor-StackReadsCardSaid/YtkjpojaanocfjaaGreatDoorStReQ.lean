/- Plain law and walk of readPairs (printed by gen_ru.py). -/
import Derived.Test.YtkjpojaanocfjaaGreatDoorStReO
import Derived.Deep.QuietTactic
namespace Go.Proofs.YtkjpojaanocfjaaGreatDoor
open Go.RowKit
set_option linter.unusedVariables false
set_option linter.unusedSimpArgs false
def preFlt : ByteArray := ⟨#[102, 97, 117, 108, 116, 32]⟩
def preTab : ByteArray := ⟨#[9]⟩
/-- Frames, two lines each. -/
def parFrs (L : List ByteArray) : Nat → Nat → List Frame → Nat × Nat × List Frame
  | 0, k, fs => (0, k, fs)
  | f + 1, k, fs => match L[k]? with
    | none => (0, k, fs)
    | some x => if begK L k preFlt then (0, k, fs) else if callK x then
        (if begK L (k + 1) preTab then (match frO x (lineR L (k + 1) preTab) with
          | none => (k + 2, k, fs)
          | some y => parFrs L f (k + 2) (fs ++ [frmF y])) else (k + 2, k, fs))
      else (k + 1, k, fs)
theorem parFrs_more (L : List ByteArray) : ∀ (f g k : Nat) (fs : List Frame), L.length - k ≤ f → f ≤ g → parFrs L f k fs = parFrs L g k fs
  | 0, g, k, fs, h, _ => by
    have hx : L[k]? = none := List.getElem?_eq_none (by omega)
    cases g with
    | zero => rfl
    | succ g => rw [parFrs, parFrs, hx]
  | f + 1, g, k, fs, h, hg => by
    obtain ⟨g, rfl⟩ : ∃ g', g = g' + 1 := ⟨g - 1, by omega⟩
    rw [parFrs, parFrs]
    split
    · rfl
    · split
      · rfl
      · split
        · split
          · split
            · rfl
            · exact parFrs_more L f g (k + 2) _ (by omega) (by omega)
          · rfl
        · rfl
section
variable {L : List ByteArray} {k : Nat} {fs : List Frame} {x : ByteArray}
theorem par_fuel (h : L[k]? = some x) : ∃ f, L.length - k = f + 1 ∧ f = L.length - (k + 1) := ⟨L.length - (k + 1), by have := (List.getElem?_eq_some_iff.1 h).1; omega, rfl⟩
theorem par_end (h : L[k]? = none) : parFrs L (L.length - k) k fs = (0, k, fs) := by
  have : L.length ≤ k := List.getElem?_eq_none_iff.1 h
  rw [show L.length - k = 0 by omega]; rfl
theorem par_flt (h : L[k]? = some x) (hb : begK L k preFlt = true) : parFrs L (L.length - k) k fs = (0, k, fs) := by
  obtain ⟨f, hf, _⟩ := par_fuel h
  rw [hf, parFrs, h]; simp only [hb, if_true]
theorem par_call (h : L[k]? = some x) (hb : begK L k preFlt = false) (hc : callK x = false) : parFrs L (L.length - k) k fs = (k + 1, k, fs) := by
  obtain ⟨f, hf, _⟩ := par_fuel h
  rw [hf, parFrs, h]; simp only [hb, hc, if_false, Bool.false_eq_true]
theorem par_tab (h : L[k]? = some x) (hb : begK L k preFlt = false) (hc : callK x = true) (ht : begK L (k + 1) preTab = false) : parFrs L (L.length - k) k fs = (k + 2, k, fs) := by
  obtain ⟨f, hf, _⟩ := par_fuel h
  rw [hf, parFrs, h]; simp only [hb, hc, ht, if_false, if_true, Bool.false_eq_true]
theorem par_bad (h : L[k]? = some x) (hb : begK L k preFlt = false) (hc : callK x = true) (ht : begK L (k + 1) preTab = true) (hy : frO x (lineR L (k + 1) preTab) = none) : parFrs L (L.length - k) k fs = (k + 2, k, fs) := by
  obtain ⟨f, hf, _⟩ := par_fuel h
  rw [hf, parFrs, h]; simp only [hb, hc, ht, hy, if_false, if_true, Bool.false_eq_true]
theorem par_step {y : Frm} (h : L[k]? = some x) (hb : begK L k preFlt = false) (hc : callK x = true) (ht : begK L (k + 1) preTab = true) (hy : frO x (lineR L (k + 1) preTab) = some y) : parFrs L (L.length - k) k fs = parFrs L (L.length - (k + 2)) (k + 2) (fs ++ [frmF y]) := by
  obtain ⟨f, hf, hf2⟩ := par_fuel h
  rw [hf, parFrs, h]; simp only [hb, hc, ht, hy, if_false, if_true, Bool.false_eq_true]
  exact (parFrs_more L _ _ _ _ (Nat.le_refl _) (by omega)).symm
end
theorem parFrs_le (L : List ByteArray) : ∀ (f k : Nat) (fs : List Frame), k ≤ L.length → k ≤ (parFrs L f k fs).2.1 ∧ (parFrs L f k fs).2.1 ≤ L.length
  | 0, k, fs, h => ⟨Nat.le_refl _, h⟩
  | f + 1, k, fs, h => by
    rw [parFrs]
    split
    · exact ⟨Nat.le_refl _, h⟩
    · split
      · exact ⟨Nat.le_refl _, h⟩
      · split
        · split
          · rename_i ht
            have := begK_lt ht
            split
            · exact ⟨Nat.le_refl _, h⟩
            · have := parFrs_le L f (k + 2) ‹_› (by omega)
              rename_i y _
              have ih := parFrs_le L f (k + 2) (fs ++ [frmF y]) (by omega)
              exact ⟨by omega, ih.2⟩
          · exact ⟨Nat.le_refl _, h⟩
        · exact ⟨Nat.le_refl _, h⟩
def parStep (L : List ByteArray) (k : Nat) (out : List Flt) : RdR ⊕ (Nat × List Flt) :=
  match fltS L k preFlt with
  | none => .inl (none, k + 1)
  | some (K, T) =>
    if (parFrs L (L.length - (k + 1)) (k + 1) []).1 = 0 then
      (if (parFrs L (L.length - (k + 1)) (k + 1) []).2.1 = L.length then .inl (some (out ++ [⟨K, T, (parFrs L (L.length - (k + 1)) (k + 1) []).2.2⟩]), 0)
       else .inr ((parFrs L (L.length - (k + 1)) (k + 1) []).2.1, out ++ [⟨K, T, (parFrs L (L.length - (k + 1)) (k + 1) []).2.2⟩]))
    else .inl (none, (parFrs L (L.length - (k + 1)) (k + 1) []).1)
/-- The form Pairs. -/
def parR (L : List ByteArray) : Nat → Nat → List Flt → RdR
  | 0, k, _ => (none, k + 1)
  | f + 1, k, out => match parStep L k out with
    | .inl r => r
    | .inr (k2, out2) => parR L f k2 out2
theorem parStep_lt {L : List ByteArray} {k : Nat} {out : List Flt} {k2 : Nat} {out2 : List Flt} (h : parStep L k out = .inr (k2, out2)) : k < k2 ∧ k2 ≤ L.length := by
  unfold parStep at h
  split at h
  · cases h
  · rename_i K T hf
    have h1 := fltS_lt hf
    have h2 := parFrs_le L (L.length - (k + 1)) (k + 1) [] (by omega)
    split at h
    · split at h
      · cases h
      · cases h; omega
    · cases h
theorem par_last {L : List ByteArray} {k : Nat} {out : List Flt} {r : RdR} (h : parStep L k out = .inl r) : parR L (L.length - k + 1) k out = r := by
  rw [parR, h]
theorem par_next {L : List ByteArray} {k k2 : Nat} {out out2 : List Flt} (h : parStep L k out = .inr (k2, out2)) : parR L (L.length - k + 1) k out = parR L (L.length - k2 + 1) k2 out2 := by
  have h1 := parStep_lt h
  rw [parR, h]
  simp only
  have e : ∀ f g k out, L.length - k + 1 ≤ f → f ≤ g → parR L f k out = parR L g k out := by
    intro f
    induction f with
    | zero => intro g k out h; omega
    | succ f ih =>
      intro g k out hf hg
      obtain ⟨g, rfl⟩ : ∃ g', g = g' + 1 := ⟨g - 1, by omega⟩
      rw [parR, parR]
      split
      · rfl
      · rename_i k3 out3 hs
        have := parStep_lt hs
        exact ih g k3 out3 (by omega) (by omega)
  exact (e _ _ _ _ (Nat.le_refl _) (by omega)).symm
section
variable {p F B b : Nat} {A : Option Addr} {n c : Nat} {L : List ByteArray} {t : ByteArray} {k : Nat} {w w' : World} {v : Value} {K T : ByteArray} {fs : List Frame}
theorem FBox.belowB (h : FBox F K T v fs w) (hb : Below b w w') (hF : F < b) (hr : ∀ j, v.ownBlock = some j → j < b) : FBox F K T v fs w' := by
  refine ⟨(hb.block F hF).trans h.box, ⟨h.row.1, ?_⟩, h.fit⟩
  rcases h.row.2 with h0 | ⟨g, cap, cur, h1, h2, h3, h4⟩
  · exact .inl h0
  · exact .inr ⟨g, cap, cur, h1, h2, (hb.block g (hr g (by rw [h1]; rfl))).trans h3, h4⟩
theorem Src.belowB (h : Src p A n c L t k w) (hb : Below b w w') (hp : p < b) : Src p A n c L t k w' := h.keep (hb.mono (Nat.le_of_lt hp)) (hb.block p hp)
theorem begins_q (pre : ByteArray) (h : Src p A n c L t k w) :
    Calls Tryz.prog 38 #[.pointer (some ⟨p, 0, none⟩), .string pre] w fun e w' => e = .returned (.bool (begK L k pre)) ∧ ∃ q, w' = w.drewN q := by
  have x0 : w.cell? ⟨p, 0, none⟩ = some (.slice A n c) := (block_cell h.box 0).trans rfl
  have x1 : w.cell? ⟨p, 1, none⟩ = some (.int .i64 (k : Int)) := (block_cell h.box 1).trans rfl
  have hn := h.nl
  by_cases hk : k < n
  · obtain ⟨bb, oo, x, rfl, hx, hxs, c0⟩ := h.line hk
    have E := hide (show begK L k pre = Lib.hasPrefix x.data.toList pre.data.toList by unfold begK; rw [hx])
    have HP := hide (fun W => Tryz.strings_HasPrefix x pre W)
    obtain ⟨v, hv⟩ : ∃ v, Lib.hasPrefix x.data.toList pre.data.toList = v := ⟨_, rfl⟩
    rw [hv] at E HP
    clear hv hx h
    go_enter Tryz.func38, Tryz.ntmps38
    go_wp2_with (go_quiet ((go_at_call 34; exact Calls.quiet_of_same (HP.out _))))
    go_ret
    exact ⟨by rw [E.out]; rfl, _, rfl⟩
  · have E := hide (show begK L k pre = false by unfold begK; rw [List.getElem?_eq_none (by have := h.sl.len; omega)])
    clear h
    go_enter Tryz.func38, Tryz.ntmps38
    go_wp2_with (go_quiet (fail))
    go_ret
    exact ⟨by rw [E.out]; rfl, _, rfl⟩
end
set_option maxRecDepth 100000 in
set_option maxHeartbeats 16000000 in
theorem readPairs_any {p : Nat} {A : Option Addr} {n c : Nat} {L : List ByteArray} {t : ByteArray} {w : World} (h : Src p A n c L t 0 w) :
    Calls Tryz.prog 24 #[.pointer (some ⟨p, 0, none⟩)] w fun e w' => RdOut w.heap.size (parR L (L.length + 1) 0 []) e w' ∧ (∃ k, Src p A n c L t k w') ∧ ButAt p w w' := by
  have hn := h.nl
  have hlen := h.sl.len
  have hp := h.lt
  have hmp := h.mp
  have H0 := hide h
  clear h
  obtain ⟨RR, hRR⟩ : ∃ RR, parR L (L.length + 1) 0 [] = RR := ⟨_, rfl⟩
  rw [hRR]
  have HRR := hide hRR
  have HLEN := hide hlen
  clear hRR hlen
  obtain ⟨i0, hi0, iz0, iz1, iz2⟩ := info_parts info_fault
  obtain ⟨j0, hj0, jz0, jz1, jz2⟩ := info_parts info_frame
  go_enter Tryz.func24, Tryz.ntmps24
  go_wp2_with (fail)
  go_loopw [4] (fun v wr => ∃ (l : List FaultT) (k : Nat), Src p A n c L t k wr ∧ Fts w.heap.size wr v l ∧ ButAt p w wr ∧ l.length ≤ k ∧ parR L (L.length - k + 1) k (l.map FaultT.flt) = RR) (fun _ wr => n - atOf p wr)
  case atStart => exact ⟨[], 0, H0.out, Fts.nil _ _, ButAt.refl _ _, Nat.le_refl _, HRR.out⟩
  case round =>
    obtain ⟨l, k, hS, hF, hB, hlk, hRk⟩ := hrel
    have HS := hide hS
    have HF := hide hF
    have HB := hide hB
    have HRK := hide hRk
    have hkn := hS.le
    have hpr := hS.lt
    obtain ⟨lA, lc, rfl⟩ := own_sl hF.out
    have HFL := hide (sfault_any preFlt hS)
    clear hS hF hB hRk
    cases hfl : fltS L k preFlt with
    | none =>
      have E := hide (show RR = (none, k + 1) by rw [← HRK.out]; exact par_last (by unfold parStep; rw [hfl]))
      rw [hfl] at HFL
      clear hfl
      go_wp2_with (first | (go_at_call 37; refine HFL.out.mono ?_; rintro e w1 ⟨⟨X, Y, rfl, _⟩, hS1, hB1⟩; have HS1 : Hid (Src p A n c L t k w1) := hide hS1; have HB1 := hide (HB.out.trans hB1); clear hS1 hB1; have x1 : w1.cell? ⟨p, 1, none⟩ = some (.int .i64 (k : Int)) := (block_cell HS1.out.box 1).trans (by simp); have g1 := block_free HS1.out.box 1) | go_quiet (fail))
      refine bodyPost_ret (by simp [results, Tryz.results24, go_sem]; try rfl) rfl ?_
      have hbl : ∀ ob q, Below w1.heap.size w1 ((w1.alloc ob).drewN q) := fun ob q => below_drewN ((Below.refl _ _).alloc (Nat.le_refl _) ob) q
      exact ⟨⟨_, [], by rw [E.out] <;> rfl, Fts.nil _ _, by rw [E.out] <;> rfl⟩, ⟨_, HS1.out.below (hbl _ _)⟩, HB1.out.trans (ButAt.of_below (hbl _ _) (Nat.le_of_lt HS1.out.lt))⟩
    | some KT =>
      have HSTEP := hide (show ∀ X Y, KT = (X, Y) → parStep L k (l.map FaultT.flt) = if (parFrs L (L.length - (k + 1)) (k + 1) []).1 = 0 then
            (if (parFrs L (L.length - (k + 1)) (k + 1) []).2.1 = L.length then .inl (some (l.map FaultT.flt ++ [⟨X, Y, (parFrs L (L.length - (k + 1)) (k + 1) []).2.2⟩]), 0)
             else .inr ((parFrs L (L.length - (k + 1)) (k + 1) []).2.1, l.map FaultT.flt ++ [⟨X, Y, (parFrs L (L.length - (k + 1)) (k + 1) []).2.2⟩]))
          else .inl (none, (parFrs L (L.length - (k + 1)) (k + 1) []).1) from fun X Y e => by unfold parStep; rw [hfl, e])
      have hkL := fltS_lt hfl
      have hkn' : k < n := by have := HLEN.out; omega
      rw [hfl] at HFL
      clear hfl hkL
      obtain ⟨RF, hRF⟩ : ∃ RF, parFrs L (L.length - (k + 1)) (k + 1) [] = RF := ⟨_, rfl⟩
      rw [hRF] at HSTEP
      have HRF := hide hRF
      clear hRF
      go_wp2_with (first | (go_at_call 37; refine HFL.out.mono ?_; rintro e w1 ⟨⟨X, Y, rfl, hxy, zx, zy⟩, hS1, hB1⟩; have hkt : KT = (X, Y) := Option.some.inj (hxy.resolve_right (fun e => by cases e)); subst hkt; clear hxy; have HS1 : Hid (Src p A n c L t (k + 1) w1) := hide hS1; have HB1 := hide (HB.out.trans hB1); have HT1 := hide (HF.out.keep (KeepB.of_but hB1) (Nat.le_refl _) (.inl hp)); clear hS1 hB1; have hp1 := HS1.out.lt; have hz1 := HB1.out.be.size) | fail)
      have HSTEP := hide (HSTEP.out X Y rfl)
      have HFB0 := hide (FBox.new w1 X Y)
      have hb0 := fun ob : Obj => (Below.refl w1.heap.size w1).alloc (Nat.le_refl _) ob
      have HB0 := hide hb0
      clear hb0
      go_loopw [] (fun wr2 => ∃ (k1 : Nat) (fs : List Frame) (v : Value), Src p A n c L t k1 wr2 ∧ FBox w1.heap.size X Y v fs wr2 ∧ KeepB p w1.heap.size w1 wr2 ∧ fs.length + (k + 1) ≤ k1 ∧ parFrs L (L.length - k1) k1 fs = RF) (fun wr2 => n - atOf p wr2)
      case atStart => exact ⟨k + 1, [], _, HS1.out.below (HB0.out _), HFB0.out, KeepB.of_below (HB0.out _) (Nat.le_refl _) (Nat.le_of_lt hp1), by simp, HRF.out⟩
      case round =>
        obtain ⟨k1, fs, v, hS2, hF2, hK2, hfs, hR2⟩ := hrel
        obtain ⟨A2, c2, rfl⟩ := own_sl hF2.row
        have HS2 := hide hS2
        have HF2 := hide hF2
        have HK2 := hide hK2
        have HR2 := hide hR2
        have hk1n := hS2.le
        have hp2 := hS2.lt
        have hz2 := hK2.be.size
        have hF2lt := hF2.lt
        have x0 : wr.cell? ⟨p, 0, none⟩ = some (.slice A n c) := (block_cell HS2.out.box 0).trans rfl
        have x1 : wr.cell? ⟨p, 1, none⟩ = some (.int .i64 (k1 : Int)) := (block_cell HS2.out.box 1).trans (by simp)
        clear hS2 hF2 hK2 hR2
        by_cases hk1 : k1 < n
        · obtain ⟨bb, oo, x, hA, hx, hxs, c0⟩ := HS2.out.line hk1
          have HA := hide hA
          clear hA
          have hk1i : (k1 : Int) < (n : Int) := by omega
          have hbq := fun q => begins_q preFlt (HS2.out.below (below_drewN (Below.refl _ _) q))
          cases hbg : begK L k1 preFlt
          · have hA := HA.out
            clear HA
            subst hA
            rw [hbg] at hbq
            have HBG := hide hbq
            clear hbq
            go_wp2_with (fail)
            go_quiet ((go_at_call 38; exact Calls.quiet_of (HBG.out _)))
            have HS3 := hide (HS2.out.below (below_drewN (Below.refl _ _) nq))
            have HF3 := hide (HF2.out.below (below_drewN (Below.refl _ _) nq))
            have HK3 := hide (HK2.out.trans (KeepB.of_below (below_drewN (Below.refl _ _) nq) hz2 (Nat.le_of_lt hp2)))
            obtain ⟨w3, hw3⟩ : ∃ w3, wr.drewN nq = w3 := ⟨_, rfl⟩
            rw [hw3] at HS3 HF3 HK3 ⊢
            clear hw3
            have hp3 := HS3.out.lt
            have hz3 := HK3.out.be.size
            have hF3lt := HF3.out.lt
            go_wp2_with (fail)
            have hC := c0
            have c3 : w3.cell? ⟨bb, oo + k1, none⟩ = some (.string x) := by
              obtain ⟨b9, o9, x9, e9, hx9, _, h9⟩ := HS3.out.line hk1
              simp at e9
              obtain ⟨rfl, rfl⟩ := e9
              rw [hx] at hx9
              obtain rfl := Option.some.inj hx9
              exact h9
            clear hC c0
            have hbbp : bb < p := by
              obtain ⟨b9, o9, x9, e9, hl9, _⟩ := HS3.out.sl.at_ hk1
              simp at e9
              obtain ⟨rfl, rfl⟩ := e9
              exact hl9
            have hHX := heap_alloc_new w3 (.cells #[.string ⟨#[]⟩, .string ⟨#[]⟩, .string ⟨#[]⟩, .int .i64 0, .int .i64 0, .bool false] 43)
            have hbw := (Below.refl w3.heap.size w3).alloc (Nat.le_refl _) (.cells #[.string ⟨#[]⟩, .string ⟨#[]⟩, .string ⟨#[]⟩, .int .i64 0, .int .i64 0, .bool false] 43)
            obtain ⟨w4, hw4⟩ : ∃ w4, w3.alloc (.cells #[.string ⟨#[]⟩, .string ⟨#[]⟩, .string ⟨#[]⟩, .int .i64 0, .int .i64 0, .bool false] 43) = w4 := ⟨_, rfl⟩
            rw [hw4] at hHX hbw ⊢
            have HX4 := hide hHX
            have HS4 := hide (HS3.out.below hbw)
            have HF4 := hide (HF3.out.below hbw)
            have HK4 := hide (HK3.out.trans (KeepB.of_below hbw hz3 (Nat.le_of_lt hp3)))
            have HBW4 := hide hbw
            have c4 : w4.cell? ⟨bb, oo + k1, none⟩ = some (.string x) := (hbw.cell (p := ⟨bb, oo + k1, none⟩) (by show bb < w3.heap.size; omega)).trans c3
            have hvb : ∀ j, (Value.slice A2 fs.length c2).ownBlock = some j → j < w3.heap.size := fun j hj => (HF3.out.row.lt j hj).2
            have hz4 := hbw.size
            clear hw4 hHX hbw c3 x0 x1
            have x0 : w4.cell? ⟨p, 0, none⟩ = some (.slice (some ⟨bb, oo, none⟩) n c) := (block_cell HS4.out.box 0).trans rfl
            have x1 : w4.cell? ⟨p, 1, none⟩ = some (.int .i64 (k1 : Int)) := (block_cell HS4.out.box 1).trans (by simp)
            have hB4 : Below w4.heap.size w4 w4.drew := below_drewN (Below.refl _ _) 1
            have HRC := hide (readCall_any x w3.heap.size ⟨#[]⟩ ⟨#[]⟩ ⟨#[]⟩ 0 0 false w4.drew hxs (HS4.out.below hB4).mx (block_below HX4.out hB4))
            have HB4 := hide hB4
            clear hB4
            refine wp_region_chain (fun W => W.cell? ⟨p, 0, none⟩ = some (.slice (some ⟨bb, oo, none⟩) n c) ∧ W.cell? ⟨p, 1, none⟩ = some (.int .i64 (k1 : Int)) ∧ W.cell? ⟨bb, oo + k1, none⟩ = some (.string x)) 11 (by as_aux_lemma => kernel_rfl) (N := 12) (by as_aux_lemma => kernel_rfl) ?_; intro hsh
            have HSS : w4.drew.cell? ⟨p, 0, none⟩ = some (.slice (some ⟨bb, oo, none⟩) n c) ∧ w4.drew.cell? ⟨p, 1, none⟩ = some (.int .i64 (k1 : Int)) ∧ w4.drew.cell? ⟨bb, oo + k1, none⟩ = some (.string x) := ⟨x0, x1, c4⟩
            refine wpAnyC_take0 (i := 0) (k := 11) (v := ?_) (d := some 38) rfl (by rfl) (by as_aux_lemma => kernel_rfl) (by as_aux_lemma => kernel_rfl) (by as_aux_lemma => kernel_rfl) hsh (by decide) (by intro _ _ _ h; exact h) (by assumption) (Or.inl ⟨by rfl, ?hy⟩) ?_; (case hy => (intro W _; go_simp; (try with_reducible rfl))); clear hsh; intro hsh
            refine wpAnyC_take0 (i := 1) (k := 11) (v := ?_) (d := some 39) rfl (by rfl) (by as_aux_lemma => kernel_rfl) (by as_aux_lemma => kernel_rfl) (by as_aux_lemma => kernel_rfl) hsh (by decide) (by intro _ _ _ h; exact h) (by assumption) (Or.inl ⟨by rfl, ?hy⟩) ?_; (case hy => (intro W _; go_simp; (try with_reducible rfl))); clear hsh; intro hsh
            refine wpAnyC_take0 (i := 2) (k := 11) (v := ?_) (d := some 40) rfl (by rfl) (by as_aux_lemma => kernel_rfl) (by as_aux_lemma => kernel_rfl) (by as_aux_lemma => kernel_rfl) hsh (by decide) (by intro _ _ _ h; exact h) (by assumption) (Or.inl ⟨by rfl, ?hy⟩) ?_; (case hy => (intro W _; go_simp; (try with_reducible rfl))); clear hsh; intro hsh
            refine wpAnyC_take (i := 3) (k := 11) (f := 40) (v := ?_) (d := some 41) rfl (by rfl) (by as_aux_lemma => kernel_rfl) (by as_aux_lemma => kernel_rfl) (by as_aux_lemma => kernel_rfl) hsh (by decide) (by as_aux_lemma => kernel_rfl) (by intro _ _ _ h; exact h) (by assumption) (Or.inl ⟨by rfl, ?hy⟩) ?_; (case hy => (rintro W ⟨y0, y1, y2⟩; go_simp; (try with_reducible rfl))); clear hsh; intro hsh
            refine wpAnyC_take0 (i := 4) (k := 11) (v := ?_) (d := some 42) rfl (by rfl) (by as_aux_lemma => kernel_rfl) (by as_aux_lemma => kernel_rfl) (by as_aux_lemma => kernel_rfl) hsh (by decide) (by intro _ _ _ h; exact h) (by assumption) (Or.inl ⟨by rfl, ?hy⟩) ?_; (case hy => (intro W _; go_simp; (try with_reducible rfl))); clear hsh; intro hsh
            refine wpAnyC_take0 (i := 5) (k := 11) (v := ?_) (d := some 43) rfl (by rfl) (by as_aux_lemma => kernel_rfl) (by as_aux_lemma => kernel_rfl) (by as_aux_lemma => kernel_rfl) hsh (by decide) (by intro _ _ _ h; exact h) (by assumption) (Or.inl ⟨by rfl, ?hy⟩) ?_; (case hy => (intro W _; go_simp; (try with_reducible rfl))); clear hsh; intro hsh
            refine wpAnyC_take0 (i := 6) (k := 11) (v := ?_) (d := some 44) rfl (by rfl) (by as_aux_lemma => kernel_rfl) (by as_aux_lemma => kernel_rfl) (by as_aux_lemma => kernel_rfl) hsh (by decide) (by intro _ _ _ h; exact h) (by assumption) (Or.inl ⟨by rfl, ?hy⟩) ?_; (case hy => (intro W _; go_simp; (try with_reducible rfl))); clear hsh; intro hsh
            refine wpAnyC_take (i := 7) (k := 11) (f := 40) (v := ?_) (d := some 45) rfl (by rfl) (by as_aux_lemma => kernel_rfl) (by as_aux_lemma => kernel_rfl) (by as_aux_lemma => kernel_rfl) hsh (by decide) (by as_aux_lemma => kernel_rfl) (by intro _ _ _ h; exact h) (by assumption) (Or.inl ⟨by rfl, ?hy⟩) ?_; (case hy => (rintro W ⟨y0, y1, y2⟩; go_simp; (try with_reducible rfl))); clear hsh; intro hsh
            refine wpAnyC_take0 (i := 8) (k := 11) (v := ?_) (d := some 46) rfl (by rfl) (by as_aux_lemma => kernel_rfl) (by as_aux_lemma => kernel_rfl) (by as_aux_lemma => kernel_rfl) hsh (by decide) (by intro _ _ _ h; exact h) (by assumption) (Or.inl ⟨by rfl, ?hy⟩) ?_; (case hy => (intro W _; go_simp; (try with_reducible rfl))); clear hsh; intro hsh
            refine wpAnyC_take (i := 9) (k := 11) (f := 40) (v := ?_) (d := some 47) rfl (by rfl) (by as_aux_lemma => kernel_rfl) (by as_aux_lemma => kernel_rfl) (by as_aux_lemma => kernel_rfl) hsh (by decide) (by as_aux_lemma => kernel_rfl) (by intro _ _ _ h; exact h) (by assumption) (Or.inl ⟨by rfl, ?hy⟩) ?_; (case hy => (rintro W ⟨y0, y1, y2⟩; go_simp; (try with_reducible rfl))); clear hsh; intro hsh
            refine wpAnyC_ready (rs := [10]) (by as_aux_lemma => kernel_rfl) (by simp) ?_; refine AllC.cons (i := 10) rfl (by as_aux_lemma => kernel_rfl) hsh (fun K hK => ?_) AllC.nil
            go_simp
            go_at_call 45
            refine HRC.out.mono ?_
            rintro e w5 ⟨rfl, hX5, hB5⟩
            have hB5' : Below w3.heap.size w4 w5 := (HB4.out.mono hz4).trans hB5.be
            have HX5 := hide hX5
            have HS5 := hide (HS4.out.belowB hB5' hp3)
            have HF5 := hide (HF4.out.belowB hB5' hF3lt hvb)
            have HK5 := hide (HK4.out.trans (KeepB.of_below hB5' (by omega) (Nat.le_of_lt hp3)))
            have hz5 := hB5'.size
            have c5 : w5.cell? ⟨bb, oo + k1, none⟩ = some (.string x) := (hB5'.cell (p := ⟨bb, oo + k1, none⟩) (by show bb < w3.heap.size; omega)).trans c4
            have y0 : w5.cell? ⟨p, 0, none⟩ = some (.slice (some ⟨bb, oo, none⟩) n c) := (block_cell HS5.out.box 0).trans rfl
            have y1 : w5.cell? ⟨p, 1, none⟩ = some (.int .i64 (k1 : Int)) := (block_cell HS5.out.box 1).trans (by simp)
            have g1 := block_free HS5.out.box 1
            try go_simp
            refine hK _ _ (fun _ => ⟨y0, y1, c5⟩) ?_
            clear hK K hsh HSS hX5 hB5 hB5' c4 x0 x1
            intro hsh
            refine wpAnyC_tail (by as_aux_lemma => kernel_rfl) (by simp) (by as_aux_lemma => kernel_rfl) ?_; simp only [List.drop_succ_cons, List.drop_zero]; clear hsh
            cases hck : callK x
            · skip
              have E := hide (show RR = (none, k1 + 1) by rw [← HRK.out]; exact par_last (by rw [HSTEP.out, ← HR2.out, par_call hx hbg hck]; rfl))
              go_simp
              go_wp2_with (go_quiet (fail))
              refine bodyPost_ret (by simp [results, Tryz.results24, go_sem]; try rfl) rfl ?_
              have hbl : ∀ q, Below w5.heap.size w5 (w5.drewN q) := fun q => below_drewN (Below.refl _ _) q
              exact ⟨⟨_, [], by rw [E.out] <;> rfl, Fts.nil _ _, by rw [E.out] <;> rfl⟩, ⟨_, HS5.out.below (hbl _)⟩, (HB1.out.keepB HK5.out hz1).trans (ButAt.of_below (hbl _) (Nat.le_of_lt HS5.out.lt))⟩
            · have hn2 := fun W (H : Src p (some ⟨bb, oo, none⟩) n c L t (k1 + 1) W) => next_any preTab H
              simp only [NxOut, nextK] at hn2
              have hzS2 := lineR_size HS2.out preTab
              have hS6 := HS5.out.set (j := k1 + 1) (by omega) (u := (k1 : Int) + 1) (by omega)
              have hF6 := HF5.out.but (ButAt.set w5 (c := p) 1 (.int .i64 ((k1 : Int) + 1))) hp1
              have hK6 := HK5.out.trans (KeepB.of_but (F := w1.heap.size) (ButAt.set w5 (c := p) 1 (.int .i64 ((k1 : Int) + 1))))
              have hX6 := block_set_other HX5.out ⟨p, 1, none⟩ (.int .i64 ((k1 : Int) + 1)) (by show w3.heap.size ≠ p; omega)
              have hz6 : w5.heap.size ≤ (w5.setCell ⟨p, 1, none⟩ (.int .i64 ((k1 : Int) + 1))).heap.size := by simp
              obtain ⟨w6, hw6⟩ : ∃ w6, w5.setCell ⟨p, 1, none⟩ (.int .i64 ((k1 : Int) + 1)) = w6 := ⟨_, rfl⟩
              rw [hw6] at hS6 hF6 hK6 hX6 hz6
              have HS6 := hide hS6
              have HF6 := hide hF6
              have HK6 := hide hK6
              have HX6 := hide hX6
              clear hS6 hF6 hK6 hX6
              cases hbt : begK L (k1 + 1) preTab
              · skip
                have E := hide (show RR = (none, k1 + 2) by rw [← HRK.out]; exact par_last (by rw [HSTEP.out, ← HR2.out, par_tab hx hbg hck hbt]; rfl))
                simp only [hbt] at hn2
                have HN2 := hide hn2
                clear hn2
                go_simp
                go_wp2_with (first | (go_at_call 40; refine (HN2.out _ HS6.out).mono ?_; rintro e w7 ⟨rfl, hS7, hB7⟩; clear HN2; have HF7 := hide (HF6.out.but hB7 hp1); have HK7 := hide (HK6.out.trans (KeepB.of_but hB7)); have HX7 := hide (hB7.keep _ _ HX6.out (by omega)); have hz7 := hB7.be.size; have HS7 : Hid (Src p (some ⟨bb, oo, none⟩) n c L t (k1 + 1) w7) := hide hS7; clear hS7 hB7; have x1 : w7.cell? ⟨p, 1, none⟩ = some (.int .i64 ((k1 : Int) + 1)) := (block_cell HS7.out.box 1).trans (by simp); have g1 := block_free HS7.out.box 1) | go_quiet (fail))
                refine bodyPost_ret (by simp [results, Tryz.results24, go_sem]; try rfl) rfl ?_
                have hbl : ∀ q, Below w7.heap.size w7 (w7.drewN q) := fun q => below_drewN (Below.refl _ _) q
                exact ⟨⟨_, [], by rw [E.out] <;> rfl, Fts.nil _ _, by rw [E.out] <;> rfl⟩, ⟨_, HS7.out.below (hbl _)⟩, (HB1.out.keepB HK7.out hz1).trans (ButAt.of_below (hbl _) (Nat.le_of_lt HS7.out.lt))⟩
              · simp only [hbt, if_true] at hn2
                have HN2 := hide hn2
                have hk2L := begK_lt hbt
                have hk2n : k1 + 2 ≤ n := by have := HLEN.out; omega
                have hzS : (lineR L (k1 + 1) preTab).size ≤ 1000000 := lineR_size HS6.out preTab
                obtain ⟨S, hS⟩ : ∃ S, lineR L (k1 + 1) preTab = S := ⟨_, rfl⟩
                rw [hS] at HN2 hzS
                have hfo : frO x S = (plR (if emptyB S then [] else wordsOf S)).map (fun q => (callM x, callF x, q)) := by unfold frO frR; simp only [hck, if_true]
                have hzM := callM_size x
                have hzG := callF_size x
                clear hn2 hk2L
                obtain ⟨M, hM⟩ : ∃ M, callM x = M := ⟨_, rfl⟩
                obtain ⟨G, hG⟩ : ∃ G, callF x = G := ⟨_, rfl⟩
                rw [hM, hG] at HX6 hfo
                rw [hM] at hzM
                rw [hG] at hzG
                rw [hM, hG] at HX5
                clear hM hG
                cases he : emptyB S
                · skip
                  obtain ⟨PR, hPR⟩ : ∃ PR, plR (wordsOf S) = PR := ⟨_, rfl⟩
                  rw [he] at hfo
                  simp only [if_false, Bool.false_eq_true, hPR] at hfo
                  have he' : S.toList.isEmpty = false := he
                  have he'' : (S.toList == []) = false := by rw [beq_eq_false_iff_ne]; intro e9; rw [e9] at he'; cases he'
                  have he3 : ¬ S.toList = [] := by intro e9; rw [e9] at he'; cases he'
                  have HSPL := hide (fun W (H : Mx W) => Split_any S W hzS H)
                  have hcnt : (wordsOf S).length ≤ 1000001 := by have h1 := wordsOf_len S; have := Lib.countB_le ⟨#[32]⟩ (by decide) _ S (Nat.le_refl _); omega
                  have hwsz : ∀ y ∈ wordsOf S, y.size ≤ 1000000 := fun y hy => by have := wordsOf_le hy; omega
                  have HWS := hide hwsz
                  clear hwsz
                  cases PR with
                  | none =>
                    have E := hide (show RR = (none, k1 + 2) by rw [← HRK.out]; exact par_last (by rw [HSTEP.out, ← HR2.out, par_bad hx hbg hck hbt (by rw [hS, hfo]; rfl)]; rfl))
                    go_simp
                    go_wp2_with (first | (go_at_call 40; refine (HN2.out _ HS6.out).mono ?_; rintro e w7 ⟨rfl, hS7, hB7⟩; clear HN2; have HF7 := hide (HF6.out.but hB7 hp1); have HK7 := hide (HK6.out.trans (KeepB.of_but hB7)); have HX7 := hide (hB7.keep _ _ HX6.out (by omega)); have hz7 := hB7.be.size; have HS7 : Hid (Src p (some ⟨bb, oo, none⟩) n c L t (k1 + 2) w7) := hide hS7; clear hS7 hB7) | (go_at_call 13; refine (HSPL.out _ HS7.out.mx).mono ?_; rintro e w8 ⟨rfl, hw8, hsl8, hlt8⟩; have HS8 := hide (HS7.out.below hw8); have HF8 := hide (HF7.out.below hw8); have HK8 := hide (HK7.out.trans (KeepB.of_below hw8 HK7.out.be.size (Nat.le_of_lt HS7.out.lt))); have HX8 := hide (block_below HX7.out hw8); have HSL8 := hide hsl8; have hz8 := hw8.size; have hx7lt := lt_of_block HX7.out; clear hw8 hsl8) | (go_at_call 46; refine (readPlace_any (some ⟨w7.heap.size, 0, none⟩) (wordsOf S).length (wordsOf S).length (wordsOf S) w3.heap.size M G w8 HWS.out (by omega) (Nat.le_refl _) (by unfold maxLen; omega) ⟨HX8.out, HSL8.out, fun g o' e => by simp at e; omega, ButAt.refl _ _, HS8.out.mx⟩).mono ?_; intro e w9 hpo; unfold PlOut at hpo; rw [hPR] at hpo; obtain ⟨he9, f, li, ad, ow, hX9, hB9, hzf, hor⟩ := hpo; subst he9; have HF9 := hide (HF8.out.belowB hB9.be hF3lt hvb); have HS9 := hide (HS8.out.belowB hB9.be hp3); have HK9 := hide (HK8.out.trans (KeepB.of_below hB9.be (by omega) (Nat.le_of_lt hp3))); have HX9 := hide hX9; have hz9 := hB9.be.size; clear hX9 hB9; have x1 : w9.cell? ⟨p, 1, none⟩ = some (.int .i64 ((k1 : Int) + 2)) := (block_cell HS9.out.box 1).trans (by simp); have g1 := block_free HS9.out.box 1) | go_quiet (fail))
                    refine bodyPost_ret (by simp [results, Tryz.results24, go_sem]; try rfl) rfl ?_
                    have hbl : ∀ q, Below w9.heap.size w9 (w9.drewN q) := fun q => below_drewN (Below.refl _ _) q
                    exact ⟨⟨_, [], by rw [E.out] <;> rfl, Fts.nil _ _, by rw [E.out] <;> rfl⟩, ⟨_, HS9.out.below (hbl _)⟩, (HB1.out.keepB HK9.out hz1).trans (ButAt.of_below (hbl _) (Nat.le_of_lt HS9.out.lt))⟩
                  | some q =>
                    have hR4 : parFrs L (L.length - (k1 + 2)) (k1 + 2) (fs ++ [frmF (M, G, q)]) = RF := (par_step hx hbg hck hbt (by rw [hS, hfo]; rfl)).symm.trans HR2.out
                    have HR4 := hide hR4
                    clear HSTEP HRF HR2 hR4
                    go_simp
                    go_wp2_with (first | (go_at_call 40; refine (HN2.out _ HS6.out).mono ?_; rintro e w7 ⟨rfl, hS7, hB7⟩; clear HN2; have HF7 := hide (HF6.out.but hB7 hp1); have HK7 := hide (HK6.out.trans (KeepB.of_but hB7)); have HX7 := hide (hB7.keep _ _ HX6.out (by omega)); have hz7 := hB7.be.size; have HS7 : Hid (Src p (some ⟨bb, oo, none⟩) n c L t (k1 + 2) w7) := hide hS7; clear hS7 hB7) | (go_at_call 13; refine (HSPL.out _ HS7.out.mx).mono ?_; rintro e w8 ⟨rfl, hw8, hsl8, hlt8⟩; have HS8 := hide (HS7.out.below hw8); have HF8 := hide (HF7.out.below hw8); have HK8 := hide (HK7.out.trans (KeepB.of_below hw8 HK7.out.be.size (Nat.le_of_lt HS7.out.lt))); have HX8 := hide (block_below HX7.out hw8); have HSL8 := hide hsl8; have hz8 := hw8.size; have hx7lt := lt_of_block HX7.out; clear hw8 hsl8) | (go_at_call 46; refine (readPlace_any (some ⟨w7.heap.size, 0, none⟩) (wordsOf S).length (wordsOf S).length (wordsOf S) w3.heap.size M G w8 HWS.out (by omega) (Nat.le_refl _) (by unfold maxLen; omega) ⟨HX8.out, HSL8.out, fun g o' e => by simp at e; omega, ButAt.refl _ _, HS8.out.mx⟩).mono ?_; intro e w9 hpo; unfold PlOut at hpo; rw [hPR] at hpo; obtain ⟨he9, f, li, ad, ow, hX9, hB9, hzf, hor⟩ := hpo; subst he9; have HF9 := hide (HF8.out.belowB hB9.be hF3lt hvb); have HS9 := hide (HS8.out.belowB hB9.be hp3); have HK9 := hide (HK8.out.trans (KeepB.of_below hB9.be (by omega) (Nat.le_of_lt hp3))); have HX9 := hide hX9; have hz9 := hB9.be.size; clear hX9 hB9; have hq9 : q = (f, li, ad, ow) := Option.some.inj (hor.resolve_right (fun e => by cases e)); subst hq9; clear hor; have hz10 := HS9.out.lt; have hal := fun ob : Obj => (Below.refl w9.heap.size w9).alloc (Nat.le_refl _) ob; have HALA := hide hal; clear hal; have fr9 := block_free HF9.out.box 2; have x2 : w9.cell? ⟨w1.heap.size, 2, none⟩ = some (.slice A2 fs.length c2) := (block_cell HF9.out.box 2).trans rfl; have b0 : w9.cell? ⟨w3.heap.size, 0, none⟩ = some (.string M) := (block_cell HX9.out 0).trans rfl; have b1 : w9.cell? ⟨w3.heap.size, 1, none⟩ = some (.string G) := (block_cell HX9.out 1).trans rfl; have b2 : w9.cell? ⟨w3.heap.size, 2, none⟩ = some (.string f) := (block_cell HX9.out 2).trans rfl; have b3 : w9.cell? ⟨w3.heap.size, 3, none⟩ = some (.int .i64 li) := (block_cell HX9.out 3).trans rfl; have b4 : w9.cell? ⟨w3.heap.size, 4, none⟩ = some (.int .i64 ad) := (block_cell HX9.out 4).trans rfl; have b5 : w9.cell? ⟨w3.heap.size, 5, none⟩ = some (.bool ow) := (block_cell HX9.out 5).trans rfl) | (at_builtin; refine wpList_append_own _ rfl (.tmp 86) (.tmp 88) 38 rfl (w1.heap.size + 1) 43 j0 (.agg #[.string ByteArray.empty, .string ByteArray.empty, .string ByteArray.empty, .int .i64 0, .int .i64 0, .bool false]) 6 72 Tryz.underlying38 hj0 jz0 jz1 jz2 rfl (by decide) (.slice A2 fs.length c2) fs.length (fs.flatMap Frame.cs) rfl (HF9.out.row.alloc _) ⟨w9.heap.size, 0, none⟩ 1 1 [.string M, .string G, .string f, .int .i64 li, .int .i64 ad, .bool ow] rfl rfl (cells_at _ [.string M, .string G, .string f, .int .i64 li, .int .i64 ad, .bool ow] _ _ rfl) (by intro u hu; simp at hu; rcases hu with rfl | rfl | rfl | rfl | rfl | rfl <;> rfl) (by unfold maxLen; omega) (by omega) (by simp; omega) ?_; intro vA wA hownA hgA _; obtain ⟨AA, cA, rfl⟩ := own_sl hownA; have hadd := (HF9.out.below (HALA.out _)).add (es := [frmF (M, G, f, li, ad, ow)]) hgA hownA (fun y hy => by simp at hy; subst hy; exact frmF_fit (by omega) (by omega) hzf); have hkb := (HF9.out.below (HALA.out _)).keepB (p := p) hgA (Nat.le_of_lt hp1) (.slice AA (fs.length + 1) cA); have hlo := HF9.out.row.lt; have fA := block_free hadd.1 2; have yA : wA.cell? ⟨w1.heap.size, 2, none⟩ = some (.slice A2 fs.length c2) := (block_cell hadd.1 2).trans rfl; have HFB := hide hadd.2; have HKB := hide ((HK9.out.trans (KeepB.of_below (HALA.out _) (by omega) (by omega))).trans hkb); have HSB := hide (((HS9.out.below (HALA.out _)).grown hgA (fun j hj => by have := (hlo j hj).1; omega)).other (ButAt.set wA (c := w1.heap.size) 2 (.slice AA (fs.length + 1) cA)) hp1); clear hownA hgA hadd hkb hlo) | fail)
                    go_roundw
                    case rel => exact ⟨k1 + 2, fs ++ [frmF (M, G, f, li, ad, ow)], _, HSB.out, HFB.out, HKB.out, by rw [List.length_append]; simp; omega, HR4.out⟩
                    case measure =>
                      rw [HSB.out.atOf, HS2.out.atOf]
                      omega
                · skip
                  obtain ⟨PR, hPR⟩ : ∃ PR, plR [] = PR := ⟨_, rfl⟩
                  rw [he] at hfo
                  simp only [if_true, hPR] at hfo
                  have hSe := emptyB_iff he
                  subst hSe
                  cases PR with
                  | none =>
                    have E := hide (show RR = (none, k1 + 2) by rw [← HRK.out]; exact par_last (by rw [HSTEP.out, ← HR2.out, par_bad hx hbg hck hbt (by rw [hS, hfo]; rfl)]; rfl))
                    go_simp
                    go_wp2_with (first | (go_at_call 40; refine (HN2.out _ HS6.out).mono ?_; rintro e w7 ⟨rfl, hS7, hB7⟩; clear HN2; have HF7 := hide (HF6.out.but hB7 hp1); have HK7 := hide (HK6.out.trans (KeepB.of_but hB7)); have HX7 := hide (hB7.keep _ _ HX6.out (by omega)); have hz7 := hB7.be.size; have HS7 : Hid (Src p (some ⟨bb, oo, none⟩) n c L t (k1 + 2) w7) := hide hS7; clear hS7 hB7) | (go_at_call 46; refine (readPlace_any none 0 0 [] w3.heap.size M G w7 (fun y hy => by simp at hy) (by omega) (Nat.le_refl _) (Nat.zero_le _) ⟨HX7.out, Sl.nil _ _ _ _ _, fun g o' e => by simp at e, ButAt.refl _ _, HS7.out.mx⟩).mono ?_; intro e w9 hpo; unfold PlOut at hpo; rw [hPR] at hpo; obtain ⟨he9, f, li, ad, ow, hX9, hB9, hzf, hor⟩ := hpo; subst he9; have HF9 := hide (HF7.out.belowB hB9.be hF3lt hvb); have HS9 := hide (HS7.out.belowB hB9.be hp3); have HK9 := hide (HK7.out.trans (KeepB.of_below hB9.be (by omega) (Nat.le_of_lt hp3))); have HX9 := hide hX9; have hz9 := hB9.be.size; clear hX9 hB9; have x1 : w9.cell? ⟨p, 1, none⟩ = some (.int .i64 ((k1 : Int) + 2)) := (block_cell HS9.out.box 1).trans (by simp); have g1 := block_free HS9.out.box 1) | go_quiet (fail))
                    refine bodyPost_ret (by simp [results, Tryz.results24, go_sem]; try rfl) rfl ?_
                    have hbl : ∀ q, Below w9.heap.size w9 (w9.drewN q) := fun q => below_drewN (Below.refl _ _) q
                    exact ⟨⟨_, [], by rw [E.out] <;> rfl, Fts.nil _ _, by rw [E.out] <;> rfl⟩, ⟨_, HS9.out.below (hbl _)⟩, (HB1.out.keepB HK9.out hz1).trans (ButAt.of_below (hbl _) (Nat.le_of_lt HS9.out.lt))⟩
                  | some q =>
                    have hR4 : parFrs L (L.length - (k1 + 2)) (k1 + 2) (fs ++ [frmF (M, G, q)]) = RF := (par_step hx hbg hck hbt (by rw [hS, hfo]; rfl)).symm.trans HR2.out
                    have HR4 := hide hR4
                    clear HSTEP HRF HR2 hR4
                    go_simp
                    go_wp2_with (first | (go_at_call 40; refine (HN2.out _ HS6.out).mono ?_; rintro e w7 ⟨rfl, hS7, hB7⟩; clear HN2; have HF7 := hide (HF6.out.but hB7 hp1); have HK7 := hide (HK6.out.trans (KeepB.of_but hB7)); have HX7 := hide (hB7.keep _ _ HX6.out (by omega)); have hz7 := hB7.be.size; have HS7 : Hid (Src p (some ⟨bb, oo, none⟩) n c L t (k1 + 2) w7) := hide hS7; clear hS7 hB7) | (go_at_call 46; refine (readPlace_any none 0 0 [] w3.heap.size M G w7 (fun y hy => by simp at hy) (by omega) (Nat.le_refl _) (Nat.zero_le _) ⟨HX7.out, Sl.nil _ _ _ _ _, fun g o' e => by simp at e, ButAt.refl _ _, HS7.out.mx⟩).mono ?_; intro e w9 hpo; unfold PlOut at hpo; rw [hPR] at hpo; obtain ⟨he9, f, li, ad, ow, hX9, hB9, hzf, hor⟩ := hpo; subst he9; have HF9 := hide (HF7.out.belowB hB9.be hF3lt hvb); have HS9 := hide (HS7.out.belowB hB9.be hp3); have HK9 := hide (HK7.out.trans (KeepB.of_below hB9.be (by omega) (Nat.le_of_lt hp3))); have HX9 := hide hX9; have hz9 := hB9.be.size; clear hX9 hB9; have hq9 : q = (f, li, ad, ow) := Option.some.inj (hor.resolve_right (fun e => by cases e)); subst hq9; clear hor; have hz10 := HS9.out.lt; have hal := fun ob : Obj => (Below.refl w9.heap.size w9).alloc (Nat.le_refl _) ob; have HALA := hide hal; clear hal; have fr9 := block_free HF9.out.box 2; have x2 : w9.cell? ⟨w1.heap.size, 2, none⟩ = some (.slice A2 fs.length c2) := (block_cell HF9.out.box 2).trans rfl; have b0 : w9.cell? ⟨w3.heap.size, 0, none⟩ = some (.string M) := (block_cell HX9.out 0).trans rfl; have b1 : w9.cell? ⟨w3.heap.size, 1, none⟩ = some (.string G) := (block_cell HX9.out 1).trans rfl; have b2 : w9.cell? ⟨w3.heap.size, 2, none⟩ = some (.string f) := (block_cell HX9.out 2).trans rfl; have b3 : w9.cell? ⟨w3.heap.size, 3, none⟩ = some (.int .i64 li) := (block_cell HX9.out 3).trans rfl; have b4 : w9.cell? ⟨w3.heap.size, 4, none⟩ = some (.int .i64 ad) := (block_cell HX9.out 4).trans rfl; have b5 : w9.cell? ⟨w3.heap.size, 5, none⟩ = some (.bool ow) := (block_cell HX9.out 5).trans rfl) | (at_builtin; refine wpList_append_own _ rfl (.tmp 86) (.tmp 88) 38 rfl (w1.heap.size + 1) 43 j0 (.agg #[.string ByteArray.empty, .string ByteArray.empty, .string ByteArray.empty, .int .i64 0, .int .i64 0, .bool false]) 6 72 Tryz.underlying38 hj0 jz0 jz1 jz2 rfl (by decide) (.slice A2 fs.length c2) fs.length (fs.flatMap Frame.cs) rfl (HF9.out.row.alloc _) ⟨w9.heap.size, 0, none⟩ 1 1 [.string M, .string G, .string f, .int .i64 li, .int .i64 ad, .bool ow] rfl rfl (cells_at _ [.string M, .string G, .string f, .int .i64 li, .int .i64 ad, .bool ow] _ _ rfl) (by intro u hu; simp at hu; rcases hu with rfl | rfl | rfl | rfl | rfl | rfl <;> rfl) (by unfold maxLen; omega) (by omega) (by simp; omega) ?_; intro vA wA hownA hgA _; obtain ⟨AA, cA, rfl⟩ := own_sl hownA; have hadd := (HF9.out.below (HALA.out _)).add (es := [frmF (M, G, f, li, ad, ow)]) hgA hownA (fun y hy => by simp at hy; subst hy; exact frmF_fit (by omega) (by omega) hzf); have hkb := (HF9.out.below (HALA.out _)).keepB (p := p) hgA (Nat.le_of_lt hp1) (.slice AA (fs.length + 1) cA); have hlo := HF9.out.row.lt; have fA := block_free hadd.1 2; have yA : wA.cell? ⟨w1.heap.size, 2, none⟩ = some (.slice A2 fs.length c2) := (block_cell hadd.1 2).trans rfl; have HFB := hide hadd.2; have HKB := hide ((HK9.out.trans (KeepB.of_below (HALA.out _) (by omega) (by omega))).trans hkb); have HSB := hide (((HS9.out.below (HALA.out _)).grown hgA (fun j hj => by have := (hlo j hj).1; omega)).other (ButAt.set wA (c := w1.heap.size) 2 (.slice AA (fs.length + 1) cA)) hp1); clear hownA hgA hadd hkb hlo) | fail)
                    go_roundw
                    case rel => exact ⟨k1 + 2, fs ++ [frmF (M, G, f, li, ad, ow)], _, HSB.out, HFB.out, HKB.out, by rw [List.length_append]; simp; omega, HR4.out⟩
                    case measure =>
                      rw [HSB.out.atOf, HS2.out.atOf]
                      omega
          · skip
            rw [hbg] at hbq
            have HBG := hide hbq
            have hRF2 : RF = (0, k1, fs) := HR2.out.symm.trans (par_flt hx hbg)
            have hne : ¬ k1 = L.length := by have := HLEN.out; omega
            have E := hide (show parR L (L.length - k1 + 1) k1 (l.map FaultT.flt ++ [⟨X, Y, fs⟩]) = RR by rw [← HRK.out]; exact (par_next (by rw [HSTEP.out, hRF2]; simp only [if_neg hne, if_true])).symm)
            clear hbq HSTEP HRF HR2 hRF2 hbg hx hne
            have hend' : ((k1 : Int) == (n : Int)) = false := by rw [beq_eq_false_iff_ne]; omega
            go_wp2_with (fail)
            go_quiet ((go_at_call 38; exact Calls.quiet_of (HBG.out _)))
            have HS3 := hide (HS2.out.below (below_drewN (Below.refl _ _) nq))
            have HF3 := hide (HF2.out.below (below_drewN (Below.refl _ _) nq))
            have HK3 := hide (HK2.out.trans (KeepB.of_below (below_drewN (Below.refl _ _) nq) hz2 (Nat.le_of_lt hp2)))
            obtain ⟨w3, hw3⟩ : ∃ w3, wr.drewN nq = w3 := ⟨_, rfl⟩
            rw [hw3] at HS3 HF3 HK3 ⊢
            clear hw3
            have hp3 := HS3.out.lt
            have hz3 := HK3.out.be.size
            have hF3lt := HF3.out.lt
            have HT7 := hide (HT1.out.keep HK3.out (Nat.le_refl _) (.inl hp))
            have hx7 := HF3.out.flt (B := w.heap.size) zx zy (by omega) (by omega)
            have HX7 : Hid ((FaultT.mk X Y A2 fs.length c2 fs).ok w3 ∧ FIn w.heap.size w3 (FaultT.mk X Y A2 fs.length c2 fs)) := hide (by obtain ⟨a9, c9, e9, h9⟩ := hx7; simp at e9; obtain ⟨rfl, rfl⟩ := e9; exact h9)
            clear hx7
            have z0 : w3.cell? ⟨w1.heap.size, 0, none⟩ = some (.string X) := (block_cell HF3.out.box 0).trans rfl
            have z1 : w3.cell? ⟨w1.heap.size, 1, none⟩ = some (.string Y) := (block_cell HF3.out.box 1).trans rfl
            have z2 : w3.cell? ⟨w1.heap.size, 2, none⟩ = some (.slice A2 fs.length c2) := (block_cell HF3.out.box 2).trans rfl
            have hal := fun ob : Obj => (Below.refl w3.heap.size w3).alloc (Nat.le_refl _) ob
            have HAL := hide hal
            clear hal
            go_wp2_with (first | (at_builtin; refine wpList_append_own _ rfl (.tmp 91) (.tmp 93) 22 rfl w.heap.size 40 i0 (.agg #[.string ByteArray.empty, .string ByteArray.empty, .slice none 0 0]) 3 56 Tryz.underlying22 hi0 iz0 iz1 iz2 rfl (by decide) (.slice lA l.length lc) l.length (l.flatMap FaultT.cs) rfl (HT7.out.out.alloc _) ⟨w3.heap.size, 0, none⟩ 1 1 [.string X, .string Y, .slice A2 fs.length c2] rfl rfl (cells_at _ [.string X, .string Y, .slice A2 fs.length c2] _ _ rfl) (by intro u hu; simp at hu; rcases hu with rfl | rfl | rfl <;> rfl) (by unfold maxLen; omega) (by omega) (by simp; omega) ?_; intro v8 w8 hown8 hg8 _; obtain ⟨A8, c8, rfl⟩ := own_sl hown8; have hlo8 := HT7.out.out.lt; have HT8 := hide ((HT7.out.below (HAL.out _)).push (x := ⟨X, Y, A2, fs.length, c2, fs⟩) hg8 hown8 (HX7.out.1.up (HAL.out _)) (HX7.out.2.up (HAL.out _))); have HS8 := hide ((HS3.out.below (HAL.out _)).grown hg8 (fun j hj => by have := (hlo8 j hj).1; omega)); have HB8 := hide (((HB1.out.keepB HK3.out hz1).trans (ButAt.of_below (HAL.out _) (Nat.le_of_lt HS3.out.lt))).grown hg8 (fun j hj => (hlo8 j hj).1) (Nat.le_of_lt hp)); clear hown8 hg8 hlo8; have y0 : w8.cell? ⟨p, 0, none⟩ = some (.slice A n c) := (block_cell HS8.out.box 0).trans rfl; have y1 : w8.cell? ⟨p, 1, none⟩ = some (.int .i64 (k1 : Int)) := (block_cell HS8.out.box 1).trans (by simp)) | go_quiet (fail))
            have hbl : ∀ q, Below w8.heap.size w8 (w8.drewN q) := fun q => below_drewN (Below.refl _ _) q
            go_roundw
            case rel => exact ⟨l ++ [⟨X, Y, A2, fs.length, c2, fs⟩], k1, HS8.out.below (hbl _), HT8.out.below (hbl _), HB8.out.trans (ButAt.of_below (hbl _) (Nat.le_of_lt HS8.out.lt)), by rw [List.length_append]; simp; omega, by rw [List.map_append]; exact E.out⟩
            case measure =>
              rw [(HS8.out.below (hbl _)).atOf, HS.out.atOf]
              omega
        · skip
          have hke : k1 = n := by omega
          have hRF2 : RF = (0, k1, fs) := HR2.out.symm.trans (par_end (List.getElem?_eq_none (by have := HLEN.out; omega)))
          have hne : k1 = L.length := hke.trans HLEN.out.symm
          have hend' : ((k1 : Int) == (n : Int)) = true := by rw [beq_iff_eq]; omega
          have HKE := hide hke
          have E := hide (show RR = (some (l.map FaultT.flt ++ [⟨X, Y, fs⟩]), 0) by rw [← HRK.out]; exact par_last (by rw [HSTEP.out, hRF2]; simp only [if_pos hne, if_true]))
          clear HSTEP HRF HR2 hRF2 hne hke
          go_wp2_with (fail)
          go_quiet (fail)
          have HS3 := hide (HS2.out.below (below_drewN (Below.refl _ _) nq))
          have HF3 := hide (HF2.out.below (below_drewN (Below.refl _ _) nq))
          have HK3 := hide (HK2.out.trans (KeepB.of_below (below_drewN (Below.refl _ _) nq) hz2 (Nat.le_of_lt hp2)))
          obtain ⟨w3, hw3⟩ : ∃ w3, wr.drewN nq = w3 := ⟨_, rfl⟩
          rw [hw3] at HS3 HF3 HK3 ⊢
          clear hw3
          have hp3 := HS3.out.lt
          have hz3 := HK3.out.be.size
          have hF3lt := HF3.out.lt
          have HT7 := hide (HT1.out.keep HK3.out (Nat.le_refl _) (.inl hp))
          have hx7 := HF3.out.flt (B := w.heap.size) zx zy (by omega) (by omega)
          have HX7 : Hid ((FaultT.mk X Y A2 fs.length c2 fs).ok w3 ∧ FIn w.heap.size w3 (FaultT.mk X Y A2 fs.length c2 fs)) := hide (by obtain ⟨a9, c9, e9, h9⟩ := hx7; simp at e9; obtain ⟨rfl, rfl⟩ := e9; exact h9)
          clear hx7
          have z0 : w3.cell? ⟨w1.heap.size, 0, none⟩ = some (.string X) := (block_cell HF3.out.box 0).trans rfl
          have z1 : w3.cell? ⟨w1.heap.size, 1, none⟩ = some (.string Y) := (block_cell HF3.out.box 1).trans rfl
          have z2 : w3.cell? ⟨w1.heap.size, 2, none⟩ = some (.slice A2 fs.length c2) := (block_cell HF3.out.box 2).trans rfl
          have hal := fun ob : Obj => (Below.refl w3.heap.size w3).alloc (Nat.le_refl _) ob
          have HAL := hide hal
          clear hal
          go_wp2_with (first | (at_builtin; refine wpList_append_own _ rfl (.tmp 91) (.tmp 93) 22 rfl w.heap.size 40 i0 (.agg #[.string ByteArray.empty, .string ByteArray.empty, .slice none 0 0]) 3 56 Tryz.underlying22 hi0 iz0 iz1 iz2 rfl (by decide) (.slice lA l.length lc) l.length (l.flatMap FaultT.cs) rfl (HT7.out.out.alloc _) ⟨w3.heap.size, 0, none⟩ 1 1 [.string X, .string Y, .slice A2 fs.length c2] rfl rfl (cells_at _ [.string X, .string Y, .slice A2 fs.length c2] _ _ rfl) (by intro u hu; simp at hu; rcases hu with rfl | rfl | rfl <;> rfl) (by unfold maxLen; omega) (by omega) (by simp; omega) ?_; intro v8 w8 hown8 hg8 _; obtain ⟨A8, c8, rfl⟩ := own_sl hown8; have hlo8 := HT7.out.out.lt; have HT8 := hide ((HT7.out.below (HAL.out _)).push (x := ⟨X, Y, A2, fs.length, c2, fs⟩) hg8 hown8 (HX7.out.1.up (HAL.out _)) (HX7.out.2.up (HAL.out _))); have HS8 := hide ((HS3.out.below (HAL.out _)).grown hg8 (fun j hj => by have := (hlo8 j hj).1; omega)); have HB8 := hide (((HB1.out.keepB HK3.out hz1).trans (ButAt.of_below (HAL.out _) (Nat.le_of_lt HS3.out.lt))).grown hg8 (fun j hj => (hlo8 j hj).1) (Nat.le_of_lt hp)); clear hown8 hg8 hlo8; have y0 : w8.cell? ⟨p, 0, none⟩ = some (.slice A n c) := (block_cell HS8.out.box 0).trans rfl; have y1 : w8.cell? ⟨p, 1, none⟩ = some (.int .i64 (k1 : Int)) := (block_cell HS8.out.box 1).trans (by simp)) | go_quiet (fail))
          have hbl : ∀ q, Below w8.heap.size w8 (w8.drewN q) := fun q => below_drewN (Below.refl _ _) q
          refine bodyPost_ret (by simp [results, Tryz.results24, go_sem]; try rfl) rfl ?_
          exact ⟨⟨_, l ++ [⟨X, Y, A2, fs.length, c2, fs⟩], by rw [E.out] <;> rfl, HT8.out.below (hbl _), by rw [E.out, List.map_append] <;> rfl⟩, ⟨_, HS8.out.below (hbl _)⟩, HB8.out.trans (ButAt.of_below (hbl _) (Nat.le_of_lt HS8.out.lt))⟩
end Go.Proofs.YtkjpojaanocfjaaGreatDoor
