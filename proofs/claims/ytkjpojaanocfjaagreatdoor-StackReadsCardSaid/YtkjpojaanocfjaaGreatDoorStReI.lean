/- Walk of readInner (printed by gen_ri.py). -/
import Derived.Test.YtkjpojaanocfjaaGreatDoorStReS
namespace Go.Proofs.YtkjpojaanocfjaaGreatDoor
open Go.RowKit
set_option linter.unusedVariables false
set_option linter.unusedSimpArgs false
/-- The line that comes next, out of the source's box. -/
def atOf (p : Nat) (w : World) : Nat := match w.cell? ⟨p, 1, none⟩ with
  | some (.int _ k) => k.toNat
  | _ => 0
theorem Src.atOf {p : Nat} {A : Option Addr} {n c : Nat} {L : List ByteArray} {t : ByteArray} {k : Nat} {w : World} (h : Src p A n c L t k w) : atOf p w = k := by
  have e : w.cell? ⟨p, 1, none⟩ = some (.int .i64 (k : Int)) := (block_cell h.box 1).trans rfl
  unfold Go.Proofs.YtkjpojaanocfjaaGreatDoor.atOf
  rw [e]
  simp
/-- What a reader answers. -/
def RdOut (B : Nat) (R : RdR) (e : Ending) (w' : World) : Prop := ∃ v l, e = .returned (.tuple #[v, .int .i64 (R.2 : Nat)]) ∧ Fts B w' v l ∧ l.map FaultT.flt = R.1.getD []
theorem fmF_frame (M F f : ByteArray) (l a : Int) (o : Bool) : frAgg M F f l a o = .agg (frmF (M, F, f, l, a, o)).cs.toArray := rfl
theorem frmF_fit {M F f : ByteArray} {l a : Int} {o : Bool} (h1 : M.size ≤ 1000000) (h2 : F.size ≤ 1000000) (h3 : f.size ≤ 1000000) : (frmF (M, F, f, l, a, o)).fit := Frame.fit_of h1 h2 h3
theorem lastF_map (l : List FaultT) : lastF (l.map FaultT.flt) = lastT l := by
  unfold lastF lastT
  rw [List.getLast?_map]
  cases l.getLast? <;> rfl
theorem lastT_le {l : List FaultT} {k : Nat} (h : ∀ x ∈ l, x.frs.length ≤ k) {o : List Frame} (ho : lastT l = some o) : o.length ≤ k := by
  unfold lastT at ho
  cases hx : l.getLast? with
  | none => rw [hx] at ho; cases ho
  | some x => rw [hx] at ho; simp at ho; subst ho; exact h x (List.mem_of_getLast? hx)
theorem shrN_le (last : Option (List Frame)) (fs : List Frame) (first line : Nat) (more : Int) (k : Nat) (h : ∀ o, last = some o → o.length ≤ k) : (shrN last fs first line more).2.length ≤ fs.length + k := by
  unfold shrN
  cases last with
  | none => split <;> simp
  | some o =>
    have := h o rfl
    simp only
    split
    · split
      · simp
      · split
        · simp
        · simp; omega
    · simp
theorem innTail_dots {L : List ByteArray} {t : ByteArray} {first : Nat} {K T : ByteArray} {k1 : Nat} {fs : List Frame} {out : List Flt} (h : begK L k1 preDots = true) (hd : dotK L k1 = true) : innTail L t first K T k1 fs out = innShr first (k1 + 1) K T fs (dotN L k1) out := by
  unfold innTail; rw [if_pos h, if_pos hd]
theorem innTail_bad {L : List ByteArray} {t : ByteArray} {first : Nat} {K T : ByteArray} {k1 : Nat} {fs : List Frame} {out : List Flt} (h : begK L k1 preDots = true) (hd : dotK L k1 = false) : innTail L t first K T k1 fs out = .inl (none, k1 + 1) := by
  unfold innTail; rw [if_pos h, if_neg (by rw [hd]; decide)]
theorem innTail_cut {L : List ByteArray} {t : ByteArray} {first : Nat} {K T : ByteArray} {k1 : Nat} {fs : List Frame} {out : List Flt} (h : begK L k1 preDots = false) (hd : (decide (k1 = L.length) && (hasP t preAt || hasP t preDots)) = true) : innTail L t first K T k1 fs out = .inl (none, k1 + 1) := by
  unfold innTail; rw [if_neg (by rw [h]; decide), if_pos hd]
theorem innTail_none {L : List ByteArray} {t : ByteArray} {first : Nat} {K T : ByteArray} {k1 : Nat} {fs : List Frame} {out : List Flt} (h : begK L k1 preDots = false) (hd : (decide (k1 = L.length) && (hasP t preAt || hasP t preDots)) = false) : innTail L t first K T k1 fs out = innShr first k1 K T fs (-1) out := by
  unfold innTail; rw [if_neg (by rw [h]; decide), if_neg (by rw [hd]; decide)]
section
variable {p F B : Nat} {A : Option Addr} {n c : Nat} {L : List ByteArray} {t : ByteArray} {k : Nat} {w w' W W' : World} {v : Value} {l : List FaultT}
theorem FIn.up {x : FaultT} (h : FIn B w x) (hb : Below w.heap.size w w') : FIn B w' x := by
  rcases h with h | ⟨g, o, cs, e, hg, hc⟩
  · exact .inl h
  · exact .inr ⟨g, o, cs, e, hg, block_below hc hb⟩
theorem Src.grown {r : Option Nat} (h : Src p A n c L t k w) (hg : w.grownBy w' r) (hr : ∀ j, r = some j → p < j) : Src p A n c L t k w' :=
  h.keep ((Below.refl _ _).grown hg (Nat.le_of_lt h.lt) (fun j hj => Nat.le_of_lt (hr j hj))) (hg.block p h.lt (fun e => by have := hr p e.symm; omega))
theorem ButAt.grown {r : Option Nat} (h : ButAt p w W) (hg : W.grownBy W' r) (hr : ∀ j, r = some j → w.heap.size ≤ j) (hp : p ≤ w.heap.size) : ButAt p w W' :=
  ⟨h.be.grown hg (Nat.le_trans hp h.be.size) (fun j hj => Nat.le_trans hp (hr j hj)), fun k o e ne => by
    have e1 := h.keep k o e ne
    have hk := lt_of_block e
    exact (hg.block k (lt_of_block e1) (fun e2 => by have := hr k e2.symm; omega)).trans e1⟩
theorem ButAt.keepB (h : ButAt p w W) (hk : KeepB p F W W') (hF : w.heap.size ≤ F) : ButAt p w W' :=
  ⟨h.be.trans hk.be, fun k o e ne => by
    have e1 := h.keep k o e ne
    have := lt_of_block e
    exact (hk.keep k (lt_of_block e1) (by omega) ne).trans e1⟩
theorem Fts.pass {A : Option Addr} {n c : Nat} (h : Fts B w (.slice A n c) l) (hk : KeepB p w.heap.size w w') (hp : p < B ∨ w.heap.size ≤ p) :
    Sl w' w.heap.size FaultT.cs 3 A l.length l ∧ ∀ x, l.getLast? = some x → Sl w' w.heap.size Frame.cs 6 x.A x.n x.frs ∧ x.ok w' := by
  obtain ⟨A', c', e, hsl, _⟩ := sl_of_own FaultT.cs_len rfl h.out
  simp at e
  obtain ⟨rfl, rfl, rfl⟩ := e
  have h' := h.keep hk (Nat.le_refl _) hp
  refine ⟨sl_keep hsl (fun g o e hg => hk.keep g hg hg (fun e2 => ?_)) (Nat.le_refl _), fun x hx => ?_⟩
  · have := (h.out.lt g (by rw [e]; rfl)).1
    omega
  · have hm := List.mem_of_getLast? hx
    refine ⟨?_, h'.ok x hm⟩
    rcases h.lies x hm with h0 | ⟨g', o', cs, e', hg', hc⟩
    · exact ⟨(h.ok x hm).sl.len, fun hn => by omega⟩
    · refine sl_keep (h.ok x hm).sl (fun g o e hg => ?_) (Nat.le_refl _)
      rw [e] at e'
      simp at e'
      obtain ⟨rfl, _⟩ := e'
      exact hk.keep g hg hg (by omega)
end
set_option maxRecDepth 100000 in
set_option maxHeartbeats 16000000 in
theorem readInner_any {p : Nat} {A : Option Addr} {n c : Nat} {L : List ByteArray} {t : ByteArray} {w : World} (h : Src p A n c L t 0 w) :
    Calls Tryz.prog 22 #[.pointer (some ⟨p, 0, none⟩)] w fun e w' => RdOut w.heap.size (innR L t (L.length + 1) 0 [] ⟨#[]⟩) e w' ∧ (∃ k, Src p A n c L t k w') ∧ ButAt p w w' := by
  have hn := h.nl
  have hlen := h.sl.len
  have hp := h.lt
  have H0 := hide h
  clear h
  obtain ⟨RR, hRR⟩ : ∃ RR, innR L t (L.length + 1) 0 [] ⟨#[]⟩ = RR := ⟨_, rfl⟩
  rw [hRR]
  have HRR := hide hRR
  have HLEN := hide hlen
  clear hRR hlen
  obtain ⟨i0, hi0, iz0, iz1, iz2⟩ := info_parts info_fault
  obtain ⟨j0, hj0, jz0, jz1, jz2⟩ := info_parts info_frame
  go_enter Tryz.func22, Tryz.ntmps22
  go_wp2_with (fail)
  go_loopw [4, 5] (fun v s5 wr => ∃ (l : List FaultT) (k : Nat) (pre : ByteArray), s5 = .string pre ∧ Src p A n c L t k wr ∧ Fts w.heap.size wr v l ∧ ButAt p w wr ∧ l.length ≤ k ∧ Hid (∀ x ∈ l, x.frs.length ≤ k) ∧ innR L t (L.length - k + 1) k (l.map FaultT.flt) pre = RR) (fun _ _ wr => n - atOf p wr)
  case atStart => exact ⟨[], 0, ⟨#[]⟩, rfl, H0.out, Fts.nil _ _, ButAt.refl _ _, Nat.le_refl _, hide (fun x hx => by simp at hx), HRR.out⟩
  case round =>
    obtain ⟨l, k, pre, rfl, hS, hF, hB, hlk, hll, hRk⟩ := hrel
    have HS := hide hS
    have HF := hide hF
    have HB := hide hB
    have HRK := hide hRk
    have hkn := hS.le
    have hpr := hS.lt
    obtain ⟨lA, lc, rfl⟩ := own_sl hF.out
    have HFL := hide (sfault_any pre hS)
    clear hS hF hB hRk
    cases hfl : fltS L k pre with
    | none =>
      have E := hide (show RR = (none, k + 1) by rw [← HRK.out]; exact inn_end (by unfold innStep; rw [hfl]))
      rw [hfl] at HFL
      clear hfl
      go_wp2_with (first | (go_at_call 37; refine HFL.out.mono ?_; rintro e w1 ⟨⟨X, Y, rfl, _⟩, hS1, hB1⟩; have HS1 := hide hS1; have HB1 := hide (HB.out.trans hB1); clear hS1 hB1; have x1 : w1.cell? ⟨p, 1, none⟩ = some (.int .i64 (k : Int)) := (block_cell HS1.out.box 1).trans rfl) | go_quiet (fail))
      refine bodyPost_ret (by simp [results, Tryz.results22, go_sem]; try rfl) rfl ?_
      have hbl : ∀ ob q, Below w1.heap.size w1 ((w1.alloc ob).drewN q) := fun ob q => below_drewN ((Below.refl _ _).alloc (Nat.le_refl _) ob) q
      exact ⟨⟨_, [], by rw [E.out] <;> rfl, Fts.nil _ _, by rw [E.out] <;> rfl⟩, ⟨_, HS1.out.below (hbl _ _)⟩, HB1.out.trans (ButAt.of_below (hbl _ _) (Nat.le_of_lt HS1.out.lt))⟩
    | some KT =>
      have HSTEP := hide (show ∀ X Y, KT = (X, Y) → innStep L t k (l.map FaultT.flt) pre = if (frsFrom L preAt (L.length - (k + 1)) (k + 1) []).1 then innTail L t (k + 2) X Y (frsFrom L preAt (L.length - (k + 1)) (k + 1) []).2.1 (frsFrom L preAt (L.length - (k + 1)) (k + 1) []).2.2 (l.map FaultT.flt)
        else .inl (none, (frsFrom L preAt (L.length - (k + 1)) (k + 1) []).2.1 + 1) from fun X Y e => by unfold innStep; rw [hfl, e])
      have hkL := fltS_lt hfl
      have hkn' : k < n := by have := HLEN.out; omega
      rw [hfl] at HFL
      clear hfl hkL
      obtain ⟨RF, hRF⟩ : ∃ RF, frsFrom L preAt (L.length - (k + 1)) (k + 1) [] = RF := ⟨_, rfl⟩
      rw [hRF] at HSTEP
      have HRF := hide hRF
      clear hRF
      go_wp2_with (first | (go_at_call 37; refine HFL.out.mono ?_; rintro e w1 ⟨⟨X, Y, rfl, hxy, zx, zy⟩, hS1, hB1⟩; have hkt : KT = (X, Y) := Option.some.inj (hxy.resolve_right (fun e => by cases e)); subst hkt; clear hxy; have HS1 : Hid (Src p A n c L t (k + 1) w1) := hide hS1; have HB1 := hide (HB.out.trans hB1); have HT1 := hide (HF.out.keep (KeepB.of_but hB1) (Nat.le_refl _) (.inl hp)); clear hS1 hB1; have x1 : w1.cell? ⟨p, 1, none⟩ = some (.int .i64 ((k : Int) + 1)) := (block_cell HS1.out.box 1).trans (by simp); have hp1 := HS1.out.lt; have hz1 := HB1.out.be.size) | fail)
      have HSTEP := hide (HSTEP.out X Y rfl)
      have HFB0 := hide (FBox.new w1 X Y)
      have hb0 := fun ob : Obj => (Below.refl w1.heap.size w1).alloc (Nat.le_refl _) ob
      have HB0 := hide hb0
      clear hb0
      go_loopw [] (fun wr2 => ∃ (k1 : Nat) (fs : List Frame) (v : Value), Src p A n c L t k1 wr2 ∧ FBox w1.heap.size X Y v fs wr2 ∧ KeepB p w1.heap.size w1 wr2 ∧ fs.length + (k + 1) ≤ k1 ∧ frsFrom L preAt (L.length - k1) k1 fs = RF) (fun wr2 => n - atOf p wr2)
      case atStart => exact ⟨k + 1, [], _, HS1.out.below (HB0.out _), HFB0.out, KeepB.of_below (HB0.out _) (Nat.le_refl _) (Nat.le_of_lt hp1), by simp, HRF.out⟩
      case round =>
        obtain ⟨k1, fs, v, hS2, hF2, hK2, hfs, hR2⟩ := hrel
        obtain ⟨A2, c2, rfl⟩ := own_sl hF2.row
        have HS2 := hide hS2
        have HF2 := hide hF2
        have HK2 := hide hK2
        have HR2 := hide hR2
        have hk1n := hS2.le
        have hp2 := hS2.lt
        have hz2 := hK2.be.size
        have HBG := hide (begins_any preAt hS2)
        clear hS2 hF2 hK2 hR2
        cases hbg : begK L k1 preAt
        · rw [hbg] at HBG
          have hRF2 : RF = (true, k1, fs) := HR2.out.symm.trans (frs_stop hbg)
          have HT := hide (show innStep L t k (l.map FaultT.flt) pre = innTail L t (k + 2) X Y k1 fs (l.map FaultT.flt) by rw [HSTEP.out, hRF2]; rfl)
          clear HSTEP HRF HR2 hRF2 hbg
          have HBG2 := hide (fun W (H : Src p A n c L t k1 W) => begins_any preDots H)
          cases hbd : begK L k1 preDots
          · simp only [hbd] at HBG2
            go_wp2_with (first | (go_at_call 38; refine HBG.out.mono ?_; rintro e w3 ⟨rfl, hw3⟩; clear HBG; have HS3 := hide (HS2.out.below hw3); have HF3 := hide (HF2.out.below hw3); have HK3 := hide (HK2.out.trans (KeepB.of_below hw3 hz2 (Nat.le_of_lt hp2))); have hz3 := hw3.size; clear hw3) | (go_at_call 38; refine (HBG2.out _ HS3.out).mono ?_; rintro e w4 ⟨rfl, hw4⟩; clear HBG2; have HS4 := hide (HS3.out.below hw4); have HF4 := hide (HF3.out.below hw4); have HK4 := hide (HK3.out.trans (KeepB.of_below hw4 (Nat.le_trans hz2 hz3) (Nat.le_trans (Nat.le_of_lt hp2) hz3))); have hz4 := hw4.size; clear hw4; have x0 : w4.cell? ⟨p, 0, none⟩ = some (.slice A n c) := (block_cell HS4.out.box 0).trans rfl; have x1 : w4.cell? ⟨p, 1, none⟩ = some (.int .i64 (k1 : Int)) := (block_cell HS4.out.box 1).trans (by simp); have x2 : w4.cell? ⟨p, 2, none⟩ = some (.string t) := (block_cell HS4.out.box 2).trans rfl))
            by_cases hke : k1 = n
            · have hkb : ((k1 : Int) == (n : Int)) = true := by rw [beq_iff_eq]; omega
              have hkd : decide (k1 = L.length) = true := by rw [HLEN.out]; exact decide_eq_true hke
              have HKE := hide hke
              clear hke
              have HPA := hide (fun W => Tryz.strings_HasPrefix t ⟨#[32, 32, 32, 32, 97, 116, 32]⟩ W)
              have HPD := hide (fun W => Tryz.strings_HasPrefix t ⟨#[32, 32, 32, 32, 46, 46, 46, 32]⟩ W)
              cases hpa : hasP t preAt
              · cases hpd : hasP t preDots
                · have HTL := hide (innTail_none (t := t) (first := k + 2) (K := X) (T := Y) (fs := fs) (out := l.map FaultT.flt) hbd (by rw [hkd, hpa, hpd]; rfl))
                  rw [show Lib.hasPrefix t.data.toList (⟨#[32, 32, 32, 32, 97, 116, 32]⟩ : ByteArray).data.toList = false from hpa] at HPA
                  rw [show Lib.hasPrefix t.data.toList (⟨#[32, 32, 32, 32, 46, 46, 46, 32]⟩ : ByteArray).data.toList = false from hpd] at HPD
                  clear hkd hpa hpd hbd
                  have hdr := fun q => below_drewN (Below.refl w4.heap.size w4) q
                  have hsW : w1.heap.size ≤ w4.heap.size := HK4.out.be.size
                  have hkq := fun q => HK4.out.trans (KeepB.of_below (hdr q) hsW (Nat.le_trans (Nat.le_of_lt hp1) hsW))
                  have hlb : ∀ o, lastT l = some o → o.length ≤ k := fun o ho => lastT_le hll.out ho
                  obtain ⟨SN, hSN⟩ : ∃ SN, shrN (lastT l) fs (k + 2) (k1) (-1) = SN := ⟨_, rfl⟩
                  have hSL : SN.2.length ≤ fs.length + k := by rw [← hSN]; exact shrN_le _ _ _ _ _ _ hlb
                  have hsh := fun cc q => shares_at (c := cc) (k + 2) (k1) ((k : Int) + 1 + 1) (k1 : Int) (-1) (by omega) (by omega) (by omega) (HT1.out.pass (hkq q) (.inl hp)).1 (fun x hx => by
                    obtain ⟨h1, h2⟩ := (HT1.out.pass (hkq q) (.inl hp)).2 x hx
                    have h3 := hll.out x (List.mem_of_getLast? hx)
                    have h4 := h2.sl.len
                    exact ⟨h1, by omega, h2.nc, h2.ff⟩) (HF4.out.below (hdr q)) (by omega) (by omega) (by omega)
                  rw [hSN] at hsh
                  have HSH := hide hsh
                  have HKQ := hide hkq
                  have HSQ := hide (fun q => HS4.out.below (hdr q))
                  have HTS := hide (show innStep L t k (l.map FaultT.flt) pre = if 0 < SN.1 then .inl (none, SN.1) else .inr (k1, l.map FaultT.flt ++ [⟨X, Y, SN.2⟩]) by rw [HT.out, HTL.out, innShr, lastF_map, hSN])
                  clear hdr hlb hSN hsh hkq
                  obtain ⟨sn, fs3⟩ := SN
                  simp only at HSH HTS hSL
                  by_cases hsn : 0 < sn
                  · have hsn' : (0 : Int) < (sn : Int) := by omega
                    have E := hide (show RR = (none, sn) by rw [← HRK.out]; exact inn_end (by rw [HTS.out, if_pos hsn]))
                    go_quiet ((first | (go_at_call 34; exact Calls.quiet_of_same (HPA.out _)) | (go_at_call 34; exact Calls.quiet_of_same (HPD.out _))))
                    go_wp2_with (first | (go_at_call 42; refine (HSH.out _ _).mono ?_; rintro e w7 ⟨rfl, ⟨v7, hf7⟩, hb7⟩; obtain ⟨A7, c7, rfl⟩ := own_sl hf7.row; have HF7 := hide hf7; have HK7 := hide ((HKQ.out _).trans (KeepB.of_below hb7 (Nat.le_refl _) (Nat.le_of_lt hp1))); have HS7 := hide ((HSQ.out _).keep (hb7.mono (Nat.le_of_lt hp1)) (hb7.block p hp1)); have hz7 := HK7.out.be.size; clear hb7 hf7 HSH; have x1 : w7.cell? ⟨p, 1, none⟩ = some (.int .i64 (k1 : Int)) := (block_cell HS7.out.box 1).trans (by simp)) | fail)
                    refine bodyPost_ret (by simp [results, Tryz.results22, go_sem]; try rfl) rfl ?_
                    have hbl : ∀ q, Below w7.heap.size w7 (w7.drewN q) := fun q => below_drewN (Below.refl _ _) q
                    first
                      | exact ⟨⟨_, [], by rw [E.out] <;> rfl, Fts.nil _ _, by rw [E.out] <;> rfl⟩, ⟨_, HS7.out.below (hbl _)⟩, (HB1.out.keepB HK7.out hz1).trans (ButAt.of_below (hbl _) (Nat.le_of_lt HS7.out.lt))⟩
                      | exact ⟨⟨_, [], by rw [E.out] <;> rfl, Fts.nil _ _, by rw [E.out] <;> rfl⟩, ⟨_, HS7.out⟩, HB1.out.keepB HK7.out hz1⟩
                  · have hsn' : ¬ (0 : Int) < (sn : Int) := by omega
                    have HTS := hide (HTS.out.trans (if_neg hsn))
                    by_cases hend : k1 = n
                    · have hend' : ((k1 : Int) == (n : Int)) = true := by rw [beq_iff_eq]; omega
                      have E := hide (show RR = (some (l.map FaultT.flt ++ [⟨X, Y, fs3⟩]), 0) by rw [← HRK.out]; exact inn_last (by rw [HTS.out, hend, HLEN.out]))
                      have HEND := hide hend
                      clear hend
                      go_quiet ((first | (go_at_call 34; exact Calls.quiet_of_same (HPA.out _)) | (go_at_call 34; exact Calls.quiet_of_same (HPD.out _))))
                      go_wp2_with (first | (go_at_call 42; refine (HSH.out _ _).mono ?_; rintro e w7 ⟨rfl, ⟨v7, hf7⟩, hb7⟩; obtain ⟨A7, c7, rfl⟩ := own_sl hf7.row; have HF7 := hide hf7; have HK7 := hide ((HKQ.out _).trans (KeepB.of_below hb7 (Nat.le_refl _) (Nat.le_of_lt hp1))); have HS7 := hide ((HSQ.out _).keep (hb7.mono (Nat.le_of_lt hp1)) (hb7.block p hp1)); have hz7 := HK7.out.be.size; clear hb7 hf7 HSH; have HT7 := hide (HT1.out.keep HK7.out (Nat.le_refl _) (.inl hp)); have hx7 := HF7.out.flt (B := w.heap.size) zx zy (by omega) (by omega); have HX7 : Hid ((FaultT.mk X Y A7 fs3.length c7 fs3).ok w7 ∧ FIn w.heap.size w7 (FaultT.mk X Y A7 fs3.length c7 fs3)) := hide (by obtain ⟨a9, c9, e9, h9⟩ := hx7; simp at e9; obtain ⟨rfl, rfl⟩ := e9; exact h9); clear hx7; have z0 : w7.cell? ⟨w1.heap.size, 0, none⟩ = some (.string X) := (block_cell HF7.out.box 0).trans rfl; have z1 : w7.cell? ⟨w1.heap.size, 1, none⟩ = some (.string Y) := (block_cell HF7.out.box 1).trans rfl; have z2 : w7.cell? ⟨w1.heap.size, 2, none⟩ = some (.slice A7 fs3.length c7) := (block_cell HF7.out.box 2).trans rfl; have hal := fun ob : Obj => (Below.refl w7.heap.size w7).alloc (Nat.le_refl _) ob) | (at_builtin; refine wpList_append_own _ rfl (.tmp 129) (.tmp 131) 22 rfl w.heap.size 40 i0 (.agg #[.string ByteArray.empty, .string ByteArray.empty, .slice none 0 0]) 3 56 Tryz.underlying22 hi0 iz0 iz1 iz2 rfl (by decide) (.slice lA l.length lc) l.length (l.flatMap FaultT.cs) rfl (HT7.out.out.alloc _) ⟨w7.heap.size, 0, none⟩ 1 1 [.string X, .string Y, .slice A7 fs3.length c7] rfl rfl (cells_at _ [.string X, .string Y, .slice A7 fs3.length c7] _ _ rfl) (by intro u hu; simp at hu; rcases hu with rfl | rfl | rfl <;> rfl) (by unfold maxLen; omega) (by omega) (by simp; omega) ?_; intro v8 w8 hown8 hg8 _; obtain ⟨A8, c8, rfl⟩ := own_sl hown8; have hlo8 := HT7.out.out.lt; have HT8 := hide ((HT7.out.below (hal _)).push (x := ⟨X, Y, A7, fs3.length, c7, fs3⟩) hg8 hown8 (HX7.out.1.up (hal _)) (HX7.out.2.up (hal _))); have HS8 := hide ((HS7.out.below (hal _)).grown hg8 (fun j hj => by have := (hlo8 j hj).1; omega)); have HB8 := hide (((HB1.out.keepB HK7.out hz1).trans (ButAt.of_below (hal _) (Nat.le_of_lt HS7.out.lt))).grown hg8 (fun j hj => (hlo8 j hj).1) (Nat.le_of_lt hp)); clear hown8 hg8 hlo8; have y0 : w8.cell? ⟨p, 0, none⟩ = some (.slice A n c) := (block_cell HS8.out.box 0).trans rfl; have y1 : w8.cell? ⟨p, 1, none⟩ = some (.int .i64 (k1 : Int)) := (block_cell HS8.out.box 1).trans (by simp); have y2 : w8.cell? ⟨p, 2, none⟩ = some (.string t) := (block_cell HS8.out.box 2).trans rfl) | go_quiet (fail))
                      refine bodyPost_ret (by simp [results, Tryz.results22, go_sem]; try rfl) rfl ?_
                      have hbl : ∀ q, Below w8.heap.size w8 (w8.drewN q) := fun q => below_drewN (Below.refl _ _) q
                      exact ⟨⟨_, l ++ [⟨X, Y, A7, fs3.length, c7, fs3⟩], by rw [E.out] <;> rfl, HT8.out.below (hbl _), by rw [E.out, List.map_append] <;> rfl⟩, ⟨_, HS8.out.below (hbl _)⟩, HB8.out.trans (ButAt.of_below (hbl _) (Nat.le_of_lt HS8.out.lt))⟩
                    · exact absurd hend (by have := HKE.out; omega)
                · skip
                  have HTL := hide (innTail_cut (t := t) (first := k + 2) (K := X) (T := Y) (fs := fs) (out := l.map FaultT.flt) hbd (by rw [hkd, hpa, hpd]; rfl))
                  have E := hide (show RR = (none, k1 + 1) by rw [← HRK.out]; exact inn_end (by rw [HT.out, HTL.out]))
                  rw [show Lib.hasPrefix t.data.toList (⟨#[32, 32, 32, 32, 97, 116, 32]⟩ : ByteArray).data.toList = false from hpa] at HPA
                  rw [show Lib.hasPrefix t.data.toList (⟨#[32, 32, 32, 32, 46, 46, 46, 32]⟩ : ByteArray).data.toList = true from hpd] at HPD
                  clear hpd
                  clear hkd hpa hbd HTL
                  go_quiet ((first | (go_at_call 34; exact Calls.quiet_of_same (HPA.out _)) | (go_at_call 34; exact Calls.quiet_of_same (HPD.out _))))
                  go_wp2_with (go_quiet (fail))
                  try simp only [World.drewN_drewN]
                  refine bodyPost_ret (by simp [results, Tryz.results22, go_sem]; try rfl) rfl ?_
                  have hbl : ∀ q, Below w4.heap.size w4 (w4.drewN q) := fun q => below_drewN (Below.refl _ _) q
                  first
                    | exact ⟨⟨_, [], by rw [E.out] <;> rfl, Fts.nil _ _, by rw [E.out] <;> rfl⟩, ⟨_, HS4.out.below (hbl _)⟩, (HB1.out.keepB HK4.out hz1).trans (ButAt.of_below (hbl _) (Nat.le_of_lt HS4.out.lt))⟩
                    | exact ⟨⟨_, [], by rw [E.out] <;> rfl, Fts.nil _ _, by rw [E.out] <;> rfl⟩, ⟨_, HS4.out⟩, HB1.out.keepB HK4.out hz1⟩
              · skip
                have HTL := hide (innTail_cut (t := t) (first := k + 2) (K := X) (T := Y) (fs := fs) (out := l.map FaultT.flt) hbd (by rw [hkd, hpa]; rfl))
                have E := hide (show RR = (none, k1 + 1) by rw [← HRK.out]; exact inn_end (by rw [HT.out, HTL.out]))
                rw [show Lib.hasPrefix t.data.toList (⟨#[32, 32, 32, 32, 97, 116, 32]⟩ : ByteArray).data.toList = true from hpa] at HPA
                clear hkd hpa hbd HTL
                go_quiet ((first | (go_at_call 34; exact Calls.quiet_of_same (HPA.out _)) | (go_at_call 34; exact Calls.quiet_of_same (HPD.out _))))
                go_wp2_with (go_quiet (fail))
                try simp only [World.drewN_drewN]
                refine bodyPost_ret (by simp [results, Tryz.results22, go_sem]; try rfl) rfl ?_
                have hbl : ∀ q, Below w4.heap.size w4 (w4.drewN q) := fun q => below_drewN (Below.refl _ _) q
                first
                  | exact ⟨⟨_, [], by rw [E.out] <;> rfl, Fts.nil _ _, by rw [E.out] <;> rfl⟩, ⟨_, HS4.out.below (hbl _)⟩, (HB1.out.keepB HK4.out hz1).trans (ButAt.of_below (hbl _) (Nat.le_of_lt HS4.out.lt))⟩
                  | exact ⟨⟨_, [], by rw [E.out] <;> rfl, Fts.nil _ _, by rw [E.out] <;> rfl⟩, ⟨_, HS4.out⟩, HB1.out.keepB HK4.out hz1⟩
            · have hkb : ((k1 : Int) == (n : Int)) = false := by rw [beq_eq_false_iff_ne]; omega
              have HTL := hide (innTail_none (t := t) (first := k + 2) (K := X) (T := Y) (fs := fs) (out := l.map FaultT.flt) hbd (by rw [HLEN.out, decide_eq_false hke]; rfl))
              have HKE := hide hke
              clear hbd hke
              have hdr := fun q => below_drewN (Below.refl w4.heap.size w4) q
              have hsW : w1.heap.size ≤ w4.heap.size := HK4.out.be.size
              have hkq := fun q => HK4.out.trans (KeepB.of_below (hdr q) hsW (Nat.le_trans (Nat.le_of_lt hp1) hsW))
              have hlb : ∀ o, lastT l = some o → o.length ≤ k := fun o ho => lastT_le hll.out ho
              obtain ⟨SN, hSN⟩ : ∃ SN, shrN (lastT l) fs (k + 2) (k1) (-1) = SN := ⟨_, rfl⟩
              have hSL : SN.2.length ≤ fs.length + k := by rw [← hSN]; exact shrN_le _ _ _ _ _ _ hlb
              have hsh := fun cc q => shares_at (c := cc) (k + 2) (k1) ((k : Int) + 1 + 1) (k1 : Int) (-1) (by omega) (by omega) (by omega) (HT1.out.pass (hkq q) (.inl hp)).1 (fun x hx => by
                obtain ⟨h1, h2⟩ := (HT1.out.pass (hkq q) (.inl hp)).2 x hx
                have h3 := hll.out x (List.mem_of_getLast? hx)
                have h4 := h2.sl.len
                exact ⟨h1, by omega, h2.nc, h2.ff⟩) (HF4.out.below (hdr q)) (by omega) (by omega) (by omega)
              rw [hSN] at hsh
              have HSH := hide hsh
              have HKQ := hide hkq
              have HSQ := hide (fun q => HS4.out.below (hdr q))
              have HTS := hide (show innStep L t k (l.map FaultT.flt) pre = if 0 < SN.1 then .inl (none, SN.1) else .inr (k1, l.map FaultT.flt ++ [⟨X, Y, SN.2⟩]) by rw [HT.out, HTL.out, innShr, lastF_map, hSN])
              clear hdr hlb hSN hsh hkq
              obtain ⟨sn, fs3⟩ := SN
              simp only at HSH HTS hSL
              by_cases hsn : 0 < sn
              · have hsn' : (0 : Int) < (sn : Int) := by omega
                have E := hide (show RR = (none, sn) by rw [← HRK.out]; exact inn_end (by rw [HTS.out, if_pos hsn]))
                go_quiet (fail)
                go_wp2_with (first | (go_at_call 42; refine (HSH.out _ _).mono ?_; rintro e w7 ⟨rfl, ⟨v7, hf7⟩, hb7⟩; obtain ⟨A7, c7, rfl⟩ := own_sl hf7.row; have HF7 := hide hf7; have HK7 := hide ((HKQ.out _).trans (KeepB.of_below hb7 (Nat.le_refl _) (Nat.le_of_lt hp1))); have HS7 := hide ((HSQ.out _).keep (hb7.mono (Nat.le_of_lt hp1)) (hb7.block p hp1)); have hz7 := HK7.out.be.size; clear hb7 hf7 HSH; have x1 : w7.cell? ⟨p, 1, none⟩ = some (.int .i64 (k1 : Int)) := (block_cell HS7.out.box 1).trans (by simp)) | fail)
                refine bodyPost_ret (by simp [results, Tryz.results22, go_sem]; try rfl) rfl ?_
                have hbl : ∀ q, Below w7.heap.size w7 (w7.drewN q) := fun q => below_drewN (Below.refl _ _) q
                first
                  | exact ⟨⟨_, [], by rw [E.out] <;> rfl, Fts.nil _ _, by rw [E.out] <;> rfl⟩, ⟨_, HS7.out.below (hbl _)⟩, (HB1.out.keepB HK7.out hz1).trans (ButAt.of_below (hbl _) (Nat.le_of_lt HS7.out.lt))⟩
                  | exact ⟨⟨_, [], by rw [E.out] <;> rfl, Fts.nil _ _, by rw [E.out] <;> rfl⟩, ⟨_, HS7.out⟩, HB1.out.keepB HK7.out hz1⟩
              · have hsn' : ¬ (0 : Int) < (sn : Int) := by omega
                have HTS := hide (HTS.out.trans (if_neg hsn))
                by_cases hend : k1 = n
                · exact absurd hend (by have := HKE.out; omega)
                · have hend' : ((k1 : Int) == (n : Int)) = false := by rw [beq_eq_false_iff_ne]; omega
                  have E := hide (show innR L t (L.length - (k1) + 1) (k1) (l.map FaultT.flt ++ [⟨X, Y, fs3⟩]) preCaused = RR by rw [← HRK.out]; exact (inn_step HTS.out (by rw [HLEN.out]; exact hend)).symm)
                  have HEND := hide hend
                  clear hend
                  go_quiet (fail)
                  go_wp2_with (first | (go_at_call 42; refine (HSH.out _ _).mono ?_; rintro e w7 ⟨rfl, ⟨v7, hf7⟩, hb7⟩; obtain ⟨A7, c7, rfl⟩ := own_sl hf7.row; have HF7 := hide hf7; have HK7 := hide ((HKQ.out _).trans (KeepB.of_below hb7 (Nat.le_refl _) (Nat.le_of_lt hp1))); have HS7 := hide ((HSQ.out _).keep (hb7.mono (Nat.le_of_lt hp1)) (hb7.block p hp1)); have hz7 := HK7.out.be.size; clear hb7 hf7 HSH; have HT7 := hide (HT1.out.keep HK7.out (Nat.le_refl _) (.inl hp)); have hx7 := HF7.out.flt (B := w.heap.size) zx zy (by omega) (by omega); have HX7 : Hid ((FaultT.mk X Y A7 fs3.length c7 fs3).ok w7 ∧ FIn w.heap.size w7 (FaultT.mk X Y A7 fs3.length c7 fs3)) := hide (by obtain ⟨a9, c9, e9, h9⟩ := hx7; simp at e9; obtain ⟨rfl, rfl⟩ := e9; exact h9); clear hx7; have z0 : w7.cell? ⟨w1.heap.size, 0, none⟩ = some (.string X) := (block_cell HF7.out.box 0).trans rfl; have z1 : w7.cell? ⟨w1.heap.size, 1, none⟩ = some (.string Y) := (block_cell HF7.out.box 1).trans rfl; have z2 : w7.cell? ⟨w1.heap.size, 2, none⟩ = some (.slice A7 fs3.length c7) := (block_cell HF7.out.box 2).trans rfl; have hal := fun ob : Obj => (Below.refl w7.heap.size w7).alloc (Nat.le_refl _) ob) | (at_builtin; refine wpList_append_own _ rfl (.tmp 129) (.tmp 131) 22 rfl w.heap.size 40 i0 (.agg #[.string ByteArray.empty, .string ByteArray.empty, .slice none 0 0]) 3 56 Tryz.underlying22 hi0 iz0 iz1 iz2 rfl (by decide) (.slice lA l.length lc) l.length (l.flatMap FaultT.cs) rfl (HT7.out.out.alloc _) ⟨w7.heap.size, 0, none⟩ 1 1 [.string X, .string Y, .slice A7 fs3.length c7] rfl rfl (cells_at _ [.string X, .string Y, .slice A7 fs3.length c7] _ _ rfl) (by intro u hu; simp at hu; rcases hu with rfl | rfl | rfl <;> rfl) (by unfold maxLen; omega) (by omega) (by simp; omega) ?_; intro v8 w8 hown8 hg8 _; obtain ⟨A8, c8, rfl⟩ := own_sl hown8; have hlo8 := HT7.out.out.lt; have HT8 := hide ((HT7.out.below (hal _)).push (x := ⟨X, Y, A7, fs3.length, c7, fs3⟩) hg8 hown8 (HX7.out.1.up (hal _)) (HX7.out.2.up (hal _))); have HS8 := hide ((HS7.out.below (hal _)).grown hg8 (fun j hj => by have := (hlo8 j hj).1; omega)); have HB8 := hide (((HB1.out.keepB HK7.out hz1).trans (ButAt.of_below (hal _) (Nat.le_of_lt HS7.out.lt))).grown hg8 (fun j hj => (hlo8 j hj).1) (Nat.le_of_lt hp)); clear hown8 hg8 hlo8; have y0 : w8.cell? ⟨p, 0, none⟩ = some (.slice A n c) := (block_cell HS8.out.box 0).trans rfl; have y1 : w8.cell? ⟨p, 1, none⟩ = some (.int .i64 (k1 : Int)) := (block_cell HS8.out.box 1).trans (by simp); have y2 : w8.cell? ⟨p, 2, none⟩ = some (.string t) := (block_cell HS8.out.box 2).trans rfl) | go_quiet (fail))
                  go_roundw
                  case rel =>
                    have hbl : ∀ q, Below w8.heap.size w8 (w8.drewN q) := fun q => below_drewN (Below.refl _ _) q
                    have hall : ∀ x ∈ l ++ [(⟨X, Y, A7, fs3.length, c7, fs3⟩ : FaultT)], x.frs.length ≤ k1 := fun x hx => by
                      rcases List.mem_append.1 hx with hx | hx
                      · have := hll.out x hx; omega
                      · simp at hx; subst hx; show fs3.length ≤ _; omega
                    exact ⟨l ++ [⟨X, Y, A7, fs3.length, c7, fs3⟩], k1, _, rfl, HS8.out.below (hbl _), HT8.out.below (hbl _), HB8.out.trans (ButAt.of_below (hbl _) (Nat.le_of_lt HS8.out.lt)), by rw [List.length_append]; simp; omega, hide hall, by rw [List.map_append]; exact E.out⟩
                  case measure =>
                    have hbl : ∀ q, Below w8.heap.size w8 (w8.drewN q) := fun q => below_drewN (Below.refl _ _) q
                    rw [(HS8.out.below (hbl _)).atOf, HS.out.atOf]
                    omega
          · simp only [hbd] at HBG2
            have hk1L : k1 + 1 ≤ n := by have := begK_lt hbd; have := HLEN.out; omega
            have hnx := fun W (H : Src p A n c L t k1 W) => next_any preDots H
            simp only [NxOut, nextK, hbd, if_true] at hnx
            have hzd := lineR_size HS2.out preDots
            have hdk : dotK L k1 = (Lib.hasSuffix (lineR L k1 preDots).data.toList sfxMore.data.toList && numK 10 3 (dotS L k1)) := rfl
            have hdn : dotN L k1 = numO 10 3 (dotS L k1) := rfl
            have hcs := fun W => Tryz.strings_CutSuffix (lineR L k1 preDots) ⟨#[32, 109, 111, 114, 101]⟩ W (by omega)
            have hzs : (dotS L k1).size ≤ 1000000 := by
              have h1 := trimS_le (lineR L k1 preDots).data.toList sfxMore.data.toList
              have h2 := len_size' (lineR L k1 preDots)
              have h3 : (dotS L k1).size = (Lib.trimSuffix (lineR L k1 preDots).data.toList sfxMore.data.toList).length := rfl
              omega
            have hnm := fun W => number_10 (dotS L k1) 3 W (by decide) (by omega)
            have hcs : ∀ W, Calls Tryz.prog 31 #[.string (lineR L k1 preDots), .string ⟨#[32, 109, 111, 114, 101]⟩] W fun e w' => e = .returned (.tuple #[.string (dotS L k1), .bool (Lib.hasSuffix (lineR L k1 preDots).data.toList sfxMore.data.toList)]) ∧ w' = W := hcs
            have hpos := numO_pos 10 3 (dotS L k1)
            obtain ⟨D, hD⟩ : ∃ D, lineR L k1 preDots = D := ⟨_, rfl⟩
            obtain ⟨DS, hDS⟩ : ∃ DS, dotS L k1 = DS := ⟨_, rfl⟩
            obtain ⟨I1, hI1⟩ : ∃ I1, Lib.hasSuffix D.data.toList sfxMore.data.toList = I1 := ⟨_, rfl⟩
            obtain ⟨I2, hI2⟩ : ∃ I2, numK 10 3 DS = I2 := ⟨_, rfl⟩
            obtain ⟨MN, hMN⟩ : ∃ MN, numO 10 3 DS = MN := ⟨_, rfl⟩
            simp only [hD, hDS, hI1, hI2, hMN] at hnx hdk hdn hcs hnm hzd hzs hpos
            have HNX := hide hnx
            have HCS := hide hcs
            have HNM := hide hnm
            clear hnx hcs hnm hD hDS hI1 hI2 hMN
            cases I1
            · skip
              have E := hide (show RR = (none, k1 + 1) by rw [← HRK.out]; exact inn_end (by rw [HT.out, innTail_bad hbd (by rw [hdk]; rfl)]))
              clear hdk hdn hbd
              go_wp2_with (first | (go_at_call 38; refine HBG.out.mono ?_; rintro e w3 ⟨rfl, hw3⟩; clear HBG; have HS3 := hide (HS2.out.below hw3); have HF3 := hide (HF2.out.below hw3); have HK3 := hide (HK2.out.trans (KeepB.of_below hw3 hz2 (Nat.le_of_lt hp2))); have hz3 := hw3.size; clear hw3) | (go_at_call 38; refine (HBG2.out _ HS3.out).mono ?_; rintro e w4 ⟨rfl, hw4⟩; clear HBG2; have HS4 := hide (HS3.out.below hw4); have HF4 := hide (HF3.out.below hw4); have HK4 := hide (HK3.out.trans (KeepB.of_below hw4 (Nat.le_trans hz2 hz3) (Nat.le_trans (Nat.le_of_lt hp2) hz3))); have hz4 := hw4.size; clear hw4) | (go_at_call 40; refine (HNX.out _ HS4.out).mono ?_; rintro e w5 ⟨rfl, hS5, hB5⟩; clear HNX; have HF5 := hide (HF4.out.but hB5 hp1); have HK5 := hide (HK4.out.trans (KeepB.of_but hB5)); have HS5 := hide hS5; have hz5 := hB5.be.size; clear hS5 hB5) | (go_at_call 31; refine (HCS.out _).mono ?_; rintro e wz ⟨rfl, rfl⟩; clear HCS) | (go_at_call 41; refine (HNM.out _).mono ?_; rintro e w6 ⟨rfl, hw6⟩; clear HNM; have HS6 := hide (HS5.out.below hw6); have HF6 := hide (HF5.out.below hw6); have HK6 := hide (HK5.out.trans (KeepB.of_below hw6 HK5.out.be.size (Nat.le_of_lt HS5.out.lt))); have hz6 := hw6.size; clear hw6; have x0 : w6.cell? ⟨p, 0, none⟩ = some (.slice A n c) := (block_cell HS6.out.box 0).trans rfl; have x1 : w6.cell? ⟨p, 1, none⟩ = some (.int .i64 ((k1 : Int) + 1)) := (block_cell HS6.out.box 1).trans (by simp); have x2 : w6.cell? ⟨p, 2, none⟩ = some (.string t) := (block_cell HS6.out.box 2).trans rfl) | go_quiet (fail))
              refine bodyPost_ret (by simp [results, Tryz.results22, go_sem]; try rfl) rfl ?_
              have hbl : ∀ q, Below w6.heap.size w6 (w6.drewN q) := fun q => below_drewN (Below.refl _ _) q
              first
                | exact ⟨⟨_, [], by rw [E.out] <;> rfl, Fts.nil _ _, by rw [E.out] <;> rfl⟩, ⟨_, HS6.out.below (hbl _)⟩, (HB1.out.keepB HK6.out hz1).trans (ButAt.of_below (hbl _) (Nat.le_of_lt HS6.out.lt))⟩
                | exact ⟨⟨_, [], by rw [E.out] <;> rfl, Fts.nil _ _, by rw [E.out] <;> rfl⟩, ⟨_, HS6.out⟩, HB1.out.keepB HK6.out hz1⟩
            · cases I2
              · skip
                have E := hide (show RR = (none, k1 + 1) by rw [← HRK.out]; exact inn_end (by rw [HT.out, innTail_bad hbd (by rw [hdk]; rfl)]))
                clear hdk hdn hbd
                go_wp2_with (first | (go_at_call 38; refine HBG.out.mono ?_; rintro e w3 ⟨rfl, hw3⟩; clear HBG; have HS3 := hide (HS2.out.below hw3); have HF3 := hide (HF2.out.below hw3); have HK3 := hide (HK2.out.trans (KeepB.of_below hw3 hz2 (Nat.le_of_lt hp2))); have hz3 := hw3.size; clear hw3) | (go_at_call 38; refine (HBG2.out _ HS3.out).mono ?_; rintro e w4 ⟨rfl, hw4⟩; clear HBG2; have HS4 := hide (HS3.out.below hw4); have HF4 := hide (HF3.out.below hw4); have HK4 := hide (HK3.out.trans (KeepB.of_below hw4 (Nat.le_trans hz2 hz3) (Nat.le_trans (Nat.le_of_lt hp2) hz3))); have hz4 := hw4.size; clear hw4) | (go_at_call 40; refine (HNX.out _ HS4.out).mono ?_; rintro e w5 ⟨rfl, hS5, hB5⟩; clear HNX; have HF5 := hide (HF4.out.but hB5 hp1); have HK5 := hide (HK4.out.trans (KeepB.of_but hB5)); have HS5 := hide hS5; have hz5 := hB5.be.size; clear hS5 hB5) | (go_at_call 31; refine (HCS.out _).mono ?_; rintro e wz ⟨rfl, rfl⟩; clear HCS) | (go_at_call 41; refine (HNM.out _).mono ?_; rintro e w6 ⟨rfl, hw6⟩; clear HNM; have HS6 := hide (HS5.out.below hw6); have HF6 := hide (HF5.out.below hw6); have HK6 := hide (HK5.out.trans (KeepB.of_below hw6 HK5.out.be.size (Nat.le_of_lt HS5.out.lt))); have hz6 := hw6.size; clear hw6; have x0 : w6.cell? ⟨p, 0, none⟩ = some (.slice A n c) := (block_cell HS6.out.box 0).trans rfl; have x1 : w6.cell? ⟨p, 1, none⟩ = some (.int .i64 ((k1 : Int) + 1)) := (block_cell HS6.out.box 1).trans (by simp); have x2 : w6.cell? ⟨p, 2, none⟩ = some (.string t) := (block_cell HS6.out.box 2).trans rfl) | go_quiet (fail))
                refine bodyPost_ret (by simp [results, Tryz.results22, go_sem]; try rfl) rfl ?_
                have hbl : ∀ q, Below w6.heap.size w6 (w6.drewN q) := fun q => below_drewN (Below.refl _ _) q
                first
                  | exact ⟨⟨_, [], by rw [E.out] <;> rfl, Fts.nil _ _, by rw [E.out] <;> rfl⟩, ⟨_, HS6.out.below (hbl _)⟩, (HB1.out.keepB HK6.out hz1).trans (ButAt.of_below (hbl _) (Nat.le_of_lt HS6.out.lt))⟩
                  | exact ⟨⟨_, [], by rw [E.out] <;> rfl, Fts.nil _ _, by rw [E.out] <;> rfl⟩, ⟨_, HS6.out⟩, HB1.out.keepB HK6.out hz1⟩
              · have HTL := hide ((innTail_dots (t := t) (first := k + 2) (K := X) (T := Y) (fs := fs) (out := l.map FaultT.flt) hbd (by rw [hdk]; rfl)).trans (by rw [hdn] : _ = innShr (k + 2) (k1 + 1) X Y fs MN (l.map FaultT.flt)))
                have hmn : decide (MN < 0) = false := decide_eq_false (by omega)
                clear hdk hdn hbd
                go_wp2_with (first | (go_at_call 38; refine HBG.out.mono ?_; rintro e w3 ⟨rfl, hw3⟩; clear HBG; have HS3 := hide (HS2.out.below hw3); have HF3 := hide (HF2.out.below hw3); have HK3 := hide (HK2.out.trans (KeepB.of_below hw3 hz2 (Nat.le_of_lt hp2))); have hz3 := hw3.size; clear hw3) | (go_at_call 38; refine (HBG2.out _ HS3.out).mono ?_; rintro e w4 ⟨rfl, hw4⟩; clear HBG2; have HS4 := hide (HS3.out.below hw4); have HF4 := hide (HF3.out.below hw4); have HK4 := hide (HK3.out.trans (KeepB.of_below hw4 (Nat.le_trans hz2 hz3) (Nat.le_trans (Nat.le_of_lt hp2) hz3))); have hz4 := hw4.size; clear hw4) | (go_at_call 40; refine (HNX.out _ HS4.out).mono ?_; rintro e w5 ⟨rfl, hS5, hB5⟩; clear HNX; have HF5 := hide (HF4.out.but hB5 hp1); have HK5 := hide (HK4.out.trans (KeepB.of_but hB5)); have HS5 := hide hS5; have hz5 := hB5.be.size; clear hS5 hB5) | (go_at_call 31; refine (HCS.out _).mono ?_; rintro e wz ⟨rfl, rfl⟩; clear HCS) | (go_at_call 41; refine (HNM.out _).mono ?_; rintro e w6 ⟨rfl, hw6⟩; clear HNM; have HS6 := hide (HS5.out.below hw6); have HF6 := hide (HF5.out.below hw6); have HK6 := hide (HK5.out.trans (KeepB.of_below hw6 HK5.out.be.size (Nat.le_of_lt HS5.out.lt))); have hz6 := hw6.size; clear hw6; have x0 : w6.cell? ⟨p, 0, none⟩ = some (.slice A n c) := (block_cell HS6.out.box 0).trans rfl; have x1 : w6.cell? ⟨p, 1, none⟩ = some (.int .i64 ((k1 : Int) + 1)) := (block_cell HS6.out.box 1).trans (by simp); have x2 : w6.cell? ⟨p, 2, none⟩ = some (.string t) := (block_cell HS6.out.box 2).trans rfl) | fail)
                have hdr := fun q => below_drewN (Below.refl w6.heap.size w6) q
                have hsW : w1.heap.size ≤ w6.heap.size := HK6.out.be.size
                have hkq := fun q => HK6.out.trans (KeepB.of_below (hdr q) hsW (Nat.le_trans (Nat.le_of_lt hp1) hsW))
                have hlb : ∀ o, lastT l = some o → o.length ≤ k := fun o ho => lastT_le hll.out ho
                obtain ⟨SN, hSN⟩ : ∃ SN, shrN (lastT l) fs (k + 2) (k1 + 1) MN = SN := ⟨_, rfl⟩
                have hSL : SN.2.length ≤ fs.length + k := by rw [← hSN]; exact shrN_le _ _ _ _ _ _ hlb
                have hsh := fun cc q => shares_at (c := cc) (k + 2) (k1 + 1) ((k : Int) + 1 + 1) ((k1 : Int) + 1) MN (by omega) (by omega) (by omega) (HT1.out.pass (hkq q) (.inl hp)).1 (fun x hx => by
                  obtain ⟨h1, h2⟩ := (HT1.out.pass (hkq q) (.inl hp)).2 x hx
                  have h3 := hll.out x (List.mem_of_getLast? hx)
                  have h4 := h2.sl.len
                  exact ⟨h1, by omega, h2.nc, h2.ff⟩) (HF6.out.below (hdr q)) (by omega) (by omega) (by omega)
                rw [hSN] at hsh
                have HSH := hide hsh
                have HKQ := hide hkq
                have HSQ := hide (fun q => HS6.out.below (hdr q))
                have HTS := hide (show innStep L t k (l.map FaultT.flt) pre = if 0 < SN.1 then .inl (none, SN.1) else .inr (k1 + 1, l.map FaultT.flt ++ [⟨X, Y, SN.2⟩]) by rw [HT.out, HTL.out, innShr, lastF_map, hSN])
                clear hdr hlb hSN hsh hkq
                obtain ⟨sn, fs3⟩ := SN
                simp only at HSH HTS hSL
                by_cases hsn : 0 < sn
                · have hsn' : (0 : Int) < (sn : Int) := by omega
                  have E := hide (show RR = (none, sn) by rw [← HRK.out]; exact inn_end (by rw [HTS.out, if_pos hsn]))
                  go_quiet (fail)
                  go_wp2_with (first | (go_at_call 42; refine (HSH.out _ _).mono ?_; rintro e w7 ⟨rfl, ⟨v7, hf7⟩, hb7⟩; obtain ⟨A7, c7, rfl⟩ := own_sl hf7.row; have HF7 := hide hf7; have HK7 := hide ((HKQ.out _).trans (KeepB.of_below hb7 (Nat.le_refl _) (Nat.le_of_lt hp1))); have HS7 := hide ((HSQ.out _).keep (hb7.mono (Nat.le_of_lt hp1)) (hb7.block p hp1)); have hz7 := HK7.out.be.size; clear hb7 hf7 HSH; have x1 : w7.cell? ⟨p, 1, none⟩ = some (.int .i64 ((k1 : Int) + 1)) := (block_cell HS7.out.box 1).trans (by simp)) | fail)
                  refine bodyPost_ret (by simp [results, Tryz.results22, go_sem]; try rfl) rfl ?_
                  have hbl : ∀ q, Below w7.heap.size w7 (w7.drewN q) := fun q => below_drewN (Below.refl _ _) q
                  first
                    | exact ⟨⟨_, [], by rw [E.out] <;> rfl, Fts.nil _ _, by rw [E.out] <;> rfl⟩, ⟨_, HS7.out.below (hbl _)⟩, (HB1.out.keepB HK7.out hz1).trans (ButAt.of_below (hbl _) (Nat.le_of_lt HS7.out.lt))⟩
                    | exact ⟨⟨_, [], by rw [E.out] <;> rfl, Fts.nil _ _, by rw [E.out] <;> rfl⟩, ⟨_, HS7.out⟩, HB1.out.keepB HK7.out hz1⟩
                · have hsn' : ¬ (0 : Int) < (sn : Int) := by omega
                  have HTS := hide (HTS.out.trans (if_neg hsn))
                  by_cases hend : k1 + 1 = n
                  · have hend' : (((k1 : Int) + 1) == (n : Int)) = true := by rw [beq_iff_eq]; omega
                    have E := hide (show RR = (some (l.map FaultT.flt ++ [⟨X, Y, fs3⟩]), 0) by rw [← HRK.out]; exact inn_last (by rw [HTS.out, hend, HLEN.out]))
                    have HEND := hide hend
                    clear hend
                    go_quiet (fail)
                    go_wp2_with (first | (go_at_call 42; refine (HSH.out _ _).mono ?_; rintro e w7 ⟨rfl, ⟨v7, hf7⟩, hb7⟩; obtain ⟨A7, c7, rfl⟩ := own_sl hf7.row; have HF7 := hide hf7; have HK7 := hide ((HKQ.out _).trans (KeepB.of_below hb7 (Nat.le_refl _) (Nat.le_of_lt hp1))); have HS7 := hide ((HSQ.out _).keep (hb7.mono (Nat.le_of_lt hp1)) (hb7.block p hp1)); have hz7 := HK7.out.be.size; clear hb7 hf7 HSH; have HT7 := hide (HT1.out.keep HK7.out (Nat.le_refl _) (.inl hp)); have hx7 := HF7.out.flt (B := w.heap.size) zx zy (by omega) (by omega); have HX7 : Hid ((FaultT.mk X Y A7 fs3.length c7 fs3).ok w7 ∧ FIn w.heap.size w7 (FaultT.mk X Y A7 fs3.length c7 fs3)) := hide (by obtain ⟨a9, c9, e9, h9⟩ := hx7; simp at e9; obtain ⟨rfl, rfl⟩ := e9; exact h9); clear hx7; have z0 : w7.cell? ⟨w1.heap.size, 0, none⟩ = some (.string X) := (block_cell HF7.out.box 0).trans rfl; have z1 : w7.cell? ⟨w1.heap.size, 1, none⟩ = some (.string Y) := (block_cell HF7.out.box 1).trans rfl; have z2 : w7.cell? ⟨w1.heap.size, 2, none⟩ = some (.slice A7 fs3.length c7) := (block_cell HF7.out.box 2).trans rfl; have hal := fun ob : Obj => (Below.refl w7.heap.size w7).alloc (Nat.le_refl _) ob) | (at_builtin; refine wpList_append_own _ rfl (.tmp 129) (.tmp 131) 22 rfl w.heap.size 40 i0 (.agg #[.string ByteArray.empty, .string ByteArray.empty, .slice none 0 0]) 3 56 Tryz.underlying22 hi0 iz0 iz1 iz2 rfl (by decide) (.slice lA l.length lc) l.length (l.flatMap FaultT.cs) rfl (HT7.out.out.alloc _) ⟨w7.heap.size, 0, none⟩ 1 1 [.string X, .string Y, .slice A7 fs3.length c7] rfl rfl (cells_at _ [.string X, .string Y, .slice A7 fs3.length c7] _ _ rfl) (by intro u hu; simp at hu; rcases hu with rfl | rfl | rfl <;> rfl) (by unfold maxLen; omega) (by omega) (by simp; omega) ?_; intro v8 w8 hown8 hg8 _; obtain ⟨A8, c8, rfl⟩ := own_sl hown8; have hlo8 := HT7.out.out.lt; have HT8 := hide ((HT7.out.below (hal _)).push (x := ⟨X, Y, A7, fs3.length, c7, fs3⟩) hg8 hown8 (HX7.out.1.up (hal _)) (HX7.out.2.up (hal _))); have HS8 := hide ((HS7.out.below (hal _)).grown hg8 (fun j hj => by have := (hlo8 j hj).1; omega)); have HB8 := hide (((HB1.out.keepB HK7.out hz1).trans (ButAt.of_below (hal _) (Nat.le_of_lt HS7.out.lt))).grown hg8 (fun j hj => (hlo8 j hj).1) (Nat.le_of_lt hp)); clear hown8 hg8 hlo8; have y0 : w8.cell? ⟨p, 0, none⟩ = some (.slice A n c) := (block_cell HS8.out.box 0).trans rfl; have y1 : w8.cell? ⟨p, 1, none⟩ = some (.int .i64 ((k1 : Int) + 1)) := (block_cell HS8.out.box 1).trans (by simp); have y2 : w8.cell? ⟨p, 2, none⟩ = some (.string t) := (block_cell HS8.out.box 2).trans rfl) | go_quiet (fail))
                    refine bodyPost_ret (by simp [results, Tryz.results22, go_sem]; try rfl) rfl ?_
                    have hbl : ∀ q, Below w8.heap.size w8 (w8.drewN q) := fun q => below_drewN (Below.refl _ _) q
                    exact ⟨⟨_, l ++ [⟨X, Y, A7, fs3.length, c7, fs3⟩], by rw [E.out] <;> rfl, HT8.out.below (hbl _), by rw [E.out, List.map_append] <;> rfl⟩, ⟨_, HS8.out.below (hbl _)⟩, HB8.out.trans (ButAt.of_below (hbl _) (Nat.le_of_lt HS8.out.lt))⟩
                  · have hend' : (((k1 : Int) + 1) == (n : Int)) = false := by rw [beq_eq_false_iff_ne]; omega
                    have E := hide (show innR L t (L.length - (k1 + 1) + 1) (k1 + 1) (l.map FaultT.flt ++ [⟨X, Y, fs3⟩]) preCaused = RR by rw [← HRK.out]; exact (inn_step HTS.out (by rw [HLEN.out]; exact hend)).symm)
                    have HEND := hide hend
                    clear hend
                    go_quiet (fail)
                    go_wp2_with (first | (go_at_call 42; refine (HSH.out _ _).mono ?_; rintro e w7 ⟨rfl, ⟨v7, hf7⟩, hb7⟩; obtain ⟨A7, c7, rfl⟩ := own_sl hf7.row; have HF7 := hide hf7; have HK7 := hide ((HKQ.out _).trans (KeepB.of_below hb7 (Nat.le_refl _) (Nat.le_of_lt hp1))); have HS7 := hide ((HSQ.out _).keep (hb7.mono (Nat.le_of_lt hp1)) (hb7.block p hp1)); have hz7 := HK7.out.be.size; clear hb7 hf7 HSH; have HT7 := hide (HT1.out.keep HK7.out (Nat.le_refl _) (.inl hp)); have hx7 := HF7.out.flt (B := w.heap.size) zx zy (by omega) (by omega); have HX7 : Hid ((FaultT.mk X Y A7 fs3.length c7 fs3).ok w7 ∧ FIn w.heap.size w7 (FaultT.mk X Y A7 fs3.length c7 fs3)) := hide (by obtain ⟨a9, c9, e9, h9⟩ := hx7; simp at e9; obtain ⟨rfl, rfl⟩ := e9; exact h9); clear hx7; have z0 : w7.cell? ⟨w1.heap.size, 0, none⟩ = some (.string X) := (block_cell HF7.out.box 0).trans rfl; have z1 : w7.cell? ⟨w1.heap.size, 1, none⟩ = some (.string Y) := (block_cell HF7.out.box 1).trans rfl; have z2 : w7.cell? ⟨w1.heap.size, 2, none⟩ = some (.slice A7 fs3.length c7) := (block_cell HF7.out.box 2).trans rfl; have hal := fun ob : Obj => (Below.refl w7.heap.size w7).alloc (Nat.le_refl _) ob) | (at_builtin; refine wpList_append_own _ rfl (.tmp 129) (.tmp 131) 22 rfl w.heap.size 40 i0 (.agg #[.string ByteArray.empty, .string ByteArray.empty, .slice none 0 0]) 3 56 Tryz.underlying22 hi0 iz0 iz1 iz2 rfl (by decide) (.slice lA l.length lc) l.length (l.flatMap FaultT.cs) rfl (HT7.out.out.alloc _) ⟨w7.heap.size, 0, none⟩ 1 1 [.string X, .string Y, .slice A7 fs3.length c7] rfl rfl (cells_at _ [.string X, .string Y, .slice A7 fs3.length c7] _ _ rfl) (by intro u hu; simp at hu; rcases hu with rfl | rfl | rfl <;> rfl) (by unfold maxLen; omega) (by omega) (by simp; omega) ?_; intro v8 w8 hown8 hg8 _; obtain ⟨A8, c8, rfl⟩ := own_sl hown8; have hlo8 := HT7.out.out.lt; have HT8 := hide ((HT7.out.below (hal _)).push (x := ⟨X, Y, A7, fs3.length, c7, fs3⟩) hg8 hown8 (HX7.out.1.up (hal _)) (HX7.out.2.up (hal _))); have HS8 := hide ((HS7.out.below (hal _)).grown hg8 (fun j hj => by have := (hlo8 j hj).1; omega)); have HB8 := hide (((HB1.out.keepB HK7.out hz1).trans (ButAt.of_below (hal _) (Nat.le_of_lt HS7.out.lt))).grown hg8 (fun j hj => (hlo8 j hj).1) (Nat.le_of_lt hp)); clear hown8 hg8 hlo8; have y0 : w8.cell? ⟨p, 0, none⟩ = some (.slice A n c) := (block_cell HS8.out.box 0).trans rfl; have y1 : w8.cell? ⟨p, 1, none⟩ = some (.int .i64 ((k1 : Int) + 1)) := (block_cell HS8.out.box 1).trans (by simp); have y2 : w8.cell? ⟨p, 2, none⟩ = some (.string t) := (block_cell HS8.out.box 2).trans rfl) | go_quiet (fail))
                    go_roundw
                    case rel =>
                      have hbl : ∀ q, Below w8.heap.size w8 (w8.drewN q) := fun q => below_drewN (Below.refl _ _) q
                      have hall : ∀ x ∈ l ++ [(⟨X, Y, A7, fs3.length, c7, fs3⟩ : FaultT)], x.frs.length ≤ k1 + 1 := fun x hx => by
                        rcases List.mem_append.1 hx with hx | hx
                        · have := hll.out x hx; omega
                        · simp at hx; subst hx; show fs3.length ≤ _; omega
                      exact ⟨l ++ [⟨X, Y, A7, fs3.length, c7, fs3⟩], k1 + 1, _, rfl, HS8.out.below (hbl _), HT8.out.below (hbl _), HB8.out.trans (ButAt.of_below (hbl _) (Nat.le_of_lt HS8.out.lt)), by rw [List.length_append]; simp; omega, hide hall, by rw [List.map_append]; exact E.out⟩
                    case measure =>
                      have hbl : ∀ q, Below w8.heap.size w8 (w8.drewN q) := fun q => below_drewN (Below.refl _ _) q
                      rw [(HS8.out.below (hbl _)).atOf, HS.out.atOf]
                      omega
        · rw [hbg] at HBG
          have hfa := fun W (H : Src p A n c L t k1 W) => sframe_any preAt H
          obtain ⟨FR, hFR⟩ : ∃ FR, frmS L k1 preAt = FR := ⟨_, rfl⟩
          simp only [hFR, FmOut, frAgg] at hfa
          have HFA := hide hfa
          have hk1L : k1 + 1 ≤ n := by have := begK_lt hbg; have := HLEN.out; omega
          clear hfa
          cases FR with
          | none =>
            have hRF2 : RF = (false, k1, fs) := HR2.out.symm.trans (frs_bad hbg hFR)
            have E := hide (show RR = (none, k1 + 1) by rw [← HRK.out]; exact inn_end (by rw [HSTEP.out, hRF2]; rfl))
            clear HSTEP HRF HR2 hRF2 hbg hFR
            go_wp2_with (first | (go_at_call 38; refine HBG.out.mono ?_; rintro e w3 ⟨rfl, hw3⟩; clear HBG; have HS3 := hide (HS2.out.below hw3); have HF3 := hide (HF2.out.below hw3); have HK3 := hide (HK2.out.trans (KeepB.of_below hw3 hz2 (Nat.le_of_lt hp2))); have hz3 := hw3.size; clear hw3) | (go_at_call 39; refine (HFA.out _ HS3.out).mono ?_; rintro e w4 ⟨⟨M, G, f, li, ad, ow, rfl, hor, zM, zG, zf⟩, hS4, hB4⟩; clear HFA; have HF4 := hide (HF3.out.but hB4 hp1); have HK4 := hide (HK3.out.trans (KeepB.of_but hB4)); have hz4 := hB4.be.size; clear hor; have HS4 : Hid (Src p A n c L t k1 w4) := hide hS4; clear hS4 hB4; have x1 : w4.cell? ⟨p, 1, none⟩ = some (.int .i64 (k1 : Int)) := (block_cell HS4.out.box 1).trans (by simp)) | go_quiet (fail))
            have hal : ∀ ob q, Below w4.heap.size w4 ((w4.alloc ob).drewN q) := fun ob q => below_drewN ((Below.refl _ _).alloc (Nat.le_refl _) ob) q
            refine bodyPost_ret (by simp [results, Tryz.results22, go_sem]; try rfl) rfl ?_
            exact ⟨⟨_, [], by rw [E.out] <;> rfl, Fts.nil _ _, by rw [E.out] <;> rfl⟩, ⟨_, HS4.out.below (hal _ _)⟩, (HB1.out.keepB HK4.out hz1).trans (ButAt.of_below (hal _ _) (Nat.le_of_lt HS4.out.lt))⟩
          | some x =>
            have hR4 : frsFrom L preAt (L.length - (k1 + 1)) (k1 + 1) (fs ++ [frmF x]) = RF := (frs_step hbg hFR).symm.trans HR2.out
            have HR4 := hide hR4
            clear HSTEP HRF HR2 hR4 hbg hFR
            have f2 := True.intro
            go_wp2_with (first | (go_at_call 38; refine HBG.out.mono ?_; rintro e w3 ⟨rfl, hw3⟩; clear HBG; have HS3 := hide (HS2.out.below hw3); have HF3 := hide (HF2.out.below hw3); have HK3 := hide (HK2.out.trans (KeepB.of_below hw3 hz2 (Nat.le_of_lt hp2))); have hz3 := hw3.size; clear hw3) | (go_at_call 39; refine (HFA.out _ HS3.out).mono ?_; rintro e w4 ⟨⟨M, G, f, li, ad, ow, rfl, hor, zM, zG, zf⟩, hS4, hB4⟩; clear HFA; have HF4 := hide (HF3.out.but hB4 hp1); have HK4 := hide (HK3.out.trans (KeepB.of_but hB4)); have hz4 := hB4.be.size; have hx9 : x = (M, G, f, li, ad, ow) := Option.some.inj (hor.resolve_right (fun e => by cases e)); subst hx9; clear hor; have HS4 : Hid (Src p A n c L t (k1 + 1) w4) := hide hS4; clear hS4 hB4; have hfr4 := block_free HF4.out.box 2; have x2 : w4.cell? ⟨w1.heap.size, 2, none⟩ = some (.slice A2 fs.length c2) := (block_cell HF4.out.box 2).trans rfl; have hlt4 := HF4.out.lt; have hp4 := HS4.out.lt; have hal2 := fun ob ob2 : Obj => ((Below.refl w4.heap.size w4).alloc (Nat.le_refl _) ob).alloc (by simp) ob2) | (at_builtin; refine wpList_append_own _ rfl (.tmp 52) (.tmp 54) 38 rfl (w1.heap.size + 1) 43 j0 (.agg #[.string ByteArray.empty, .string ByteArray.empty, .string ByteArray.empty, .int .i64 0, .int .i64 0, .bool false]) 6 72 Tryz.underlying38 hj0 jz0 jz1 jz2 rfl (by decide) (.slice A2 fs.length c2) fs.length (fs.flatMap Frame.cs) rfl ((HF4.out.row.alloc _).alloc _) ⟨w4.heap.size + 1, 0, none⟩ 1 1 [.string M, .string G, .string f, .int .i64 li, .int .i64 ad, .bool ow] rfl rfl (cells_at _ [.string M, .string G, .string f, .int .i64 li, .int .i64 ad, .bool ow] _ _ (by simp)) (by intro u hu; simp at hu; rcases hu with rfl | rfl | rfl | rfl | rfl | rfl <;> rfl) (by unfold maxLen; omega) (by omega) (by simp; omega) ?_; intro v5 w5 hown5 hg5 _; obtain ⟨A5, c5, rfl⟩ := own_sl hown5; have hadd := (HF4.out.below (hal2 _ _)).add (es := [frmF (M, G, f, li, ad, ow)]) hg5 hown5 (fun y hy => by simp at hy; subst hy; exact frmF_fit zM zG zf); have hkb := (HF4.out.below (hal2 _ _)).keepB (p := p) hg5 (Nat.le_of_lt hp1) (.slice A5 (fs.length + 1) c5); have hlo := HF4.out.row.lt; have f5 := block_free hadd.1 2; have y5 : w5.cell? ⟨w1.heap.size, 2, none⟩ = some (.slice A2 fs.length c2) := (block_cell hadd.1 2).trans rfl; have HF6 := hide hadd.2; have HK6 := hide ((HK4.out.trans (KeepB.of_below (hal2 _ _) (by omega) (by omega))).trans hkb); have HS6 := hide (((HS4.out.below (hal2 _ _)).grown hg5 (fun j hj => by have := (hlo j hj).1; omega)).other (ButAt.set w5 (c := w1.heap.size) 2 (.slice A5 (fs.length + 1) c5)) hp1); clear hown5 hg5 hadd hkb hlo) | fail)
            go_roundw
            case rel => exact ⟨k1 + 1, fs ++ [frmF (M, G, f, li, ad, ow)], _, HS6.out, HF6.out, HK6.out, by rw [List.length_append]; simp; omega, HR4.out⟩
            case measure =>
              rw [HS6.out.atOf, HS2.out.atOf]
              omega
end Go.Proofs.YtkjpojaanocfjaaGreatDoor
