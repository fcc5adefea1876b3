/- Walk of the reference's FamiliesOf. -/
import Derived.Test.YtecancnojdifaaaDoorNmFmP
import Derived.Test.YtecancnojdifaaaDoorNmFam
import Derived.Test.YtecancnojdifaaaDoorNmGR
namespace Go.Proofs.YtecancnojdifaaaDoor
open Go.RowKit
set_option linter.unusedVariables false
set_option linter.unusedSimpArgs false
theorem info_strF : (Tryd.prog.info? 9).map (fun i => (i.zero, i.size, i.bytes)) = some (some (.string ByteArray.empty), 1, 16) := by kernel_rfl
/-- What FamiliesOf has in memory: the keys, the families. -/
structure FrI (B : Nat) (R : List ByteArray) (O : List (List Nat)) (vs : List Value) (w0 : World) (kv ov : Value) (w : World) : Prop where
  keys : w.ownsRow B 9 1 kv R.length ((R.map kb2).flatMap cs)
  rows : Fm 37 3 w B ov vs O
  be : Below B w0 w
section
variable {B : Nat} {R : List ByteArray} {O : List (List Nat)} {vs : List Value} {w0 w w' : World} {kv kv' ov ov' : Value}
theorem FrI.below (h : FrI B R O vs w0 kv ov w) (hB : B ≤ w.heap.size) (hb : Below w.heap.size w w') : FrI B R O vs w0 kv ov w' :=
  ⟨own_below h.keys hb, h.rows.below hb, h.be.trans (hb.mono hB)⟩
theorem FrI.addkey (h : FrI B R O vs w0 kv ov w) (hB : B ≤ w.heap.size) {s K : ByteArray} (hK : K = kb2 s) (hg : w.grownBy w' kv.ownBlock) (ho : w'.ownsRow B 9 1 kv' (R.length + 1) ((R.map kb2).flatMap cs ++ [.string K])) : FrI B (R ++ [s]) O vs w0 kv' ov w' := by
  refine ⟨?_, h.rows.grown hg (own_ne h.rows.out h.keys (by decide)) (fun u hu => ?_), h.be.grown hg hB (fun b hb => (h.keys.lt b hb).1)⟩
  · rw [List.length_append, List.map_append, List.flatMap_append]
    subst hK
    exact ho
  · obtain ⟨k, x, _, _, hr⟩ := h.rows.row' hu
    exact own_ne hr h.keys (by decide)
theorem FrI.push (h : FrI B R O vs w0 kv ov w) (hB : B ≤ w.heap.size) (hg : w.grownBy w' ov.ownBlock) (ho : w'.ownsRow B 37 1 ov' (O.length + 1) (vs ++ [.slice none 0 0])) : FrI B R (O ++ [[]]) (vs ++ [.slice none 0 0]) w0 kv ov' w' :=
  ⟨own_grown h.keys hg (own_ne h.keys h.rows.out (by decide)), h.rows.push (by decide) hg ho, h.be.grown hg hB (fun b hb => (h.rows.out.lt b hb).1)⟩
theorem FrI.add {g cap k i : Nat} {u u' : Value} {x : List Nat} (h : FrI B R O vs w0 kv (.slice (some ⟨g, 0, none⟩) O.length cap) w) (hB : B ≤ w.heap.size) (hgB : B ≤ g) (hx : O[k]? = some x) (hu : vs[k]? = some u)
    (hg : w.grownBy w' u.ownBlock) (ho : w'.ownsRow B 3 1 u' (x.length + 1) (nC x ++ [.int .i64 (i : Int)])) (hw : u'.ownBlock = u.ownBlock ∨ u'.ownBlock = some w.heap.size) :
    w'.ownsRow B 37 1 (.slice (some ⟨g, 0, none⟩) O.length cap) O.length vs ∧ FrI B R (O.modify k (· ++ [i])) (vs.set k u') w0 kv (.slice (some ⟨g, 0, none⟩) O.length cap) (w'.setCell ⟨g, k, none⟩ u') := by
  have hr := h.rows.row k x u hx hu
  obtain ⟨h1, h2⟩ := h.rows.add (by decide) hx hu hg ho hw
  have hk := own_grown h.keys hg (own_ne h.keys hr (by decide))
  have hcur : ∃ cur, w'.heap[g]? = some (.cells cur 37 (0, 0)) := by
    rcases h1.2 with ⟨h3, _⟩ | ⟨g', cap', cur, h3, _, h4, _⟩
    · cases h3
    · simp only [Value.slice.injEq, Option.some.injEq, Addr.mk.injEq, true_and, and_true] at h3
      obtain ⟨rfl, rfl⟩ := h3
      exact ⟨cur, h4⟩
  obtain ⟨cur, hcur⟩ := hcur
  refine ⟨h1, ⟨ownsRow_setCell_other hk (a := ⟨g, k, none⟩) (own_other' hk hcur (by decide)) u', h2, (h.be.grown hg hB (fun b hb => (hr.lt b hb).1)).setCell (p := ⟨g, k, none⟩) hgB _⟩⟩
theorem FrI.sl {A : Option Addr} {c : Nat} (h : FrI B R O vs w0 (.slice A R.length c) ov w) : Sl w w.heap.size cs 1 A R.length (R.map kb2) := by
  obtain ⟨A', c', e, hs, _⟩ := sl_of_own (f := cs) (l := R.map kb2) (fun _ => rfl) (by simp) h.keys
  simp only [Value.slice.injEq, true_and] at e
  rw [e.1]; exact hs
end
theorem fam_old' {K : ByteArray → List UInt8} {l : List ByteArray} {j : Nat} {s : ByteArray} {R : List ByteArray} {O : List (List Nat)} (hf : fmly K (l.take j) = (R, O)) (hs : l[j]? = some s) (hk : famIx K R s < R.length) :
    ∃ x, O[famIx K R s]? = some x ∧ x.length ≤ j ∧ fmly K (l.take (j + 1)) = (R, O.modify (famIx K R s) (· ++ [j])) := by
  have ho := fam_ok_take K l j (by have := (List.getElem?_eq_some_iff.1 hs).1; omega)
  rw [hf] at ho
  have hk2 : famIx K R s < O.length := by rw [ho.len]; exact hk
  refine ⟨_, List.getElem?_eq_getElem hk2, ho.rows _ (List.getElem_mem hk2), ?_⟩
  rw [fam_take K hs, hf, famStep, if_pos hk]
set_option maxRecDepth 100000 in
set_option maxHeartbeats 16000000 in
theorem FamiliesOf_any (A : Option Addr) (n c : Nat) (l : List ByteArray) (w : World) (hn : n ≤ 2000) (hl : Sl w w.heap.size cs 1 A n l) (hs : ∀ s ∈ l, s.size ≤ reachBytes) :
    Calls Tryd.prog 14 #[.slice A n c] w fun e w' => (∃ v vs, e = .returned v ∧ Fm 37 3 w' w.heap.size v vs (fmly k2 l).2) ∧ Below w.heap.size w w' := by
  have hrb : reachBytes < 140737488355328 := reachBytes_lt
  obtain ⟨i0, hi0, iz0, iz1, iz2⟩ := info_parts info_intF
  obtain ⟨j0, hj0, jz0, jz1, jz2⟩ := info_parts info_rowF
  obtain ⟨s0, hs0, sz0, sz1, sz2⟩ := info_parts info_strF
  have HLN := hide hl.len
  have HSL := hide hl
  have HST := hide hs
  clear hl hs
  go_enter Tryd.func14, Tryd.ntmps14
  go_wp2_with (fail)
  go_loopw [3, 4, 14] (fun kv ov i wr => ∃ (j : Nat) (R : List ByteArray) (O : List (List Nat)) (vs : List Value), j ≤ n ∧ i = .int .i64 j ∧ fmly k2 (l.take j) = (R, O) ∧ FrI w.heap.size R O vs w kv ov wr) (fun _ _ i _ => n - (intOf i).toNat)
  case atStart => exact ⟨0, [], [], [], Nat.zero_le _, rfl, rfl, ⟨World.ownsRow_nil _ _ _ _, Fm.nil _ _, Below.refl _ _⟩⟩
  case round =>
    obtain ⟨j, R, O, vs, hj, rfl, hfm, hI⟩ := hrel
    have hz := hI.be.size
    have HFM := hide hfm
    have HOK := hide (show FamOk k2 j (R, O) by rw [← hfm]; exact fam_ok_take k2 l j (by rw [HLN.out]; exact hj))
    clear hfm
    by_cases hlt : j < n
    · obtain ⟨bb, oo, s, rfl, hbb, hx0, hc⟩ := (HSL.out.below hI.be).at_ hlt
      have c0 : wr.cell? ⟨bb, oo + j, none⟩ = some (.string s) := by simpa using hc 0 _ rfl
      have hss : s.size ≤ reachBytes := HST.out _ (List.mem_of_getElem? hx0)
      have HI := hide hI
      have HS := hide hx0
      have HD := hide (Demangled_any s wr (by unfold maxLen; omega))
      have HOL := hide (show O.length = R.length ∧ R.length ≤ j from ⟨HOK.out.len, HOK.out.most⟩)
      have hOj : O.length ≤ j := by have := HOL.out; omega
      have hRj : R.length ≤ j := by have := HOL.out; omega
      obtain ⟨A8, c8, rfl⟩ := own_sl HI.out.keys
      clear hI hc hx0
      have hix := ix_keys R s
      obtain ⟨E, hE⟩ : ∃ E, dmE s = E := ⟨_, rfl⟩
      obtain ⟨N, hN⟩ : ∃ N, dmN s = N := ⟨_, rfl⟩
      by_cases h0 : E = 0
      · have HG := hide (sym_good (dmY_good (hE.trans h0)))
        have hbc := bare_chk (dmY_good (hE.trans h0))
        have hbl := bare_len (dmY_good (hE.trans h0))
        obtain ⟨y, hy⟩ : ∃ y, dmY s = y := ⟨_, rfl⟩
        have hk2 : k2 s = kR y := by rw [k2, if_pos (hE.trans h0), hy]
        rw [hE, hN, hy, h0] at HD
        rw [hy] at HG hbc hbl
        obtain ⟨MB, hMB⟩ : ∃ MB : ByteArray, (⟨(mgSym (bareS y)).toArray⟩ : ByteArray) = MB := ⟨_, rfl⟩
        have hms : MB.size ≤ 2000 := by rw [← hMB]; exact hbl
        have hKB : (⟨#[43]⟩ : ByteArray) ++ MB = kb2 s := by
          apply ByteArray.ext
          apply Array.toList_inj.1
          rw [toL_cons, ← hMB]
          unfold kb2
          rw [hk2]
          rfl
        have HMG := hide (fun (W : World) (cs : List Value) (h : SymIn W 0 (bareS y) cs) => hMB ▸ Mangled_any 0 (bareS y) cs W h (by rw [hbc]) (by rw [hbc]; decide))
        have HBA := hide (fun (k : Nat) (cs : List Value) (W : World) (h : SymIn W k y cs) => Bared_any k y cs W h HG.out.2.2.1 HG.out.2.1)
        have HSZ := hide (show ∀ p ∈ y.name, p.1.size ≤ maxLen from fun p hp => by have := (HG.out.1 p hp).1; unfold maxLen; omega)
        have hy1 := HG.out.2.1
        rw [← hKB] at hix
        have HKB2 := hide hKB
        clear hE hN hy h0 hbc hbl hk2 hMB hKB
        by_cases hmem : famIx k2 R s < R.length
        · obtain ⟨x, hx, hxj, hnext⟩ := fam_old' HFM.out HS.out hmem
          obtain ⟨k, hkk⟩ : ∃ k, famIx k2 R s = k := ⟨_, rfl⟩
          rw [hkk] at hx hnext hmem hix
          rw [if_pos hmem] at hix
          have HIX := hide (fun W h => hix ▸ Index_str A8 R.length c8 (R.map kb2) ((⟨#[43]⟩ : ByteArray) ++ MB) W (by omega) h)
          have HNX := hide hnext
          have hkO : k < O.length := by have := HOL.out; omega
          have hkR : ¬ ((k : Int) < 0) := by omega
          have hkR2 : decide ((k : Int) < 0) = false := by simp
          have hF := HI.out.rows
          obtain ⟨u, hu⟩ : ∃ u, vs[k]? = some u := ⟨_, List.getElem?_eq_getElem (by rw [hF.len]; exact hkO)⟩
          obtain ⟨g, cap, cur, rfl, hgB, hgb, hgn, hgm, hgs, _⟩ := own_blk hF.out (by omega)
          have HUU := hide hu
          have HXX := hide hx
          have hkI : (k : Int) < (O.length : Int) := by omega
          clear hF hnext hgs hgb hu hx hmem hgn hix hkk
          go_wp2_with (first | (go_at_call 8; refine HD.out.mono ?_; rintro e w1 ⟨k9, cs9, rfl, hin, hw1⟩; obtain ⟨A1, n1, c1, A2, n2, c2, rfl, hr9⟩ := id hin; have HX1 := hide (heap_alloc_new w1 (.cells #[.slice A1 n1 c1, .slice A2 n2 c2] 25)); have hB1 := hw1.alloc hw1.size (.cells #[.slice A1 n1 c1, .slice A2 n2 c2] 25); have HI1 := hide (HI.out.below hz hB1); have HY1 := hide (hin.up (ref_alloc _ (.cells #[.slice A1 n1 c1, .slice A2 n2 c2] 25))); have x0 := (block_cell HX1.out 0).trans rfl; have x1 := (block_cell HX1.out 1).trans rfl; clear hw1 hr9 hin hB1) | (go_at_call 42; refine (HBA.out _ _ _ HY1.out).mono ?_; rintro e w2 ⟨⟨A7, n7, c7, rfl, hn7, ho7⟩, hw2⟩; have HSY := hide (bare_sym (k := 0) ho7 hn7 (by omega) HSZ.out); have HI2 := hide (HI1.out.below HI1.out.be.size hw2); clear hw2 ho7) | (go_at_call 41; refine (HMG.out _ _ HSY.out).mono ?_; rintro e w3 ⟨rfl, hw3⟩; have HI3 := hide (HI2.out.below HI2.out.be.size hw3); clear hw3) | (go_at_call 43; refine (HIX.out _ HI3.out.sl).mono ?_; rintro e w4 ⟨rfl, rfl⟩; have u0 := own_cell HI3.out.rows.out k _ HUU.out; have HQ := hide (HI3.out.below HI3.out.be.size (ref_alloc _ (.cells #[.int .i64 (j : Int)] 3))); have HRW := hide (HQ.out.rows.row k _ _ HXX.out HUU.out)) | (at_builtin; refine wpList_append_own_at _ rfl (.tmp 52) (.tmp 54) 37 rfl w.heap.size 3 i0 (.int .i64 0) 1 8 Tryd.underlying37 hi0 iz0 iz1 iz2 rfl (by decide) _ _ _ rfl HRW.out ⟨w4.heap.size, 0, none⟩ 1 1 [.int .i64 (j : Int)] (by rfl) rfl (cells_at _ [.int .i64 (j : Int)] _ _ (by first | rfl | simp)) (by intro y hy; simp at hy; rcases hy with rfl; rfl) (by unfold maxLen; omega) (by omega) HQ.out.be.size ?_; intro u' w7 hown7 hg7 _ hat7; obtain ⟨ao, cp, rfl⟩ := own_sl hown7; have HAD := hide (HQ.out.add (i := j) HQ.out.be.size hgB HXX.out HUU.out hg7 hown7 hat7); have y0 := own_cell HAD.out.1 (k) _ HUU.out; have yf := own_free HAD.out.1 (k); clear hown7 hg7 hat7))
          go_roundw
          case rel => exact ⟨j + 1, R, O.modify k (· ++ [j]), vs.set k (.slice ao (x.length + 1) cp), by omega, by go_num, HNX.out, HAD.out.2⟩
          case measure => simp [intOf]; omega
        · have hnext := fam_new HFM.out HS.out (fun h => hmem (famIx_mem.2 h))
          rw [if_neg hmem] at hix
          obtain ⟨mz, hmz⟩ : ∃ mz : Int, -1 = mz := ⟨_, rfl⟩
          rw [hmz] at hix
          have hneg : mz < 0 := by omega
          have HIX := hide (fun W h => hix ▸ Index_str A8 R.length c8 (R.map kb2) ((⟨#[43]⟩ : ByteArray) ++ MB) W (by omega) h)
          obtain ⟨O2, hO2⟩ : ∃ O2, O2 = O ++ [[]] := ⟨_, rfl⟩
          have HO2 := hide hO2
          obtain ⟨va, vc, rfl⟩ := own_sl HI.out.rows.out
          obtain ⟨vs2, hv2⟩ : ∃ vs2, vs2 = vs ++ [.slice none 0 0] := ⟨_, rfl⟩
          obtain ⟨x, hx0⟩ : ∃ x : List Nat, x = [] := ⟨_, rfl⟩
          rw [← hO2, HOL.out.1] at hnext
          have HV2 := hide hv2
          have HNX := hide hnext
          have HOL2 := hide (show O2.length = O.length + 1 by rw [hO2]; simp)
          have HXX := hide (show O2[R.length]? = some x by rw [hO2, hx0, ← HOL.out.1]; simp)
          have HUU := hide (show vs2[R.length]? = some (.slice none 0 0) by rw [hv2, ← HOL.out.1, ← HI.out.rows.len]; simp)
          have hxj : x.length ≤ j := by rw [hx0]; simp
          have hkI : (R.length : Int) < (O.length : Int) + 1 := by have := HOL.out.1; omega
          clear hnext hmem hO2 hv2 hx0 hix hmz
          go_wp2_with (first | (go_at_call 8; refine HD.out.mono ?_; rintro e w1 ⟨k9, cs9, rfl, hin, hw1⟩; obtain ⟨A1, n1, c1, A2, n2, c2, rfl, hr9⟩ := id hin; have HX1 := hide (heap_alloc_new w1 (.cells #[.slice A1 n1 c1, .slice A2 n2 c2] 25)); have hB1 := hw1.alloc hw1.size (.cells #[.slice A1 n1 c1, .slice A2 n2 c2] 25); have HI1 := hide (HI.out.below hz hB1); have HY1 := hide (hin.up (ref_alloc _ (.cells #[.slice A1 n1 c1, .slice A2 n2 c2] 25))); have x0 := (block_cell HX1.out 0).trans rfl; have x1 := (block_cell HX1.out 1).trans rfl; clear hw1 hr9 hin hB1) | (go_at_call 42; refine (HBA.out _ _ _ HY1.out).mono ?_; rintro e w2 ⟨⟨A7, n7, c7, rfl, hn7, ho7⟩, hw2⟩; have HSY := hide (bare_sym (k := 0) ho7 hn7 (by omega) HSZ.out); have HI2 := hide (HI1.out.below HI1.out.be.size hw2); clear hw2 ho7) | (go_at_call 41; refine (HMG.out _ _ HSY.out).mono ?_; rintro e w3 ⟨rfl, hw3⟩; have HI3 := hide (HI2.out.below HI2.out.be.size hw3); clear hw3) | (go_at_call 43; refine (HIX.out _ HI3.out.sl).mono ?_; rintro e w4 ⟨rfl, rfl⟩; have HQ := hide (HI3.out.below HI3.out.be.size (ref_alloc _ (.cells #[.string ((⟨#[43]⟩ : ByteArray) ++ MB)] 9)))) | (at_builtin; refine wpList_append_own _ rfl (.tmp 40) (.tmp 42) 32 rfl w.heap.size 9 s0 (.string ByteArray.empty) 1 16 Tryd.underlying32 hs0 sz0 sz1 sz2 rfl (by decide) _ R.length _ rfl HQ.out.keys ⟨w4.heap.size, 0, none⟩ 1 1 [.string ((⟨#[43]⟩ : ByteArray) ++ MB)] (by rfl) rfl (cells_at _ [.string ((⟨#[43]⟩ : ByteArray) ++ MB)] _ _ (by first | rfl | simp)) (by intro y hy; simp at hy; rcases hy with rfl; rfl) (by unfold maxLen; omega) (by omega) HQ.out.be.size ?_; intro v5 w5 hown5 hg5 _; obtain ⟨ak, ck, rfl⟩ := own_sl hown5; have HQ5 := hide (HQ.out.addkey HQ.out.be.size HKB2.out hg5 hown5); have HQ6 := hide (HQ5.out.below HQ5.out.be.size (ref_alloc _ (.cells #[.slice none 0 0] 37))); clear hown5 hg5) | (at_builtin; refine wpList_append_own _ rfl (.tmp 44) (.tmp 45) 33 rfl w.heap.size 37 j0 (.slice none 0 0) 1 24 Tryd.underlying33 hj0 jz0 jz1 jz2 rfl (by decide) _ O.length _ rfl HQ6.out.rows.out ⟨w5.heap.size, 0, none⟩ 1 1 [.slice none 0 0] (by rfl) rfl (cells_at _ [.slice none 0 0] _ _ (by first | rfl | simp)) (by intro y hy; simp at hy; rcases hy with rfl; rfl) (by unfold maxLen; omega) (by omega) HQ6.out.be.size ?_; intro v6 w6 hown6 hg6 _; obtain ⟨g, cap, cur, rfl, hgB, hgb, hgn, hgm, hgs, _⟩ := own_blk hown6 (by omega); have HQ7 := hide (show FrI w.heap.size (R ++ [s]) O2 vs2 w (.slice ak (R.length + 1) ck) (.slice (some ⟨g, 0, none⟩) O2.length cap) w6 from by (rw [HO2.out, HV2.out, List.length_append]); exact HQ6.out.push HQ6.out.be.size hg6 hown6); have u0 : w6.cell? ⟨g, R.length, none⟩ = some (.slice none 0 0) := own_cell HQ7.out.rows.out R.length _ HUU.out; have HQ := hide (HQ7.out.below HQ7.out.be.size (ref_alloc _ (.cells #[.int .i64 (j : Int)] 3))); have HRW := hide (HQ.out.rows.row R.length _ _ HXX.out HUU.out); clear hgs hgb hgn hown6 hg6) | (at_builtin; refine wpList_append_own_at _ rfl (.tmp 52) (.tmp 54) 37 rfl w.heap.size 3 i0 (.int .i64 0) 1 8 Tryd.underlying37 hi0 iz0 iz1 iz2 rfl (by decide) _ _ _ rfl HRW.out ⟨w6.heap.size, 0, none⟩ 1 1 [.int .i64 (j : Int)] (by rfl) rfl (cells_at _ [.int .i64 (j : Int)] _ _ (by first | rfl | simp)) (by intro y hy; simp at hy; rcases hy with rfl; rfl) (by unfold maxLen; omega) (by omega) HQ.out.be.size ?_; intro u' w7 hown7 hg7 _ hat7; obtain ⟨ao, cp, rfl⟩ := own_sl hown7; have HAD := hide (HQ.out.add (i := j) HQ.out.be.size hgB HXX.out HUU.out hg7 hown7 hat7); have y0 := own_cell HAD.out.1 (R.length) _ HUU.out; have yf := own_free HAD.out.1 (R.length); clear hown7 hg7 hat7))
          go_roundw
          case rel =>
            have hfin := HAD.out.2
            rw [HOL2.out] at hfin
            refine ⟨j + 1, R ++ [s], O2.modify R.length (· ++ [j]), vs2.set R.length (.slice ao (x.length + 1) cp), by omega, by go_num, HNX.out, hfin⟩
          case measure => simp [intOf]; omega
      · have hE' : (E == 0) = false := by simpa using h0
        have hKB : (⟨#[45]⟩ : ByteArray) ++ s = kb2 s := by
          apply ByteArray.ext
          apply Array.toList_inj.1
          rw [toL_cons]
          unfold kb2
          rw [k2, if_neg (by rw [hE]; exact h0)]
        rw [← hKB] at hix
        have HKB2 := hide hKB
        have hks : ((⟨#[45]⟩ : ByteArray) ++ s).size ≤ maxLen := by rw [size_cons]; unfold maxLen; omega
        rw [hE, hN] at HD
        clear hE hN h0 hKB
        by_cases hmem : famIx k2 R s < R.length
        · obtain ⟨x, hx, hxj, hnext⟩ := fam_old' HFM.out HS.out hmem
          obtain ⟨k, hkk⟩ : ∃ k, famIx k2 R s = k := ⟨_, rfl⟩
          rw [hkk] at hx hnext hmem hix
          rw [if_pos hmem] at hix
          have HIX := hide (fun W h => hix ▸ Index_str A8 R.length c8 (R.map kb2) ((⟨#[45]⟩ : ByteArray) ++ s) W (by omega) h)
          have HNX := hide hnext
          have hkO : k < O.length := by have := HOL.out; omega
          have hkR : ¬ ((k : Int) < 0) := by omega
          have hkR2 : decide ((k : Int) < 0) = false := by simp
          have hF := HI.out.rows
          obtain ⟨u, hu⟩ : ∃ u, vs[k]? = some u := ⟨_, List.getElem?_eq_getElem (by rw [hF.len]; exact hkO)⟩
          obtain ⟨g, cap, cur, rfl, hgB, hgb, hgn, hgm, hgs, _⟩ := own_blk hF.out (by omega)
          have HUU := hide hu
          have HXX := hide hx
          have hkI : (k : Int) < (O.length : Int) := by omega
          clear hF hnext hgs hgb hu hx hmem hgn hix hkk
          go_wp2_with (first | (go_at_call 8; refine HD.out.mono ?_; rintro e w1 ⟨k9, cs9, rfl, hin, hw1⟩; obtain ⟨A1, n1, c1, A2, n2, c2, rfl, hr9⟩ := id hin; have HX1 := hide (heap_alloc_new w1 (.cells #[.slice A1 n1 c1, .slice A2 n2 c2] 25)); have hB1 := hw1.alloc hw1.size (.cells #[.slice A1 n1 c1, .slice A2 n2 c2] 25); have HI1 := hide (HI.out.below hz hB1); have HY1 := hide (hin.up (ref_alloc _ (.cells #[.slice A1 n1 c1, .slice A2 n2 c2] 25))); have x0 := (block_cell HX1.out 0).trans rfl; have x1 := (block_cell HX1.out 1).trans rfl; clear hw1 hr9 hin hB1) | (go_at_call 43; refine (HIX.out _ HI1.out.sl).mono ?_; rintro e w4 ⟨rfl, rfl⟩; have u0 := own_cell HI1.out.rows.out k _ HUU.out; have HQ := hide (HI1.out.below HI1.out.be.size (ref_alloc _ (.cells #[.int .i64 (j : Int)] 3))); have HRW := hide (HQ.out.rows.row k _ _ HXX.out HUU.out)) | (at_builtin; refine wpList_append_own_at _ rfl (.tmp 52) (.tmp 54) 37 rfl w.heap.size 3 i0 (.int .i64 0) 1 8 Tryd.underlying37 hi0 iz0 iz1 iz2 rfl (by decide) _ _ _ rfl HRW.out ⟨w1.heap.size + 1, 0, none⟩ 1 1 [.int .i64 (j : Int)] (by rfl) rfl (cells_at _ [.int .i64 (j : Int)] _ _ (by first | rfl | simp)) (by intro y hy; simp at hy; rcases hy with rfl; rfl) (by unfold maxLen; omega) (by omega) HQ.out.be.size ?_; intro u' w7 hown7 hg7 _ hat7; obtain ⟨ao, cp, rfl⟩ := own_sl hown7; have HAD := hide (HQ.out.add (i := j) HQ.out.be.size hgB HXX.out HUU.out hg7 hown7 hat7); have y0 := own_cell HAD.out.1 (k) _ HUU.out; have yf := own_free HAD.out.1 (k); clear hown7 hg7 hat7))
          go_roundw
          case rel => exact ⟨j + 1, R, O.modify k (· ++ [j]), vs.set k (.slice ao (x.length + 1) cp), by omega, by go_num, HNX.out, HAD.out.2⟩
          case measure => simp [intOf]; omega
        · have hnext := fam_new HFM.out HS.out (fun h => hmem (famIx_mem.2 h))
          rw [if_neg hmem] at hix
          obtain ⟨mz, hmz⟩ : ∃ mz : Int, -1 = mz := ⟨_, rfl⟩
          rw [hmz] at hix
          have hneg : mz < 0 := by omega
          have HIX := hide (fun W h => hix ▸ Index_str A8 R.length c8 (R.map kb2) ((⟨#[45]⟩ : ByteArray) ++ s) W (by omega) h)
          obtain ⟨O2, hO2⟩ : ∃ O2, O2 = O ++ [[]] := ⟨_, rfl⟩
          have HO2 := hide hO2
          obtain ⟨va, vc, rfl⟩ := own_sl HI.out.rows.out
          obtain ⟨vs2, hv2⟩ : ∃ vs2, vs2 = vs ++ [.slice none 0 0] := ⟨_, rfl⟩
          obtain ⟨x, hx0⟩ : ∃ x : List Nat, x = [] := ⟨_, rfl⟩
          rw [← hO2, HOL.out.1] at hnext
          have HV2 := hide hv2
          have HNX := hide hnext
          have HOL2 := hide (show O2.length = O.length + 1 by rw [hO2]; simp)
          have HXX := hide (show O2[R.length]? = some x by rw [hO2, hx0, ← HOL.out.1]; simp)
          have HUU := hide (show vs2[R.length]? = some (.slice none 0 0) by rw [hv2, ← HOL.out.1, ← HI.out.rows.len]; simp)
          have hxj : x.length ≤ j := by rw [hx0]; simp
          have hkI : (R.length : Int) < (O.length : Int) + 1 := by have := HOL.out.1; omega
          clear hnext hmem hO2 hv2 hx0 hix hmz
          go_wp2_with (first | (go_at_call 8; refine HD.out.mono ?_; rintro e w1 ⟨k9, cs9, rfl, hin, hw1⟩; obtain ⟨A1, n1, c1, A2, n2, c2, rfl, hr9⟩ := id hin; have HX1 := hide (heap_alloc_new w1 (.cells #[.slice A1 n1 c1, .slice A2 n2 c2] 25)); have hB1 := hw1.alloc hw1.size (.cells #[.slice A1 n1 c1, .slice A2 n2 c2] 25); have HI1 := hide (HI.out.below hz hB1); have HY1 := hide (hin.up (ref_alloc _ (.cells #[.slice A1 n1 c1, .slice A2 n2 c2] 25))); have x0 := (block_cell HX1.out 0).trans rfl; have x1 := (block_cell HX1.out 1).trans rfl; clear hw1 hr9 hin hB1) | (go_at_call 43; refine (HIX.out _ HI1.out.sl).mono ?_; rintro e w4 ⟨rfl, rfl⟩; have HQ := hide (HI1.out.below HI1.out.be.size (ref_alloc _ (.cells #[.string ((⟨#[45]⟩ : ByteArray) ++ s)] 9)))) | (at_builtin; refine wpList_append_own _ rfl (.tmp 40) (.tmp 42) 32 rfl w.heap.size 9 s0 (.string ByteArray.empty) 1 16 Tryd.underlying32 hs0 sz0 sz1 sz2 rfl (by decide) _ R.length _ rfl HQ.out.keys ⟨w1.heap.size + 1, 0, none⟩ 1 1 [.string ((⟨#[45]⟩ : ByteArray) ++ s)] (by rfl) rfl (cells_at _ [.string ((⟨#[45]⟩ : ByteArray) ++ s)] _ _ (by first | rfl | simp)) (by intro y hy; simp at hy; rcases hy with rfl; rfl) (by unfold maxLen; omega) (by omega) HQ.out.be.size ?_; intro v5 w5 hown5 hg5 _; obtain ⟨ak, ck, rfl⟩ := own_sl hown5; have HQ5 := hide (HQ.out.addkey HQ.out.be.size HKB2.out hg5 hown5); have HQ6 := hide (HQ5.out.below HQ5.out.be.size (ref_alloc _ (.cells #[.slice none 0 0] 37))); clear hown5 hg5) | (at_builtin; refine wpList_append_own _ rfl (.tmp 44) (.tmp 45) 33 rfl w.heap.size 37 j0 (.slice none 0 0) 1 24 Tryd.underlying33 hj0 jz0 jz1 jz2 rfl (by decide) _ O.length _ rfl HQ6.out.rows.out ⟨w5.heap.size, 0, none⟩ 1 1 [.slice none 0 0] (by rfl) rfl (cells_at _ [.slice none 0 0] _ _ (by first | rfl | simp)) (by intro y hy; simp at hy; rcases hy with rfl; rfl) (by unfold maxLen; omega) (by omega) HQ6.out.be.size ?_; intro v6 w6 hown6 hg6 _; obtain ⟨g, cap, cur, rfl, hgB, hgb, hgn, hgm, hgs, _⟩ := own_blk hown6 (by omega); have HQ7 := hide (show FrI w.heap.size (R ++ [s]) O2 vs2 w (.slice ak (R.length + 1) ck) (.slice (some ⟨g, 0, none⟩) O2.length cap) w6 from by (rw [HO2.out, HV2.out, List.length_append]); exact HQ6.out.push HQ6.out.be.size hg6 hown6); have u0 : w6.cell? ⟨g, R.length, none⟩ = some (.slice none 0 0) := own_cell HQ7.out.rows.out R.length _ HUU.out; have HQ := hide (HQ7.out.below HQ7.out.be.size (ref_alloc _ (.cells #[.int .i64 (j : Int)] 3))); have HRW := hide (HQ.out.rows.row R.length _ _ HXX.out HUU.out); clear hgs hgb hgn hown6 hg6) | (at_builtin; refine wpList_append_own_at _ rfl (.tmp 52) (.tmp 54) 37 rfl w.heap.size 3 i0 (.int .i64 0) 1 8 Tryd.underlying37 hi0 iz0 iz1 iz2 rfl (by decide) _ _ _ rfl HRW.out ⟨w6.heap.size, 0, none⟩ 1 1 [.int .i64 (j : Int)] (by rfl) rfl (cells_at _ [.int .i64 (j : Int)] _ _ (by first | rfl | simp)) (by intro y hy; simp at hy; rcases hy with rfl; rfl) (by unfold maxLen; omega) (by omega) HQ.out.be.size ?_; intro u' w7 hown7 hg7 _ hat7; obtain ⟨ao, cp, rfl⟩ := own_sl hown7; have HAD := hide (HQ.out.add (i := j) HQ.out.be.size hgB HXX.out HUU.out hg7 hown7 hat7); have y0 := own_cell HAD.out.1 (R.length) _ HUU.out; have yf := own_free HAD.out.1 (R.length); clear hown7 hg7 hat7))
          go_roundw
          case rel =>
            have hfin := HAD.out.2
            rw [HOL2.out] at hfin
            refine ⟨j + 1, R ++ [s], O2.modify R.length (· ++ [j]), vs2.set R.length (.slice ao (x.length + 1) cp), by omega, by go_num, HNX.out, hfin⟩
          case measure => simp [intOf]; omega
    · obtain rfl : j = n := by omega
      have HRS := hide hI.rows
      have HRB := hide hI.be
      have HFE := hide (show (fmly k2 l).2 = O by have h := HFM.out; rw [take_len l (by rw [HLN.out]; exact Nat.le_refl _)] at h; rw [h])
      clear hI
      go_wp2_with (fail)
      go_ret
      exact ⟨⟨_, _, rfl, by rw [HFE.out]; exact HRS.out⟩, HRB.out⟩
end Go.Proofs.YtecancnojdifaaaDoor
