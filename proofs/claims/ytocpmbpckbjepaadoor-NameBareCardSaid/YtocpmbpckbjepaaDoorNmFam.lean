/- Walk of the program's Families. -/
import Derived.Test.YtocpmbpckbjepaaDoorNmFmL
import Derived.Test.YtocpmbpckbjepaaDoorNmFmM
import Derived.Test.YtocpmbpckbjepaaDoorNmDmH
import Derived.Test.YtocpmbpckbjepaaDoorNmGA
import Derived.Deep.Onto
namespace Go.Proofs.YtocpmbpckbjepaaDoor
open Go.RowKit
set_option linter.unusedVariables false
set_option linter.unusedSimpArgs false
theorem info_intF : (Tryd.prog.info? 3).map (fun i => (i.zero, i.size, i.bytes)) = some (some (.int .i64 0), 1, 8) := by kernel_rfl
theorem info_rowF : (Tryd.prog.info? 40).map (fun i => (i.zero, i.size, i.bytes)) = some (some (.slice none 0 0), 1, 24) := by kernel_rfl
theorem grown_of_belowF {w w' : World} (h : Below w.heap.size w w') : w.grownBy w' none := ⟨h.os, h.tape, h.output, h.size, fun k hk _ => h.block k hk⟩
theorem map_madeF {H : Type} {P : Program} {k : TypeId} {R : Value → Option (DataW H × List MemPlace)} (w : World) (b : Nat) (D : DataW H) (hb : b = w.heap.size) (hD : D = .map [] := by rfl) : (w.alloc (.map #[] 0)).ownsMap P k R b 0 D := by
  subst hb; subst hD; exact World.ownsMap_made w P k R
theorem ownsMap_setF {H : Type} {P : Program} {k : TypeId} {R : Value → Option (DataW H × List MemPlace)} {b n : Nat} {D : DataW H} {w : World} (h : w.ownsMap P k R b n D) (a : Addr) (u : Value) (hne : b ≠ a.block) : (w.setCell a u).ownsMap P k R b n D := by
  obtain ⟨es, ck, h1, h2⟩ := h
  exact ⟨es, ck, (heap_setCell_other w a b u hne).trans h1, h2⟩
theorem Tab10.upF {W W' : World} (h : Tab10 W.heap.size W) (hb : Below W.heap.size W W') : Tab10 W'.heap.size W' := ⟨(h.below hb).1, fun g hg => Nat.lt_of_lt_of_le (h.2 g hg) hb.size⟩
/-- What Families has in memory when j strings are done. -/
structure FaI (B : Nat) (R : List ByteArray) (O : List (List Nat)) (vs : List Value) (w0 : World) (v : Value) (w : World) : Prop where
  map_ : w.ownsMap (H := Unit) Tryd.prog 9 (plainElem Tryd.prog 3) B R.length (idxD (R.map k1))
  rows : Fm 40 3 w (B + 1) v vs O
  be : Below B w0 w
theorem FaI.below {B : Nat} {R : List ByteArray} {O : List (List Nat)} {vs : List Value} {w0 w w' : World} {v : Value} (h : FaI B R O vs w0 v w) (hB : B ≤ w.heap.size) (hb : Below w.heap.size w w') : FaI B R O vs w0 v w' :=
  ⟨h.map_.kept (grown_of_belowF hb) (by simp), h.rows.below hb, h.be.trans (hb.mono hB)⟩
theorem ref_alloc (w : World) (o : Obj) : Below w.heap.size w (w.alloc o) := (Below.refl _ _).alloc (Nat.le_refl _) o
theorem toL_cons (s : ByteArray) (c : UInt8) : ((⟨#[c]⟩ : ByteArray) ++ s).data.toList = c :: s.data.toList := by simp [ByteArray.data_append]
theorem size_cons (s : ByteArray) (c : UInt8) : ((⟨#[c]⟩ : ByteArray) ++ s).size = 1 + s.size := by rw [ByteArray.size_append]; rfl
theorem arr_toL (l : List UInt8) : (⟨l.toArray⟩ : ByteArray).data.toList = l := rfl
/-- What a step does, where the family is known; where it is new. -/
theorem fam_old {K : ByteArray → List UInt8} {l : List ByteArray} {j : Nat} {s : ByteArray} {R : List ByteArray} {O : List (List Nat)} (hf : fmly K (l.take j) = (R, O)) (hs : l[j]? = some s) (h : K s ∈ R.map K) :
    ∃ k x, k < R.length ∧ ((R.map K)[k]? = some (K s)) ∧ O[k]? = some x ∧ x.length ≤ j ∧ fmly K (l.take (j + 1)) = (R, O.modify k (· ++ [j])) := by
  have hk := famIx_mem.2 h
  obtain ⟨r, hr, e⟩ := famIx_lt hk
  have ho := fam_ok_take K l j (by have := (List.getElem?_eq_some_iff.1 hs).1; omega)
  rw [hf] at ho
  have hk2 : famIx K R s < O.length := by rw [ho.len]; exact hk
  refine ⟨_, _, hk, by rw [List.getElem?_map, hr]; simp [e], List.getElem?_eq_getElem hk2, ho.rows _ (List.getElem_mem hk2), ?_⟩
  rw [fam_take K hs, hf, famStep, if_pos hk]
theorem fam_new {K : ByteArray → List UInt8} {l : List ByteArray} {j : Nat} {s : ByteArray} {R : List ByteArray} {O : List (List Nat)} (hf : fmly K (l.take j) = (R, O)) (hs : l[j]? = some s) (h : K s ∉ R.map K) :
    fmly K (l.take (j + 1)) = (R ++ [s], (O ++ [[]]).modify O.length (· ++ [j])) := by
  rw [fam_take K hs, hf, famStep, if_neg (fun hk => h (famIx_mem.1 hk))]
  congr 1
  apply List.ext_getElem?
  intro i
  rw [List.getElem?_modify]
  by_cases h1 : i < O.length
  · rw [List.getElem?_append_left h1, List.getElem?_append_left h1]
    simp [show ¬ O.length = i by omega]
  · by_cases h2 : i = O.length
    · subst h2; simp
    · rw [List.getElem?_eq_none (by simp; omega), List.getElem?_eq_none (by simp; omega)]; rfl
set_option maxRecDepth 100000 in
set_option maxHeartbeats 16000000 in
theorem Families_any (A : Option Addr) (n c : Nat) (l : List ByteArray) (w : World) (hn : n ≤ 2000) (hl : Sl w w.heap.size cs 1 A n l) (hs : ∀ s ∈ l, s.size ≤ reachBytes) (htb : Tab10 w.heap.size w) :
    Calls Tryd.prog 9 #[.slice A n c] w fun e w' => (∃ v vs, e = .returned (.tuple #[v, .int .i64 0]) ∧ Fm 40 3 w' (w.heap.size + 1) v vs (fmly k1 l).2) ∧ Below w.heap.size w w' := by
  have hrb : reachBytes < 140737488355328 := reachBytes_lt
  obtain ⟨i0, hi0, iz0, iz1, iz2⟩ := info_parts info_intF
  obtain ⟨j0, hj0, jz0, jz1, jz2⟩ := info_parts info_rowF
  have HLN := hide hl.len
  have HSL := hide hl
  have HST := hide hs
  have HT := hide htb
  clear hl hs htb
  have hmm := @run_makeMap Tryd.prog
  go_enter Tryd.func9, Tryd.ntmps9
  go_wp2_with (fail)
  clear hmm
  go_loopw [5, 22] (fun v i wr => ∃ (j : Nat) (R : List ByteArray) (O : List (List Nat)) (vs : List Value), j ≤ n ∧ i = .int .i64 j ∧ fmly k1 (l.take j) = (R, O) ∧ FaI w.heap.size R O vs w v wr) (fun _ i _ => n - (intOf i).toNat)
  case atStart => exact ⟨0, [], [], [], Nat.zero_le _, rfl, rfl, ⟨map_madeF _ _ _ rfl, Fm.nil _ _, (Below.refl _ _).alloc (Nat.le_refl _) _⟩⟩
  case round =>
    obtain ⟨j, R, O, vs, hj, rfl, hfm, hI⟩ := hrel
    have hz := hI.be.size
    have HFM := hide hfm
    have HOK := hide (show FamOk k1 j (R, O) by rw [← hfm]; exact fam_ok_take k1 l j (by rw [HLN.out]; exact hj))
    clear hfm
    by_cases hlt : j < n
    · obtain ⟨bb, oo, s, rfl, hbb, hx0, hc⟩ := (HSL.out.below hI.be).at_ hlt
      have c0 : wr.cell? ⟨bb, oo + j, none⟩ = some (.string s) := by simpa using hc 0 _ rfl
      have hss : s.size ≤ reachBytes := HST.out _ (List.mem_of_getElem? hx0)
      have HI := hide hI
      have HS := hide hx0
      have HD := hide (Demangle_any s wr (by unfold maxLen; omega) (HT.out.upF hI.be))
      have HOL := hide (show O.length = R.length ∧ R.length ≤ j from ⟨HOK.out.len, HOK.out.most⟩)
      clear hI hc hx0
      obtain ⟨E, hE⟩ : ∃ E, dmE s = E := ⟨_, rfl⟩
      obtain ⟨N, hN⟩ : ∃ N, dmN s = N := ⟨_, rfl⟩
      by_cases h0 : E = 0
      · skip
        have hG := hide (sym_good (dmY_good (hE.trans h0)))
        obtain ⟨y, hy⟩ : ∃ y, dmY s = y := ⟨_, rfl⟩
        have HK := hide (show k1 s = kO y by rw [k1, if_pos (hE.trans h0), hy])
        rw [hE, hN, hy, h0] at HD
        rw [hy] at hG
        have hg20 := hG.out.2.2.1
        clear hE hN hy h0
        go_wp2_with (first | (go_at_call 12; refine HD.out.mono ?_; rintro e w1 ⟨k9, cs9, rfl, hin, hw1⟩; obtain ⟨A1, n1, c1, A2, n2, c2, rfl, hr9⟩ := id hin; have HX1 := hide (heap_alloc_new w1 (.cells #[.slice A1 n1 c1, .slice A2 n2 c2] 25)); have hB1 := hw1.alloc hw1.size (.cells #[.slice A1 n1 c1, .slice A2 n2 c2] 25); have HI1 := hide (HI.out.below hz hB1); have HY1 := hide (hin.up ((Below.refl _ _).alloc (Nat.le_refl _) (.cells #[.slice A1 n1 c1, .slice A2 n2 c2] 25))); have HMP := hide HI1.out.map_; have HBE0 := hide HI1.out.be; have HB1 := hide hB1; clear hw1 hr9 hin hB1))
        obtain ⟨A3, n3, c3, A4, n4, c4, he9, hn3, hm3, hn4, hm4, hp3, _⟩ := HY1.out
        simp only [List.cons.injEq, Value.slice.injEq, and_true] at he9
        obtain ⟨⟨rfl, rfl, rfl⟩, rfl, rfl, rfl⟩ := he9
        have HP := hide hp3
        have hlen := hp3.len
        rw [hlen] at hg20
        have x0 := (block_cell HX1.out 0).trans rfl
        obtain ⟨wz, hwz⟩ : ∃ wz, w1.alloc (.cells #[.slice A1 n1 c1, .slice A2 n2 c2] 25) = wz := ⟨_, rfl⟩
        rw [hwz] at HX1 HI1 HMP HBE0 HP HB1 x0 ⊢
        clear HY1 hp3 hwz HMP HBE0
        unfold maxLen at hm3
        have hz1 := HI1.out.be.size
        go_wp2_with (fail)
        obtain ⟨wp, hwp⟩ : ∃ wp : World, wp = wr := ⟨_, rfl⟩
        subst hwp
        go_loopw [8, 40] (fun kv i wr => ∃ (q : Nat) (kb : ByteArray), q ≤ n1 ∧ i = .int .i64 q ∧ kv = .string kb ∧ kb.data.toList = ((y.name.take q).flatMap fun p => 46 :: p.1.data.toList) ∧ kb.size ≤ 61 * q ∧ Below wz.heap.size wz wr) (fun _ i _ => n1 - (intOf i).toNat)
        case atStart => exact ⟨0, ByteArray.empty, Nat.zero_le _, rfl, rfl, rfl, Nat.le_refl _, Below.refl _ _⟩
        case round =>
          obtain ⟨q, kb, hq, rfl, rfl, hkb, hkz, hB9⟩ := hrel
          have HKB0 := hide hkb
          have HB9 := hide hB9
          have hz9 := hB9.size
          clear hkb hB9
          by_cases hlt9 : q < n1
          · obtain ⟨pb, po, p, pcs, rfl, hpb, hpx, hpin, hpc⟩ := (parts_below HP.out HB9.out).at_ hlt9
            obtain ⟨A5, n5, q5, rfl, hps, hn5, hm5, _⟩ := hpin
            have d0 : wr.cell? ⟨pb, po + q * 2, none⟩ = some (.string p.1) := by simpa using hpc 0 _ rfl
            have d1 : wr.cell? ⟨pb, po + q * 2 + 1, none⟩ = some (.slice A5 n5 q5) := hpc 1 _ rfl
            have h60 := (hG.out.1 p (List.mem_of_getElem? hpx)).1
            have HTK := hide (take_succ_get hpx)
            clear hpx hpc
            go_wp2_with (fail)
            go_roundw
            case rel =>
              refine ⟨q + 1, kb ++ ((⟨#[46]⟩ : ByteArray) ++ p.1), by omega, by go_num, rfl, ?_, ?_, HB9.out.trans ((ref_alloc _ _).mono hz9)⟩
              · rw [HTK.out, List.flatMap_append, ByteArray.data_append, Array.toList_append, HKB0.out, toL_cons]; simp
              · rw [ByteArray.size_append, size_cons]; omega
            case measure => simp [intOf]; omega
          · obtain rfl : q = n1 := by omega
            have HKB := hide (show kb.data.toList = k1 s by rw [HK.out, HKB0.out, take_len y.name (by rw [HP.out.len]; exact Nat.le_refl _)]; rfl)
            have hks : kb.size ≤ maxLen := by unfold maxLen; omega
            have HKY := hide (key_ofD kb hks)
            have HI1 := hide (HI1.out.below hz1 HB9.out)
            have HMP := hide HI1.out.map_
            have HBE0 := hide HI1.out.be
            clear HP hlen HK HKB0 x0 HX1
            by_cases hmem : k1 s ∈ R.map k1
            · obtain ⟨k, x, hk, hkey, hx, hxj, hnext⟩ := fam_old HFM.out HS.out hmem
              have HHAS := hide (show Maps.has (idxD (R.map k1)) (.string (kb).data.toList) = true by rw [idxD_has, HKB.out]; exact List.contains_iff_mem.2 hmem)
              have HAT := hide (show ∀ c : Int, (idxD (R.map k1)).atKey (.string (kb).data.toList) (.lit (.int .i64 0)) = .lit (.int .i64 c) → c = (k : Int) from fun c h => by (rw [HKB.out, idxD_at _ _ _ HOK.out.nodup k hkey] at h); injection h with h; injection h with h1 h2; exact h2.symm)
              have HNX := hide hnext
              have hkO : k < O.length := by have := HOL.out; omega
              have hOj : O.length ≤ j := by have := HOL.out; omega
              have hF := HI.out.rows
              obtain ⟨u, hu⟩ : ∃ u, vs[k]? = some u := ⟨_, List.getElem?_eq_getElem (by rw [hF.len]; exact hkO)⟩
              obtain ⟨g, cap, cur, rfl, hgB, hgb, hgn, hgm, hgs, _⟩ := own_blk hF.out (by omega)
              have HF := hide hF
              have HUU := hide hu
              have HXX := hide hx
              have hkI : (k : Int) < (O.length : Int) := by omega
              have hgne : w.heap.size ≠ g := by omega
              have HGN := hide hgne
              clear hF hnext hkey hgs hgb hu hx hmem hgne hgn
              go_wp2_with (first | (at_lookup; refine Go.wpList_lookup_own_ok_int _ rfl _ _ 49 rfl 9 3 .i64 law_strD Tryd.underlying49 Tryd.underlying3 (zero_intD _) w.heap.size _ _ rfl HMP.out (.string (kb)) _ rfl HKY.out ?_; intro c hat hwc; have HF1 := hide HI1.out.rows; have u0 := own_cell HF1.out.out k _ HUU.out; have HRW := hide (HF1.out.row k _ _ HXX.out HUU.out); have HF2 := hide (HF1.out.below ((Below.refl _ _).alloc (Nat.le_refl _) (.cells #[.int .i64 (j : Int)] 3))); have HBE := hide (HBE0.out.alloc HBE0.out.size (.cells #[.int .i64 (j : Int)] 3)); have HMQ := hide (HMP.out.kept (grown_of_belowF ((Below.refl _ _).alloc (Nat.le_refl _) (.cells #[.int .i64 (j : Int)] 3))) (by simp)); obtain rfl := HAT.out c hat; rw [HHAS.out]) | (at_builtin; refine wpList_append_own_at _ rfl (.tmp 71) (.tmp 73) 40 rfl (w.heap.size + 1) 3 i0 (.int .i64 0) 1 8 Tryd.underlying40 hi0 iz0 iz1 iz2 rfl (by decide) _ _ _ rfl (HRW.out.alloc _) ⟨wr.heap.size, 0, none⟩ 1 1 [.int .i64 (j : Int)] (by rfl) rfl (cells_at _ [.int .i64 (j : Int)] _ _ (by first | rfl | simp)) (by intro y hy; simp at hy; rcases hy with rfl; rfl) (by unfold maxLen; omega) (by omega) (by have := World.ownsMap.lt HMQ.out; omega) ?_; intro u' w5 hown5 hg5 _ hat5; obtain ⟨ao, cp, rfl⟩ := own_sl hown5; have HAD := hide (HF2.out.add (i := j) (by decide) HXX.out HUU.out hg5 hown5 hat5); have y0 := own_cell HAD.out.1 (k) _ HUU.out; have yf := own_free HAD.out.1 (k); have HB5 := hide (HBE.out.grown hg5 HBE.out.size (fun b hb => by have := (HRW.out.lt b hb).1; omega)); have HM5 := hide (HMQ.out.kept hg5 (fun e => by have := (HRW.out.lt _ e.symm).1; omega)); clear hown5 hg5 hat5))
              go_roundw
              case rel => exact ⟨j + 1, R, O.modify k (· ++ [j]), vs.set k (.slice ao (x.length + 1) cp), by omega, by go_num, HNX.out, ⟨ownsMap_setF HM5.out _ _ HGN.out, HAD.out.2, HB5.out.setCell (p := ⟨g, k, none⟩) (by show w.heap.size ≤ g; omega) _⟩⟩
              case measure => simp [intOf]; omega
            · have hnext := fam_new HFM.out HS.out hmem
              have HHAS := hide (show Maps.has (idxD (R.map k1)) (.string (kb).data.toList) = false by rw [idxD_has, HKB.out, Bool.eq_false_iff]; exact fun h => hmem (List.contains_iff_mem.1 h))
              have hOj : O.length ≤ j := by have := HOL.out; omega
              have hRj : R.length ≤ j := by have := HOL.out; omega
              obtain ⟨O2, hO2⟩ : ∃ O2, O2 = O ++ [[]] := ⟨_, rfl⟩
              obtain ⟨vs2, hv2⟩ : ∃ vs2, vs2 = vs ++ [.slice none 0 0] := ⟨_, rfl⟩
              obtain ⟨x, hx0⟩ : ∃ x : List Nat, x = [] := ⟨_, rfl⟩
              rw [← hO2] at hnext
              have HO2 := hide hO2
              obtain ⟨va, vc, rfl⟩ := own_sl HI.out.rows.out
              have HV2 := hide hv2
              have HNX := hide hnext
              have HOL2 := hide (show O2.length = O.length + 1 by rw [hO2]; simp)
              have HXX := hide (show O2[O.length]? = some x by rw [hO2, hx0]; simp)
              have HUU := hide (show vs2[O.length]? = some (.slice none 0 0) by rw [hv2, ← HI.out.rows.len]; simp)
              have hxj : x.length ≤ j := by rw [hx0]; simp
              have hkI : (O.length : Int) < (O.length : Int) + 1 := by omega
              have hwf : (Lit.int .i64 (O.length : Int)).wf = true := by
                rw [Lit.wf]
                simp only [Bool.and_eq_true, decide_eq_true_eq]
                exact ⟨show (-9223372036854775808 : Int) ≤ _ by omega, show _ ≤ (9223372036854775807 : Int) by omega⟩
              clear hnext hmem hO2 hv2 hx0
              go_wp2_with (first | (at_lookup; refine Go.wpList_lookup_own_ok_int _ rfl _ _ 49 rfl 9 3 .i64 law_strD Tryd.underlying49 Tryd.underlying3 (zero_intD _) w.heap.size _ _ rfl HMP.out (.string (kb)) _ rfl HKY.out ?_; intro c hat hwc;  rw [HHAS.out]) | (at_mapUpdate; refine wpList_mapUpdate_own _ rfl _ _ _ 49 rfl 9 3 law_strD Tryd.underlying49 _ w.heap.size R.length _ rfl HMP.out (by unfold maxLen; omega) _ _ _ rfl rfl HKY.out _ [] (Go.plainElem_int Tryd.underlying3 hwf) ?_; intro w2 hown2 hg2; have HM2 := hide hown2; have HF2a := hide ((HI1.out.rows.step hg2 (by omega)).below ((Below.refl _ _).alloc (Nat.le_refl _) (.cells #[.slice none 0 0] 40))); have HE2 := hide ((HBE0.out.grown hg2 HBE0.out.size (fun b hb => by cases hb; omega)).alloc (HBE0.out.grown hg2 HBE0.out.size (fun b hb => by cases hb; omega)).size (.cells #[.slice none 0 0] 40)); have HMA := hide (HM2.out.kept (grown_of_belowF ((Below.refl _ _).alloc (Nat.le_refl _) (.cells #[.slice none 0 0] 40))) (by simp)); clear hown2 hg2) | (at_builtin; refine wpList_append_own _ rfl (.tmp 63) (.tmp 64) 34 rfl (w.heap.size + 1) 40 j0 (.slice none 0 0) 1 24 Tryd.underlying34 hj0 jz0 jz1 jz2 rfl (by decide) _ O.length _ rfl HF2a.out.out ⟨w2.heap.size, 0, none⟩ 1 1 [.slice none 0 0] (by rfl) rfl (cells_at _ [.slice none 0 0] _ _ (by first | rfl | simp)) (by intro y hy; simp at hy; rcases hy with rfl; rfl) (by unfold maxLen; omega) (by omega) (by have := World.ownsMap.lt HMA.out; omega) ?_; intro v3 w3 hown3 hg3 _; obtain ⟨g, cap, cur, rfl, hgB, hgb, hgn, hgm, hgs, _⟩ := own_blk hown3 (by omega); have HF3 := hide (show Fm 40 3 w3 (w.heap.size + 1) (.slice (some ⟨g, 0, none⟩) O2.length cap) vs2 O2 from by (rw [HO2.out, HV2.out, List.length_append]); exact HF2a.out.push (by decide) hg3 hown3); have HE3 := hide (HE2.out.grown hg3 HE2.out.size (fun b hb => by have := (HF2a.out.out.lt b hb).1; omega)); have HMB := hide (HMA.out.kept hg3 (fun e => by have := (HF2a.out.out.lt _ e.symm).1; omega)); have HGN := hide (show w.heap.size ≠ g by omega); have hgB2 : w.heap.size ≤ g := (by omega); have u0 : w3.cell? ⟨g, O.length, none⟩ = some (.slice none 0 0) := own_cell HF3.out.out O.length _ HUU.out; have HRW := hide (HF3.out.row O.length _ _ HXX.out HUU.out); have HF2 := hide (HF3.out.below ((Below.refl _ _).alloc (Nat.le_refl _) (.cells #[.int .i64 (j : Int)] 3))); have HBE := hide (HE3.out.alloc HE3.out.size (.cells #[.int .i64 (j : Int)] 3)); have HMQ := hide (HMB.out.kept (grown_of_belowF ((Below.refl _ _).alloc (Nat.le_refl _) (.cells #[.int .i64 (j : Int)] 3))) (by simp)); clear hgs hgb hgn hown3 hg3) | (at_builtin; refine wpList_append_own_at _ rfl (.tmp 71) (.tmp 73) 40 rfl (w.heap.size + 1) 3 i0 (.int .i64 0) 1 8 Tryd.underlying40 hi0 iz0 iz1 iz2 rfl (by decide) _ _ _ rfl (HRW.out.alloc _) ⟨w3.heap.size, 0, none⟩ 1 1 [.int .i64 (j : Int)] (by rfl) rfl (cells_at _ [.int .i64 (j : Int)] _ _ (by first | rfl | simp)) (by intro y hy; simp at hy; rcases hy with rfl; rfl) (by unfold maxLen; omega) (by omega) (by have := World.ownsMap.lt HMQ.out; omega) ?_; intro u' w5 hown5 hg5 _ hat5; obtain ⟨ao, cp, rfl⟩ := own_sl hown5; have HAD := hide (HF2.out.add (i := j) (by decide) HXX.out HUU.out hg5 hown5 hat5); have y0 := own_cell HAD.out.1 (O.length) _ HUU.out; have yf := own_free HAD.out.1 (O.length); have HB5 := hide (HBE.out.grown hg5 HBE.out.size (fun b hb => by have := (HRW.out.lt b hb).1; omega)); have HM5 := hide (HMQ.out.kept hg5 (fun e => by have := (HRW.out.lt _ e.symm).1; omega)); clear hown5 hg5 hat5))
              go_roundw
              case rel =>
                have hfin := HAD.out.2
                rw [HOL2.out] at hfin
                refine ⟨j + 1, R ++ [s], O2.modify O.length (· ++ [j]), vs2.set O.length (.slice ao (x.length + 1) cp), by omega, by go_num, HNX.out, ⟨ownsMap_setF ?_ _ _ HGN.out, hfin, HB5.out.setCell (p := ⟨g, O.length, none⟩) (by show w.heap.size ≤ g; omega) _⟩⟩
                have hm := HM5.out
                rw [HKB.out] at hm
                rw [List.length_append, List.map_append, show ([s].map k1) = [k1 s] from rfl, idxD_snoc, List.length_map, ← HOL.out.1]
                exact (by rw [HOL.out.1] at hm ⊢; exact hm)
              case measure => simp [intOf]; omega
      · have hE' : (E == 0) = false := by simpa using h0
        have HKB := hide (show ((⟨#[61]⟩ : ByteArray) ++ s).data.toList = k1 s by rw [toL_cons, k1, if_neg (by rw [hE]; exact h0)])
        have hks : ((⟨#[61]⟩ : ByteArray) ++ s).size ≤ maxLen := by rw [size_cons]; unfold maxLen; omega
        have HKY := hide (key_ofD ((⟨#[61]⟩ : ByteArray) ++ s) hks)
        rw [hE, hN] at HD
        clear hE hN h0
        by_cases hmem : k1 s ∈ R.map k1
        · obtain ⟨k, x, hk, hkey, hx, hxj, hnext⟩ := fam_old HFM.out HS.out hmem
          have HHAS := hide (show Maps.has (idxD (R.map k1)) (.string ((⟨#[61]⟩ : ByteArray) ++ s).data.toList) = true by rw [idxD_has, HKB.out]; exact List.contains_iff_mem.2 hmem)
          have HAT := hide (show ∀ c : Int, (idxD (R.map k1)).atKey (.string ((⟨#[61]⟩ : ByteArray) ++ s).data.toList) (.lit (.int .i64 0)) = .lit (.int .i64 c) → c = (k : Int) from fun c h => by (rw [HKB.out, idxD_at _ _ _ HOK.out.nodup k hkey] at h); injection h with h; injection h with h1 h2; exact h2.symm)
          have HNX := hide hnext
          have hkO : k < O.length := by have := HOL.out; omega
          have hOj : O.length ≤ j := by have := HOL.out; omega
          have hF := HI.out.rows
          obtain ⟨u, hu⟩ : ∃ u, vs[k]? = some u := ⟨_, List.getElem?_eq_getElem (by rw [hF.len]; exact hkO)⟩
          obtain ⟨g, cap, cur, rfl, hgB, hgb, hgn, hgm, hgs, _⟩ := own_blk hF.out (by omega)
          have HF := hide hF
          have HUU := hide hu
          have HXX := hide hx
          have hkI : (k : Int) < (O.length : Int) := by omega
          have hgne : w.heap.size ≠ g := by omega
          have HGN := hide hgne
          clear hF hnext hkey hgs hgb hu hx hmem hgne hgn
          go_wp2_with (first | (go_at_call 12; refine HD.out.mono ?_; rintro e w1 ⟨k9, cs9, rfl, hin, hw1⟩; obtain ⟨A1, n1, c1, A2, n2, c2, rfl, hr9⟩ := id hin; have HX1 := hide (heap_alloc_new w1 (.cells #[.slice A1 n1 c1, .slice A2 n2 c2] 25)); have hB1 := hw1.alloc hw1.size (.cells #[.slice A1 n1 c1, .slice A2 n2 c2] 25); have HI1 := hide (HI.out.below hz hB1); have HY1 := hide (hin.up ((Below.refl _ _).alloc (Nat.le_refl _) (.cells #[.slice A1 n1 c1, .slice A2 n2 c2] 25))); have HMP := hide HI1.out.map_; have HBE0 := hide HI1.out.be; have HB1 := hide hB1; clear hw1 hr9 hin hB1) | (at_lookup; refine Go.wpList_lookup_own_ok_int _ rfl _ _ 49 rfl 9 3 .i64 law_strD Tryd.underlying49 Tryd.underlying3 (zero_intD _) w.heap.size _ _ rfl HMP.out (.string ((⟨#[61]⟩ : ByteArray) ++ s)) _ rfl HKY.out ?_; intro c hat hwc; have HF1 := hide HI1.out.rows; have u0 := own_cell HF1.out.out k _ HUU.out; have HRW := hide (HF1.out.row k _ _ HXX.out HUU.out); have HF2 := hide (HF1.out.below ((Below.refl _ _).alloc (Nat.le_refl _) (.cells #[.int .i64 (j : Int)] 3))); have HBE := hide (HBE0.out.alloc HBE0.out.size (.cells #[.int .i64 (j : Int)] 3)); have HMQ := hide (HMP.out.kept (grown_of_belowF ((Below.refl _ _).alloc (Nat.le_refl _) (.cells #[.int .i64 (j : Int)] 3))) (by simp)); obtain rfl := HAT.out c hat; rw [HHAS.out]) | (at_builtin; refine wpList_append_own_at _ rfl (.tmp 71) (.tmp 73) 40 rfl (w.heap.size + 1) 3 i0 (.int .i64 0) 1 8 Tryd.underlying40 hi0 iz0 iz1 iz2 rfl (by decide) _ _ _ rfl (HRW.out.alloc _) ⟨w1.heap.size + 1, 0, none⟩ 1 1 [.int .i64 (j : Int)] (by rfl) rfl (cells_at _ [.int .i64 (j : Int)] _ _ (by first | rfl | simp)) (by intro y hy; simp at hy; rcases hy with rfl; rfl) (by unfold maxLen; omega) (by omega) (by have := World.ownsMap.lt HMQ.out; omega) ?_; intro u' w5 hown5 hg5 _ hat5; obtain ⟨ao, cp, rfl⟩ := own_sl hown5; have HAD := hide (HF2.out.add (i := j) (by decide) HXX.out HUU.out hg5 hown5 hat5); have y0 := own_cell HAD.out.1 (k) _ HUU.out; have yf := own_free HAD.out.1 (k); have HB5 := hide (HBE.out.grown hg5 HBE.out.size (fun b hb => by have := (HRW.out.lt b hb).1; omega)); have HM5 := hide (HMQ.out.kept hg5 (fun e => by have := (HRW.out.lt _ e.symm).1; omega)); clear hown5 hg5 hat5))
          go_roundw
          case rel => exact ⟨j + 1, R, O.modify k (· ++ [j]), vs.set k (.slice ao (x.length + 1) cp), by omega, by go_num, HNX.out, ⟨ownsMap_setF HM5.out _ _ HGN.out, HAD.out.2, HB5.out.setCell (p := ⟨g, k, none⟩) (by show w.heap.size ≤ g; omega) _⟩⟩
          case measure => simp [intOf]; omega
        · have hnext := fam_new HFM.out HS.out hmem
          have HHAS := hide (show Maps.has (idxD (R.map k1)) (.string ((⟨#[61]⟩ : ByteArray) ++ s).data.toList) = false by rw [idxD_has, HKB.out, Bool.eq_false_iff]; exact fun h => hmem (List.contains_iff_mem.1 h))
          have hOj : O.length ≤ j := by have := HOL.out; omega
          have hRj : R.length ≤ j := by have := HOL.out; omega
          obtain ⟨O2, hO2⟩ : ∃ O2, O2 = O ++ [[]] := ⟨_, rfl⟩
          obtain ⟨vs2, hv2⟩ : ∃ vs2, vs2 = vs ++ [.slice none 0 0] := ⟨_, rfl⟩
          obtain ⟨x, hx0⟩ : ∃ x : List Nat, x = [] := ⟨_, rfl⟩
          rw [← hO2] at hnext
          have HO2 := hide hO2
          obtain ⟨va, vc, rfl⟩ := own_sl HI.out.rows.out
          have HV2 := hide hv2
          have HNX := hide hnext
          have HOL2 := hide (show O2.length = O.length + 1 by rw [hO2]; simp)
          have HXX := hide (show O2[O.length]? = some x by rw [hO2, hx0]; simp)
          have HUU := hide (show vs2[O.length]? = some (.slice none 0 0) by rw [hv2, ← HI.out.rows.len]; simp)
          have hxj : x.length ≤ j := by rw [hx0]; simp
          have hkI : (O.length : Int) < (O.length : Int) + 1 := by omega
          have hwf : (Lit.int .i64 (O.length : Int)).wf = true := by
            rw [Lit.wf]
            simp only [Bool.and_eq_true, decide_eq_true_eq]
            exact ⟨show (-9223372036854775808 : Int) ≤ _ by omega, show _ ≤ (9223372036854775807 : Int) by omega⟩
          clear hnext hmem hO2 hv2 hx0
          go_wp2_with (first | (go_at_call 12; refine HD.out.mono ?_; rintro e w1 ⟨k9, cs9, rfl, hin, hw1⟩; obtain ⟨A1, n1, c1, A2, n2, c2, rfl, hr9⟩ := id hin; have HX1 := hide (heap_alloc_new w1 (.cells #[.slice A1 n1 c1, .slice A2 n2 c2] 25)); have hB1 := hw1.alloc hw1.size (.cells #[.slice A1 n1 c1, .slice A2 n2 c2] 25); have HI1 := hide (HI.out.below hz hB1); have HY1 := hide (hin.up ((Below.refl _ _).alloc (Nat.le_refl _) (.cells #[.slice A1 n1 c1, .slice A2 n2 c2] 25))); have HMP := hide HI1.out.map_; have HBE0 := hide HI1.out.be; have HB1 := hide hB1; clear hw1 hr9 hin hB1) | (at_lookup; refine Go.wpList_lookup_own_ok_int _ rfl _ _ 49 rfl 9 3 .i64 law_strD Tryd.underlying49 Tryd.underlying3 (zero_intD _) w.heap.size _ _ rfl HMP.out (.string ((⟨#[61]⟩ : ByteArray) ++ s)) _ rfl HKY.out ?_; intro c hat hwc;  rw [HHAS.out]) | (at_mapUpdate; refine wpList_mapUpdate_own _ rfl _ _ _ 49 rfl 9 3 law_strD Tryd.underlying49 _ w.heap.size R.length _ rfl HMP.out (by unfold maxLen; omega) _ _ _ rfl rfl HKY.out _ [] (Go.plainElem_int Tryd.underlying3 hwf) ?_; intro w2 hown2 hg2; have HM2 := hide hown2; have HF2a := hide ((HI1.out.rows.step hg2 (by omega)).below ((Below.refl _ _).alloc (Nat.le_refl _) (.cells #[.slice none 0 0] 40))); have HE2 := hide ((HBE0.out.grown hg2 HBE0.out.size (fun b hb => by cases hb; omega)).alloc (HBE0.out.grown hg2 HBE0.out.size (fun b hb => by cases hb; omega)).size (.cells #[.slice none 0 0] 40)); have HMA := hide (HM2.out.kept (grown_of_belowF ((Below.refl _ _).alloc (Nat.le_refl _) (.cells #[.slice none 0 0] 40))) (by simp)); clear hown2 hg2) | (at_builtin; refine wpList_append_own _ rfl (.tmp 63) (.tmp 64) 34 rfl (w.heap.size + 1) 40 j0 (.slice none 0 0) 1 24 Tryd.underlying34 hj0 jz0 jz1 jz2 rfl (by decide) _ O.length _ rfl HF2a.out.out ⟨w2.heap.size, 0, none⟩ 1 1 [.slice none 0 0] (by rfl) rfl (cells_at _ [.slice none 0 0] _ _ (by first | rfl | simp)) (by intro y hy; simp at hy; rcases hy with rfl; rfl) (by unfold maxLen; omega) (by omega) (by have := World.ownsMap.lt HMA.out; omega) ?_; intro v3 w3 hown3 hg3 _; obtain ⟨g, cap, cur, rfl, hgB, hgb, hgn, hgm, hgs, _⟩ := own_blk hown3 (by omega); have HF3 := hide (show Fm 40 3 w3 (w.heap.size + 1) (.slice (some ⟨g, 0, none⟩) O2.length cap) vs2 O2 from by (rw [HO2.out, HV2.out, List.length_append]); exact HF2a.out.push (by decide) hg3 hown3); have HE3 := hide (HE2.out.grown hg3 HE2.out.size (fun b hb => by have := (HF2a.out.out.lt b hb).1; omega)); have HMB := hide (HMA.out.kept hg3 (fun e => by have := (HF2a.out.out.lt _ e.symm).1; omega)); have HGN := hide (show w.heap.size ≠ g by omega); have hgB2 : w.heap.size ≤ g := (by omega); have u0 : w3.cell? ⟨g, O.length, none⟩ = some (.slice none 0 0) := own_cell HF3.out.out O.length _ HUU.out; have HRW := hide (HF3.out.row O.length _ _ HXX.out HUU.out); have HF2 := hide (HF3.out.below ((Below.refl _ _).alloc (Nat.le_refl _) (.cells #[.int .i64 (j : Int)] 3))); have HBE := hide (HE3.out.alloc HE3.out.size (.cells #[.int .i64 (j : Int)] 3)); have HMQ := hide (HMB.out.kept (grown_of_belowF ((Below.refl _ _).alloc (Nat.le_refl _) (.cells #[.int .i64 (j : Int)] 3))) (by simp)); clear hgs hgb hgn hown3 hg3) | (at_builtin; refine wpList_append_own_at _ rfl (.tmp 71) (.tmp 73) 40 rfl (w.heap.size + 1) 3 i0 (.int .i64 0) 1 8 Tryd.underlying40 hi0 iz0 iz1 iz2 rfl (by decide) _ _ _ rfl (HRW.out.alloc _) ⟨w3.heap.size, 0, none⟩ 1 1 [.int .i64 (j : Int)] (by rfl) rfl (cells_at _ [.int .i64 (j : Int)] _ _ (by first | rfl | simp)) (by intro y hy; simp at hy; rcases hy with rfl; rfl) (by unfold maxLen; omega) (by omega) (by have := World.ownsMap.lt HMQ.out; omega) ?_; intro u' w5 hown5 hg5 _ hat5; obtain ⟨ao, cp, rfl⟩ := own_sl hown5; have HAD := hide (HF2.out.add (i := j) (by decide) HXX.out HUU.out hg5 hown5 hat5); have y0 := own_cell HAD.out.1 (O.length) _ HUU.out; have yf := own_free HAD.out.1 (O.length); have HB5 := hide (HBE.out.grown hg5 HBE.out.size (fun b hb => by have := (HRW.out.lt b hb).1; omega)); have HM5 := hide (HMQ.out.kept hg5 (fun e => by have := (HRW.out.lt _ e.symm).1; omega)); clear hown5 hg5 hat5))
          go_roundw
          case rel =>
            have hfin := HAD.out.2
            rw [HOL2.out] at hfin
            refine ⟨j + 1, R ++ [s], O2.modify O.length (· ++ [j]), vs2.set O.length (.slice ao (x.length + 1) cp), by omega, by go_num, HNX.out, ⟨ownsMap_setF ?_ _ _ HGN.out, hfin, HB5.out.setCell (p := ⟨g, O.length, none⟩) (by show w.heap.size ≤ g; omega) _⟩⟩
            have hm := HM5.out
            rw [HKB.out] at hm
            rw [List.length_append, List.map_append, show ([s].map k1) = [k1 s] from rfl, idxD_snoc, List.length_map, ← HOL.out.1]
            exact (by rw [HOL.out.1] at hm ⊢; exact hm)
          case measure => simp [intOf]; omega
    · obtain rfl : j = n := by omega
      have HRS := hide hI.rows
      have HRB := hide hI.be
      have HFE := hide (show (fmly k1 l).2 = O by have h := HFM.out; rw [take_len l (by rw [HLN.out]; exact Nat.le_refl _)] at h; rw [h])
      clear hI
      go_wp2_with (fail)
      go_ret2
      exact ⟨⟨_, _, rfl, by rw [HFE.out]; exact HRS.out⟩, HRB.out⟩
end Go.Proofs.YtocpmbpckbjepaaDoor
