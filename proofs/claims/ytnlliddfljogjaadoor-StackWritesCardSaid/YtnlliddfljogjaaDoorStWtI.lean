/- Walk of the reference's Written at form 1 (printed by gen_wt.py). -/
import Derived.Test.YtnlliddfljogjaaDoorStWt0
namespace Go.Proofs.YtnlliddfljogjaaDoor
open Go.RowKit
set_option linter.unusedVariables false
set_option maxRecDepth 100000 in
set_option maxHeartbeats 16000000 in
theorem Written_inner (A : Option Addr) (n c : Nat) (l : List FaultT) (w : World) (hnc : n ≤ c) (hl : Sl w w.heap.size FaultT.cs 3 A n l) (hf : FaultsOk w l) (hE : fltsErr l = 0) :
    Calls Tryd.prog 6 #[.slice A n c, .int .i64 1] w fun e w' => e = .returned (if banged l then .tuple #[.string ⟨#[]⟩, .bool false] else .tuple #[.string ⟨(writtenL l 1).toArray⟩, .bool true]) ∧ Below w.heap.size w w' := by
  obtain ⟨hlen, hgood⟩ := fltsErr_good hE hf
  have HL := hide hl.len
  have hn : n ≤ 10 := by have := hl.len; omega
  have HSL := hide hl
  have HGD := hide hgood
  obtain ⟨i0, hi0, iz0, iz1, iz2⟩ := info_parts info_strS
  obtain ⟨RV, hRV⟩ : ∃ RV : Value, (if banged l then .tuple #[.string ⟨#[]⟩, .bool false] else .tuple #[.string ⟨(writtenL l 1).toArray⟩, .bool true]) = RV := ⟨_, rfl⟩
  rw [hRV]
  have HRV := hide hRV
  clear hl hf hgood hE hRV
  go_enter Tryd.func6, Tryd.ntmps6
  go_wp2_with (fail)
  go_loopw [25] (fun i wr => ∃ k : Nat, k ≤ n ∧ i = .int .i64 k ∧ (∀ x ∈ l.take k, bangF x = false) ∧ Below w.heap.size w wr) (fun i _ => n - (intOf i).toNat)
  case atStart => exact ⟨0, Nat.zero_le _, rfl, by simp, Below.refl _ _⟩
  case round =>
    obtain ⟨k, hk, rfl, hno, hB⟩ := hrel
    have HNO := hide hno
    have hz := hB.size
    clear hno
    by_cases hlt : k < n
    · obtain ⟨bb, oo, x, rfl, hbb, hx, hc⟩ := (HSL.out.below hB).at_ hlt
      have hg := (HGD.out x (List.mem_of_getElem? hx)).below hB
      obtain ⟨AX, hAX⟩ : ∃ AX, x.A = AX := ⟨_, rfl⟩
      have c0 : wr.cell? ⟨bb, oo + k * 3, none⟩ = some (.string x.kind) := by simpa using hc 0 _ rfl
      have c1 : wr.cell? ⟨bb, oo + k * 3 + 1, none⟩ = some (.string x.text) := hc 1 _ rfl
      have c2 : wr.cell? ⟨bb, oo + k * 3 + 2, none⟩ = some (.slice AX x.n x.cap) := hAX ▸ hc 2 _ rfl
      have HG := hide hg
      have HX := hide hx
      have HAX := hide hAX
      have hxn := hg.n
      have hxc := hg.nc
      have hBA := hB.alloc hz (.cells #[.string x.kind, .string x.text, .slice AX x.n x.cap] 33)
      clear hc hg hx hAX
      go_wp2_with (fail)
      obtain ⟨wo, rfl⟩ : ∃ wo : World, wo = wr := ⟨_, rfl⟩
      go_loopw [32] (fun i wr => ∃ j : Nat, j ≤ x.n ∧ i = .int .i64 j ∧ (∀ y ∈ x.frs.take j, bangX y = false) ∧ Below w.heap.size w wr) (fun i _ => x.n - (intOf i).toNat)
      case atStart => exact ⟨0, Nat.zero_le _, rfl, by simp, hBA⟩
      case round =>
        obtain ⟨j, hj, rfl, hnj, hBj⟩ := hrel
        have HNJ := hide hnj
        have hzj := hBj.size
        clear hnj
        by_cases hlt2 : j < x.n
        · obtain ⟨fb, fo, y, hA, hfb, hy, hcf⟩ := ((HGD.out x (List.mem_of_getElem? HX.out)).sl.below hBj).at_ hlt2
          have hA' := HAX.out.symm.trans hA
          subst hA'
          clear hA
          have hyg := HG.out.fr y (List.mem_of_getElem? hy)
          have hym := hyg.m
          have hyf := hyg.f
          have c0 : wr.cell? ⟨fb, fo + j * 6, none⟩ = some (.string y.mod) := by simpa using hcf 0 _ rfl
          have c1 : wr.cell? ⟨fb, fo + j * 6 + 1, none⟩ = some (.string y.fn) := hcf 1 _ rfl
          have c2 : wr.cell? ⟨fb, fo + j * 6 + 2, none⟩ = some (.string y.file) := hcf 2 _ rfl
          have c3 : wr.cell? ⟨fb, fo + j * 6 + 3, none⟩ = some (.int .i64 y.line) := hcf 3 _ rfl
          have c4 : wr.cell? ⟨fb, fo + j * 6 + 4, none⟩ = some (.int .i64 y.addr) := hcf 4 _ rfl
          have c5 : wr.cell? ⟨fb, fo + j * 6 + 5, none⟩ = some (.bool y.own) := hcf 5 _ rfl
          have HY := hide hy
          have hBC := hBj.alloc hzj (.cells #[.string y.mod, .string y.fn, .string y.file, .int .i64 y.line, .int .i64 y.addr, .bool y.own] 35)
          have HF := hide (fun W => Contains_bang (y.mod ++ y.fn) W)
          rw [bang_app] at HF
          clear hcf hy hyg
          cases h1 : bangX y
          · have HNB := hide h1
            rw [h1] at HF
            clear h1
            go_wp2_with (go_at_call 9; refine (HF.out _).mono ?_; rintro e w' ⟨rfl, rfl⟩)
            go_roundw
            case rel => exact ⟨j + 1, by omega, by go_num, take_all_snoc HNJ.out HY.out HNB.out, hBC⟩
            case measure => simp [intOf]; omega
          · have HNB := hide (show banged l = true from banged_hit HX.out HY.out h1)
            rw [h1] at HF
            clear h1
            go_wp2_with (go_at_call 9; refine (HF.out _).mono ?_; rintro e w' ⟨rfl, rfl⟩)
            go_ret2
            exact ⟨by rw [← HRV.out, if_pos HNB.out]; rfl, hBC⟩
        · obtain rfl : j = x.n := by omega
          have HNB := hide (show bangF x = false from bangF_none (by rw [HG.out.sl.len]; exact HNJ.out))
          go_wp2_with (fail)
          go_roundw
          case rel => exact ⟨k + 1, by omega, by go_num, take_all_snoc HNO.out HX.out HNB.out, hBj⟩
          case measure => simp [intOf]; omega
    · obtain rfl : k = n := by omega
      have HBG := hide (show banged l = false from banged_none (fun x hx => HNO.out x (by rw [take_len l (by rw [HL.out]; exact Nat.le_refl _)]; exact hx)))
      have HRW := hide (show RV = .tuple #[.string ⟨(writtenL l 1).toArray⟩, .bool true] by rw [← HRV.out, if_neg (by rw [HBG.out]; decide)])
      clear HNO HBG HRV
      go_wp2_with (fail)
      obtain ⟨wq, rfl⟩ : ∃ wq : World, wq = wr := ⟨_, rfl⟩
      have HBQ := hide hB
      clear hB hz hlt hk
      obtain ⟨n, rfl⟩ : ∃ n : Nat, n = k := ⟨_, rfl⟩
      go_loopw [10, 78] (fun v i wr => ∃ (k : Nat) (ws : List ByteArray), k ≤ n ∧ i = .int .i64 k ∧ wr.ownsRow w.heap.size 9 1 v ws.length (ws.flatMap cs) ∧ linesL ws = (List.range k).flatMap (innerAt l) ∧ Below w.heap.size w wr ∧ (linesL ws).length ≤ k * 1000000) (fun _ i _ => n - (intOf i).toNat)
      case atStart => exact ⟨0, [], Nat.zero_le _, rfl, World.ownsRow_nil _ _ _ _, rfl, HBQ.out, by simp [linesL]⟩
      case round =>
        obtain ⟨k, ws, hk, rfl, how, hlw, hB, hlen⟩ := hrel
        have hz := hB.size
        by_cases hlt : k < n
        · obtain ⟨bb, oo, x, rfl, hbb, hx, hc⟩ := (HSL.out.below hB).at_ hlt
          have hg := (HGD.out x (List.mem_of_getElem? hx)).below hB
          obtain ⟨AX, hAX⟩ : ∃ AX, x.A = AX := ⟨_, rfl⟩
          have c0 : wr.cell? ⟨bb, oo + k * 3, none⟩ = some (.string x.kind) := by simpa using hc 0 _ rfl
          have c1 : wr.cell? ⟨bb, oo + k * 3 + 1, none⟩ = some (.string x.text) := hc 1 _ rfl
          have c2 : wr.cell? ⟨bb, oo + k * 3 + 2, none⟩ = some (.slice AX x.n x.cap) := hAX ▸ hc 2 _ rfl
          have HG := hide hg
          have HX := hide hx
          have HAX := hide hAX
          have hxn := hg.n
          have hxc := hg.nc
          obtain ⟨hv, hhv⟩ : ∃ hv : ByteArray, ⟨(headR x).toArray⟩ = hv := ⟨_, rfl⟩
          have hhl : hv.data.toList = headR x := by rw [← hhv]
          have hhs : hv.size ≤ 3000 := by
            rw [size_of hhl]
            have h1 := hg.k
            have h2 := hg.t
            have e1 := size_of (x := x.kind) rfl
            have e2 := size_of (x := x.text) rfl
            unfold headR
            split <;> simp only [List.length_append, List.length_cons, List.length_nil] <;> omega
          have HHD := hide (fun W => headOf_any x W hg.k hg.t)
          rw [hhv, hAX] at HHD
          have HHL := hide (show headL x = hv.data.toList ++ [10] by rw [hhl]; rfl)
          have HC := hide hc
          clear hc hg hx hhv hhl hAX
          have HOW := hide how
          have HLW := hide hlw
          have hbig := lines_len ws
          have HX0 := hide (heap_alloc_new wr (.cells #[.string x.kind, .string x.text, .slice AX x.n x.cap] 33))
          have HOA := hide (how.alloc (.cells #[.string x.kind, .string x.text, .slice AX x.n x.cap] 33))
          have HBA := hide (hB.alloc hz (.cells #[.string x.kind, .string x.text, .slice AX x.n x.cap] 33))
          have HMZ := hide (map_add_zero AX)
          clear how hlw
          by_cases hkz : k = 0
          · have hk1 : ¬ (0 < k) := by omega
            have hk2 : decide (0 < k) = false := by simp; omega
            have hk3 : decide ((0 : Int) < (k : Int)) = false := by simp; omega
            have HGO := hide (show goneN l k = 0 by unfold goneN; rw [if_pos hkz])
            obtain ⟨hs, hhs2⟩ : ∃ hs, hv = hs := ⟨_, rfl⟩
            have hss : hs.size ≤ 3011 := by rw [← hhs2]; omega
            have HHS := hide (show hs.data.toList ++ [10] = (if k = 0 then [] else causedL) ++ headL x by rw [if_pos hkz, HHL.out, hhs2]; rfl)
            rw [hhs2] at HHD
            clear hkz
            go_wp2_with (fail)
            refine (HHD.out _).mono ?_
            rintro e w2 ⟨rfl, hw2⟩
            have hB2 : Below w.heap.size w w2 := HBA.out.trans (hw2.mono HBA.out.size)
            have hz2 := hB2.size
            have HO2 := hide (own_below HOA.out hw2)
            have HX2 := hide (block_below HX0.out hw2)
            clear hw2
            have hmz := HMZ.out
            obtain ⟨m, hm⟩ : ∃ m : Nat, m + 0 = x.n := ⟨x.n - 0, by omega⟩
            have hmc : (m : Int) ≤ (x.cap : Int) := by omega
            have hm0 : (0 : Int) ≤ (m : Int) := by omega
            have hsub : (x.n : Int) - (0 : Int) = (m : Int) := by omega
            go_wp2_with (at_builtin; refine wpList_append_own _ rfl (.tmp 100) (.tmp 102) 45 rfl w.heap.size 9 i0 (.string ByteArray.empty) 1 16 Tryd.underlying45 hi0 iz0 iz1 iz2 rfl (by decide) _ (ws).length _ rfl (HO2.out.alloc _) ⟨w2.heap.size, 0, none⟩ 1 1 [.string hs] rfl rfl (cells_at _ [.string hs] _ _ (by first | rfl | simp)) (by intro u hu; simp at hu; subst hu; rfl) (by unfold maxLen; omega) (by omega) (by simp; try omega) ?_; intro v3 w3 hown1 hg1 _; have hp := push_out hB2 hz2 HO2.out hg1 hown1; have hX3 := push_keep HO2.out HX2.out (by decide) hg1; have HO3 := hide hp.2; have hB3 := hp.1; have q2 : w3.cell? ⟨wr.heap.size, 2, none⟩ = some (.slice AX x.n x.cap) := (block_cell hX3 2).trans rfl; clear hown1 hg1 hp hX3)
            have hl1 := lines_snoc ws hs
            obtain ⟨ws1, hws1⟩ : ∃ ws1, ws ++ [hs] = ws1 := ⟨_, rfl⟩
            rw [hws1] at HO3 hl1
            have hl1s : (linesL ws1).length ≤ k * 1000000 + 4000 := by rw [hl1, List.length_append, List.length_append, ← size_of rfl, List.length_singleton]; omega
            obtain ⟨L3, hL3⟩ : ∃ L3, linesL ws1 = L3 := ⟨_, rfl⟩
            have HL3 := hide (show L3 = (List.range k).flatMap (innerAt l) ++ ((if k = 0 then [] else causedL) ++ headL x) by rw [← hL3, hl1, HLW.out, HHS.out])
            have HLW1 := hide hL3
            rw [hL3] at hl1s
            clear hL3 hl1 hws1
            clear q2 hmz
            obtain ⟨wo, rfl⟩ : ∃ wo : World, wo = wr := ⟨_, rfl⟩
            go_loopw [10, 113] (fun v a wr => ∃ (j : Nat) (ws : List ByteArray), j ≤ m ∧ a = .int .i64 j ∧ wr.ownsRow w.heap.size 9 1 v ws.length (ws.flatMap cs) ∧ linesL ws = L3 ++ (x.frs.take j).flatMap frInner ∧ Below w.heap.size w wr ∧ (linesL ws).length ≤ k * 1000000 + 4000 + j * 3000) (fun _ a _ => m - (intOf a).toNat)
            case atStart => exact ⟨0, ws1, Nat.zero_le _, rfl, HO3.out, by rw [HLW1.out]; simp, hB3, by rw [HLW1.out]; omega⟩
            case round =>
              obtain ⟨j, ws2, hj, rfl, hoj, hlj, hBj, hnj⟩ := hrel
              have hzj := hBj.size
              have hbj := lines_len ws2
              by_cases hlt2 : j < m
              · obtain ⟨fb, fo, y, hA, hfb, hy, hcf⟩ := ((HGD.out x (List.mem_of_getElem? HX.out)).sl.below hBj).at_ (show j < x.n by omega)
                have hA' := HAX.out.symm.trans hA
                subst hA'
                clear hA
                have hyg := HG.out.fr y (List.mem_of_getElem? hy)
                have c0 : wr.cell? ⟨fb, fo + j * 6, none⟩ = some (.string y.mod) := by simpa using hcf 0 _ rfl
                have c1 : wr.cell? ⟨fb, fo + j * 6 + 1, none⟩ = some (.string y.fn) := hcf 1 _ rfl
                have c2 : wr.cell? ⟨fb, fo + j * 6 + 2, none⟩ = some (.string y.file) := hcf 2 _ rfl
                have c3 : wr.cell? ⟨fb, fo + j * 6 + 3, none⟩ = some (.int .i64 y.line) := hcf 3 _ rfl
                have c4 : wr.cell? ⟨fb, fo + j * 6 + 4, none⟩ = some (.int .i64 y.addr) := hcf 4 _ rfl
                have c5 : wr.cell? ⟨fb, fo + j * 6 + 5, none⟩ = some (.bool y.own) := hcf 5 _ rfl
                obtain ⟨lb, hlb⟩ : ∃ lb : ByteArray, ⟨(lineL y).toArray⟩ = lb := ⟨_, rfl⟩
                have HLN := hide (fun W => lineOf_any y W hyg)
                rw [hlb] at HLN
                have hll : lb.data.toList = lineL y := by rw [← hlb]
                have hls : lb.size ≤ 1500 := by
                  rw [size_of hll]
                  unfold lineL
                  rw [List.length_append, ← size_of rfl]
                  have h1 := call_len y hyg
                  have h2 := place_len y hyg
                  omega
                have HLL := hide hll
                clear hlb hll
                have h7 : (⟨#[32, 32, 32, 32, 97, 116, 32]⟩ : ByteArray).size = 7 := rfl
                have HST := hide (show linesL (ws2 ++ [⟨#[32, 32, 32, 32, 97, 116, 32]⟩ ++ lb]) = L3 ++ (x.frs.take (j + 1)).flatMap frInner by rw [lines_snoc, hlj, flat_take_succ frInner hy, ByteArray.data_append, Array.toList_append, HLL.out]; unfold frInner; simp)
                have HLS := hide (show (linesL (ws2 ++ [⟨#[32, 32, 32, 32, 97, 116, 32]⟩ ++ lb])).length ≤ k * 1000000 + 4000 + (j + 1) * 3000 by rw [lines_snoc, List.length_append, List.length_append, ← size_of rfl, ByteArray.size_append, List.length_singleton]; omega)
                have HOJ := hide (hoj.alloc (.cells #[.string y.mod, .string y.fn, .string y.file, .int .i64 y.line, .int .i64 y.addr, .bool y.own] 35))
                have HBJ := hide (hBj.alloc hzj (.cells #[.string y.mod, .string y.fn, .string y.file, .int .i64 y.line, .int .i64 y.addr, .bool y.own] 35))
                clear hcf hy hoj hlj
                go_wp2_with (fail)
                refine (HLN.out _).mono ?_
                rintro e w4 ⟨rfl, hw4⟩
                have hB4 := HBJ.out.trans (hw4.mono HBJ.out.size)
                have hz4 := hB4.size
                have HO4 := hide (own_below HOJ.out hw4)
                clear hw4
                go_wp2_with (at_builtin; refine wpList_append_own _ rfl (.tmp 117) (.tmp 121) 45 rfl w.heap.size 9 i0 (.string ByteArray.empty) 1 16 Tryd.underlying45 hi0 iz0 iz1 iz2 rfl (by decide) _ (ws2).length _ rfl (HO4.out.alloc _) ⟨w4.heap.size, 0, none⟩ 1 1 [.string (⟨#[32, 32, 32, 32, 97, 116, 32]⟩ ++ lb)] rfl rfl (cells_at _ [.string (⟨#[32, 32, 32, 32, 97, 116, 32]⟩ ++ lb)] _ _ (by first | rfl | simp)) (by intro u hu; simp at hu; subst hu; rfl) (by unfold maxLen; omega) (by omega) (by simp; try omega) ?_; intro v5 w5 hown1 hg1 _)
                have hp := push_out hB4 hz4 HO4.out hg1 hown1
                have HO5 := hide hp.2
                have hB5 := hp.1
                clear hown1 hg1 hp
                go_wp2_with (fail)
                go_roundw
                case rel => exact ⟨j + 1, ws2 ++ [⟨#[32, 32, 32, 32, 97, 116, 32]⟩ ++ lb], by omega, by go_num, HO5.out, HST.out, hB5, HLS.out⟩
                case measure => simp [intOf]; omega
              · obtain rfl : j = m := by omega
                have hpa : (List.range (k + 1)).flatMap (innerAt l) = linesL ws2 ++ moreL 0 := by
                  rw [flat_range_succ, hlj, HL3.out]
                  have hat : innerAt l k = (if k = 0 then [] else causedL) ++ headL x ++ (x.frs.take (x.frs.length - goneN l k)).flatMap frInner ++ moreL (goneN l k) := by unfold innerAt; rw [HX.out]
                  rw [hat, HGO.out, show x.frs.length - 0 = j by rw [HG.out.sl.len]; omega]
                  simp only [List.append_assoc]
                have HPA := hide hpa
                have HOJ := hide hoj
                clear hpa hoj hlj
                have HPB := hide (show linesL ws2 = (List.range (k + 1)).flatMap (innerAt l) by rw [HPA.out]; simp [moreL])
                go_wp2_with (fail)
                go_roundw
                case rel => exact ⟨k + 1, ws2, by omega, by go_num, HOJ.out, HPB.out, hBj, by omega⟩
                case measure => simp [intOf]; omega
          · have hk1 : 0 < k := by omega
            have hk3 : (0 : Int) < (k : Int) := by omega
            obtain ⟨k', hk'⟩ : ∃ k', k = k' + 1 := ⟨k - 1, by omega⟩
            have hkm : (k : Int) - 1 = (k' : Int) := by omega
            have hk'n : k' < n := by omega
            have hk'i : (k' : Int) < (n : Int) := by omega
            have hk'0 : (0 : Int) ≤ (k' : Int) := by omega
            obtain ⟨b3, o3, x', hA3, hb3, hx', hc'⟩ := (HSL.out.below hB).at_ hk'n
            simp only [Option.some.injEq, Addr.mk.injEq, and_true] at hA3
            obtain ⟨rfl, rfl⟩ := hA3
            have hg' := (HGD.out x' (List.mem_of_getElem? hx')).below hB
            have HCP := hide (show wr.cell? ⟨bb, oo + k' * 3 + 2, none⟩ = some (.slice x'.A x'.n x'.cap) from hc' 2 _ rfl)
            obtain ⟨SH, hSH⟩ : ∃ SH, sharedN x'.frs x.frs = SH := ⟨_, rfl⟩
            have hshl : SH ≤ x.n := by rw [← hSH, ← HG.out.sl.len]; exact sharedN_le _ _
            have HSHR := hide (fun (W : World) (h : Below w.heap.size w W) => by
              have hs := h.size
              have h1 := ((HGD.out x' (List.mem_of_getElem? hx')).sl.below h).more hs
              have h2 := ((HGD.out x (List.mem_of_getElem? HX.out)).sl.below h).more hs
              have h3 := SharedOf_any x'.A x'.n x'.cap x.A x.n x.cap x'.frs x.frs W (by have := hg'.n; unfold maxLen; omega) (by have := HG.out.n; unfold maxLen; omega) h1 h2
              rw [hSH, HAX.out] at h3
              exact h3)
            have HGN := hide (show goneN l k = if SH < 2 then 0 else SH by unfold goneN; rw [if_neg hkz, hk', Nat.add_sub_cancel, hx', ← hk', HX.out]; simp only [hSH])
            have hxn' := hg'.nc
            obtain ⟨hs, hhs2⟩ : ∃ hs : ByteArray, (⟨#[67, 97, 117, 115, 101, 100, 32, 98, 121, 58, 32]⟩ : ByteArray) ++ hv = hs := ⟨_, rfl⟩
            have hc11 : (⟨#[67, 97, 117, 115, 101, 100, 32, 98, 121, 58, 32]⟩ : ByteArray).size = 11 := rfl
            have hss : hs.size ≤ 3011 := by rw [← hhs2, ByteArray.size_append]; omega
            have HHS := hide (show hs.data.toList ++ [10] = (if k = 0 then [] else causedL) ++ headL x by rw [if_neg hkz, HHL.out, ← hhs2, ByteArray.data_append, Array.toList_append]; simp [causedL])
            have HHE := hide hhs2
            clear hc' hkz hk' hg' hx' hSH hhs2
            go_wp2_with (fail)
            refine (HHD.out _).mono ?_
            rintro e w2 ⟨rfl, hw2⟩
            have hOA : OutAt w.heap.size _ ws w wr.heap.size (.cells #[.string x.kind, .string x.text, .slice AX x.n x.cap] 33 (0, 0)) w2 := ⟨own_below HOA.out hw2, HBA.out.trans (hw2.mono HBA.out.size), block_below HX0.out hw2⟩
            have HOB := hide hOA
            clear hw2 hOA
            go_wp2_with (fail)
            rw [HHE.out]
            obtain ⟨I1, F1, hi1, hLF, hJ1⟩ := ofam HOB.out (Nat.le_refl _)
            have HLF := hide hLF
            have hJ1 := hide hJ1
            have HCE := hide (fun i => ((HLF.out i).be.cell (p := ⟨bb, oo + k' * 3 + 2, none⟩) hbb).trans ((hB.cell (p := ⟨bb, oo + k' * 3 + 2, none⟩) hbb).symm.trans HCP.out))
            have e2 := fun i => HCE.out i
            have e3 : ∀ i, (F1 i).cell? ⟨wr.heap.size, 2, none⟩ = some (.slice AX x.n x.cap) := fun i => (block_cell (HLF.out i).bx 2).trans rfl
            haveI : Nonempty I1 := ⟨hi1.choose⟩
            clear hLF
            refine wp_region_fam F1 hi1 (by kernel_rfl) (by kernel_rfl) ?_
            (repeat (go_big_quiet_step ((go_at_call 17; refine (HSHR.out _ (HLF.out _).be).mono ?_; rintro e w' ⟨rfl, hw'⟩; exact ⟨rfl, hJ1.out _ _ hw'⟩))))
            refine wpQuiet_nil ?_
            rintro _ ⟨i1, rfl⟩
            have HX2 := hide (HLF.out i1).bx
            have hB2 := (HLF.out i1).be
            have hz2 := hB2.size
            have HO2 := hide (HLF.out i1).own
            clear e2 e3
            obtain ⟨w2', hw2'⟩ : ∃ w2', F1 i1 = w2' := ⟨_, rfl⟩
            rw [hw2'] at HX2 hB2 HO2 hz2 ⊢
            clear hw2' HOB
            obtain ⟨w2, rfl⟩ : ∃ w2, w2 = w2' := ⟨_, rfl⟩
            by_cases hsh : SH < 2
            · have hs2 : ((SH : Nat) : Int) < 2 := by omega
              have HGO := hide (show goneN l k = 0 by rw [HGN.out, if_pos hsh])
              have hmz := HMZ.out
              obtain ⟨m, hm⟩ : ∃ m : Nat, m + 0 = x.n := ⟨x.n - 0, by omega⟩
              have hmc : (m : Int) ≤ (x.cap : Int) := by omega
              have hm0 : (0 : Int) ≤ (m : Int) := by omega
              have hsub : (x.n : Int) - (0 : Int) = (m : Int) := by omega
              go_wp2_with (at_builtin; refine wpList_append_own _ rfl (.tmp 100) (.tmp 102) 45 rfl w.heap.size 9 i0 (.string ByteArray.empty) 1 16 Tryd.underlying45 hi0 iz0 iz1 iz2 rfl (by decide) _ (ws).length _ rfl (HO2.out.alloc _) ⟨w2.heap.size, 0, none⟩ 1 1 [.string hs] rfl rfl (cells_at _ [.string hs] _ _ (by first | rfl | simp)) (by intro u hu; simp at hu; subst hu; rfl) (by unfold maxLen; omega) (by omega) (by simp; try omega) ?_; intro v3 w3 hown1 hg1 _; have hp := push_out hB2 hz2 HO2.out hg1 hown1; have hX3 := push_keep HO2.out HX2.out (by decide) hg1; have HO3 := hide hp.2; have hB3 := hp.1; have q2 : w3.cell? ⟨wr.heap.size, 2, none⟩ = some (.slice AX x.n x.cap) := (block_cell hX3 2).trans rfl; clear hown1 hg1 hp hX3)
              have hl1 := lines_snoc ws hs
              obtain ⟨ws1, hws1⟩ : ∃ ws1, ws ++ [hs] = ws1 := ⟨_, rfl⟩
              rw [hws1] at HO3 hl1
              have hl1s : (linesL ws1).length ≤ k * 1000000 + 4000 := by rw [hl1, List.length_append, List.length_append, ← size_of rfl, List.length_singleton]; omega
              obtain ⟨L3, hL3⟩ : ∃ L3, linesL ws1 = L3 := ⟨_, rfl⟩
              have HL3 := hide (show L3 = (List.range k).flatMap (innerAt l) ++ ((if k = 0 then [] else causedL) ++ headL x) by rw [← hL3, hl1, HLW.out, HHS.out])
              have HLW1 := hide hL3
              rw [hL3] at hl1s
              clear hL3 hl1 hws1
              clear q2 hmz
              obtain ⟨wo, rfl⟩ : ∃ wo : World, wo = wr := ⟨_, rfl⟩
              go_loopw [10, 113] (fun v a wr => ∃ (j : Nat) (ws : List ByteArray), j ≤ m ∧ a = .int .i64 j ∧ wr.ownsRow w.heap.size 9 1 v ws.length (ws.flatMap cs) ∧ linesL ws = L3 ++ (x.frs.take j).flatMap frInner ∧ Below w.heap.size w wr ∧ (linesL ws).length ≤ k * 1000000 + 4000 + j * 3000) (fun _ a _ => m - (intOf a).toNat)
              case atStart => exact ⟨0, ws1, Nat.zero_le _, rfl, HO3.out, by rw [HLW1.out]; simp, hB3, by rw [HLW1.out]; omega⟩
              case round =>
                obtain ⟨j, ws2, hj, rfl, hoj, hlj, hBj, hnj⟩ := hrel
                have hzj := hBj.size
                have hbj := lines_len ws2
                by_cases hlt2 : j < m
                · obtain ⟨fb, fo, y, hA, hfb, hy, hcf⟩ := ((HGD.out x (List.mem_of_getElem? HX.out)).sl.below hBj).at_ (show j < x.n by omega)
                  have hA' := HAX.out.symm.trans hA
                  subst hA'
                  clear hA
                  have hyg := HG.out.fr y (List.mem_of_getElem? hy)
                  have c0 : wr.cell? ⟨fb, fo + j * 6, none⟩ = some (.string y.mod) := by simpa using hcf 0 _ rfl
                  have c1 : wr.cell? ⟨fb, fo + j * 6 + 1, none⟩ = some (.string y.fn) := hcf 1 _ rfl
                  have c2 : wr.cell? ⟨fb, fo + j * 6 + 2, none⟩ = some (.string y.file) := hcf 2 _ rfl
                  have c3 : wr.cell? ⟨fb, fo + j * 6 + 3, none⟩ = some (.int .i64 y.line) := hcf 3 _ rfl
                  have c4 : wr.cell? ⟨fb, fo + j * 6 + 4, none⟩ = some (.int .i64 y.addr) := hcf 4 _ rfl
                  have c5 : wr.cell? ⟨fb, fo + j * 6 + 5, none⟩ = some (.bool y.own) := hcf 5 _ rfl
                  obtain ⟨lb, hlb⟩ : ∃ lb : ByteArray, ⟨(lineL y).toArray⟩ = lb := ⟨_, rfl⟩
                  have HLN := hide (fun W => lineOf_any y W hyg)
                  rw [hlb] at HLN
                  have hll : lb.data.toList = lineL y := by rw [← hlb]
                  have hls : lb.size ≤ 1500 := by
                    rw [size_of hll]
                    unfold lineL
                    rw [List.length_append, ← size_of rfl]
                    have h1 := call_len y hyg
                    have h2 := place_len y hyg
                    omega
                  have HLL := hide hll
                  clear hlb hll
                  have h7 : (⟨#[32, 32, 32, 32, 97, 116, 32]⟩ : ByteArray).size = 7 := rfl
                  have HST := hide (show linesL (ws2 ++ [⟨#[32, 32, 32, 32, 97, 116, 32]⟩ ++ lb]) = L3 ++ (x.frs.take (j + 1)).flatMap frInner by rw [lines_snoc, hlj, flat_take_succ frInner hy, ByteArray.data_append, Array.toList_append, HLL.out]; unfold frInner; simp)
                  have HLS := hide (show (linesL (ws2 ++ [⟨#[32, 32, 32, 32, 97, 116, 32]⟩ ++ lb])).length ≤ k * 1000000 + 4000 + (j + 1) * 3000 by rw [lines_snoc, List.length_append, List.length_append, ← size_of rfl, ByteArray.size_append, List.length_singleton]; omega)
                  have HOJ := hide (hoj.alloc (.cells #[.string y.mod, .string y.fn, .string y.file, .int .i64 y.line, .int .i64 y.addr, .bool y.own] 35))
                  have HBJ := hide (hBj.alloc hzj (.cells #[.string y.mod, .string y.fn, .string y.file, .int .i64 y.line, .int .i64 y.addr, .bool y.own] 35))
                  clear hcf hy hoj hlj
                  go_wp2_with (fail)
                  refine (HLN.out _).mono ?_
                  rintro e w4 ⟨rfl, hw4⟩
                  have hB4 := HBJ.out.trans (hw4.mono HBJ.out.size)
                  have hz4 := hB4.size
                  have HO4 := hide (own_below HOJ.out hw4)
                  clear hw4
                  go_wp2_with (at_builtin; refine wpList_append_own _ rfl (.tmp 117) (.tmp 121) 45 rfl w.heap.size 9 i0 (.string ByteArray.empty) 1 16 Tryd.underlying45 hi0 iz0 iz1 iz2 rfl (by decide) _ (ws2).length _ rfl (HO4.out.alloc _) ⟨w4.heap.size, 0, none⟩ 1 1 [.string (⟨#[32, 32, 32, 32, 97, 116, 32]⟩ ++ lb)] rfl rfl (cells_at _ [.string (⟨#[32, 32, 32, 32, 97, 116, 32]⟩ ++ lb)] _ _ (by first | rfl | simp)) (by intro u hu; simp at hu; subst hu; rfl) (by unfold maxLen; omega) (by omega) (by simp; try omega) ?_; intro v5 w5 hown1 hg1 _)
                  have hp := push_out hB4 hz4 HO4.out hg1 hown1
                  have HO5 := hide hp.2
                  have hB5 := hp.1
                  clear hown1 hg1 hp
                  go_wp2_with (fail)
                  go_roundw
                  case rel => exact ⟨j + 1, ws2 ++ [⟨#[32, 32, 32, 32, 97, 116, 32]⟩ ++ lb], by omega, by go_num, HO5.out, HST.out, hB5, HLS.out⟩
                  case measure => simp [intOf]; omega
                · obtain rfl : j = m := by omega
                  have hpa : (List.range (k + 1)).flatMap (innerAt l) = linesL ws2 ++ moreL 0 := by
                    rw [flat_range_succ, hlj, HL3.out]
                    have hat : innerAt l k = (if k = 0 then [] else causedL) ++ headL x ++ (x.frs.take (x.frs.length - goneN l k)).flatMap frInner ++ moreL (goneN l k) := by unfold innerAt; rw [HX.out]
                    rw [hat, HGO.out, show x.frs.length - 0 = j by rw [HG.out.sl.len]; omega]
                    simp only [List.append_assoc]
                  have HPA := hide hpa
                  have HOJ := hide hoj
                  clear hpa hoj hlj
                  have HPB := hide (show linesL ws2 = (List.range (k + 1)).flatMap (innerAt l) by rw [HPA.out]; simp [moreL])
                  go_wp2_with (fail)
                  go_roundw
                  case rel => exact ⟨k + 1, ws2, by omega, by go_num, HOJ.out, HPB.out, hBj, by omega⟩
                  case measure => simp [intOf]; omega
            · have hs2 : ¬ (((SH : Nat) : Int) < 2) := by omega
              have hs3 : decide (((SH : Nat) : Int) < 2) = false := by simp; omega
              have hs4 : decide (SH < 2) = false := by simp; omega
              have HGO := hide (show goneN l k = SH by rw [HGN.out, if_neg hsh])
              have hmz := HMZ.out
              obtain ⟨m, hm⟩ : ∃ m : Nat, m + SH = x.n := ⟨x.n - SH, by omega⟩
              have hmc : (m : Int) ≤ (x.cap : Int) := by omega
              have hm0 : (0 : Int) ≤ (m : Int) := by omega
              have hsub : (x.n : Int) - (SH : Int) = (m : Int) := by omega
              go_wp2_with (at_builtin; refine wpList_append_own _ rfl (.tmp 100) (.tmp 102) 45 rfl w.heap.size 9 i0 (.string ByteArray.empty) 1 16 Tryd.underlying45 hi0 iz0 iz1 iz2 rfl (by decide) _ (ws).length _ rfl (HO2.out.alloc _) ⟨w2.heap.size, 0, none⟩ 1 1 [.string hs] rfl rfl (cells_at _ [.string hs] _ _ (by first | rfl | simp)) (by intro u hu; simp at hu; subst hu; rfl) (by unfold maxLen; omega) (by omega) (by simp; try omega) ?_; intro v3 w3 hown1 hg1 _; have hp := push_out hB2 hz2 HO2.out hg1 hown1; have hX3 := push_keep HO2.out HX2.out (by decide) hg1; have HO3 := hide hp.2; have hB3 := hp.1; have q2 : w3.cell? ⟨wr.heap.size, 2, none⟩ = some (.slice AX x.n x.cap) := (block_cell hX3 2).trans rfl; clear hown1 hg1 hp hX3)
              have hl1 := lines_snoc ws hs
              obtain ⟨ws1, hws1⟩ : ∃ ws1, ws ++ [hs] = ws1 := ⟨_, rfl⟩
              rw [hws1] at HO3 hl1
              have hl1s : (linesL ws1).length ≤ k * 1000000 + 4000 := by rw [hl1, List.length_append, List.length_append, ← size_of rfl, List.length_singleton]; omega
              obtain ⟨L3, hL3⟩ : ∃ L3, linesL ws1 = L3 := ⟨_, rfl⟩
              have HL3 := hide (show L3 = (List.range k).flatMap (innerAt l) ++ ((if k = 0 then [] else causedL) ++ headL x) by rw [← hL3, hl1, HLW.out, HHS.out])
              have HLW1 := hide hL3
              rw [hL3] at hl1s
              clear hL3 hl1 hws1
              clear q2 hmz
              obtain ⟨wo, rfl⟩ : ∃ wo : World, wo = wr := ⟨_, rfl⟩
              go_loopw [10, 113] (fun v a wr => ∃ (j : Nat) (ws : List ByteArray), j ≤ m ∧ a = .int .i64 j ∧ wr.ownsRow w.heap.size 9 1 v ws.length (ws.flatMap cs) ∧ linesL ws = L3 ++ (x.frs.take j).flatMap frInner ∧ Below w.heap.size w wr ∧ (linesL ws).length ≤ k * 1000000 + 4000 + j * 3000) (fun _ a _ => m - (intOf a).toNat)
              case atStart => exact ⟨0, ws1, Nat.zero_le _, rfl, HO3.out, by rw [HLW1.out]; simp, hB3, by rw [HLW1.out]; omega⟩
              case round =>
                obtain ⟨j, ws2, hj, rfl, hoj, hlj, hBj, hnj⟩ := hrel
                have hzj := hBj.size
                have hbj := lines_len ws2
                by_cases hlt2 : j < m
                · obtain ⟨fb, fo, y, hA, hfb, hy, hcf⟩ := ((HGD.out x (List.mem_of_getElem? HX.out)).sl.below hBj).at_ (show j < x.n by omega)
                  have hA' := HAX.out.symm.trans hA
                  subst hA'
                  clear hA
                  have hyg := HG.out.fr y (List.mem_of_getElem? hy)
                  have c0 : wr.cell? ⟨fb, fo + j * 6, none⟩ = some (.string y.mod) := by simpa using hcf 0 _ rfl
                  have c1 : wr.cell? ⟨fb, fo + j * 6 + 1, none⟩ = some (.string y.fn) := hcf 1 _ rfl
                  have c2 : wr.cell? ⟨fb, fo + j * 6 + 2, none⟩ = some (.string y.file) := hcf 2 _ rfl
                  have c3 : wr.cell? ⟨fb, fo + j * 6 + 3, none⟩ = some (.int .i64 y.line) := hcf 3 _ rfl
                  have c4 : wr.cell? ⟨fb, fo + j * 6 + 4, none⟩ = some (.int .i64 y.addr) := hcf 4 _ rfl
                  have c5 : wr.cell? ⟨fb, fo + j * 6 + 5, none⟩ = some (.bool y.own) := hcf 5 _ rfl
                  obtain ⟨lb, hlb⟩ : ∃ lb : ByteArray, ⟨(lineL y).toArray⟩ = lb := ⟨_, rfl⟩
                  have HLN := hide (fun W => lineOf_any y W hyg)
                  rw [hlb] at HLN
                  have hll : lb.data.toList = lineL y := by rw [← hlb]
                  have hls : lb.size ≤ 1500 := by
                    rw [size_of hll]
                    unfold lineL
                    rw [List.length_append, ← size_of rfl]
                    have h1 := call_len y hyg
                    have h2 := place_len y hyg
                    omega
                  have HLL := hide hll
                  clear hlb hll
                  have h7 : (⟨#[32, 32, 32, 32, 97, 116, 32]⟩ : ByteArray).size = 7 := rfl
                  have HST := hide (show linesL (ws2 ++ [⟨#[32, 32, 32, 32, 97, 116, 32]⟩ ++ lb]) = L3 ++ (x.frs.take (j + 1)).flatMap frInner by rw [lines_snoc, hlj, flat_take_succ frInner hy, ByteArray.data_append, Array.toList_append, HLL.out]; unfold frInner; simp)
                  have HLS := hide (show (linesL (ws2 ++ [⟨#[32, 32, 32, 32, 97, 116, 32]⟩ ++ lb])).length ≤ k * 1000000 + 4000 + (j + 1) * 3000 by rw [lines_snoc, List.length_append, List.length_append, ← size_of rfl, ByteArray.size_append, List.length_singleton]; omega)
                  have HOJ := hide (hoj.alloc (.cells #[.string y.mod, .string y.fn, .string y.file, .int .i64 y.line, .int .i64 y.addr, .bool y.own] 35))
                  have HBJ := hide (hBj.alloc hzj (.cells #[.string y.mod, .string y.fn, .string y.file, .int .i64 y.line, .int .i64 y.addr, .bool y.own] 35))
                  clear hcf hy hoj hlj
                  go_wp2_with (fail)
                  refine (HLN.out _).mono ?_
                  rintro e w4 ⟨rfl, hw4⟩
                  have hB4 := HBJ.out.trans (hw4.mono HBJ.out.size)
                  have hz4 := hB4.size
                  have HO4 := hide (own_below HOJ.out hw4)
                  clear hw4
                  go_wp2_with (at_builtin; refine wpList_append_own _ rfl (.tmp 117) (.tmp 121) 45 rfl w.heap.size 9 i0 (.string ByteArray.empty) 1 16 Tryd.underlying45 hi0 iz0 iz1 iz2 rfl (by decide) _ (ws2).length _ rfl (HO4.out.alloc _) ⟨w4.heap.size, 0, none⟩ 1 1 [.string (⟨#[32, 32, 32, 32, 97, 116, 32]⟩ ++ lb)] rfl rfl (cells_at _ [.string (⟨#[32, 32, 32, 32, 97, 116, 32]⟩ ++ lb)] _ _ (by first | rfl | simp)) (by intro u hu; simp at hu; subst hu; rfl) (by unfold maxLen; omega) (by omega) (by simp; try omega) ?_; intro v5 w5 hown1 hg1 _)
                  have hp := push_out hB4 hz4 HO4.out hg1 hown1
                  have HO5 := hide hp.2
                  have hB5 := hp.1
                  clear hown1 hg1 hp
                  go_wp2_with (fail)
                  go_roundw
                  case rel => exact ⟨j + 1, ws2 ++ [⟨#[32, 32, 32, 32, 97, 116, 32]⟩ ++ lb], by omega, by go_num, HO5.out, HST.out, hB5, HLS.out⟩
                  case measure => simp [intOf]; omega
                · obtain rfl : j = m := by omega
                  have hpa : (List.range (k + 1)).flatMap (innerAt l) = linesL ws2 ++ moreL SH := by
                    rw [flat_range_succ, hlj, HL3.out]
                    have hat : innerAt l k = (if k = 0 then [] else causedL) ++ headL x ++ (x.frs.take (x.frs.length - goneN l k)).flatMap frInner ++ moreL (goneN l k) := by unfold innerAt; rw [HX.out]
                    rw [hat, HGO.out, show x.frs.length - SH = j by rw [HG.out.sl.len]; omega]
                    simp only [List.append_assoc]
                  have HPA := hide hpa
                  have HOJ := hide hoj
                  clear hpa hoj hlj
                  obtain ⟨tb, htb⟩ : ∃ tb : ByteArray, ⟨(toldL (SH : Int)).toArray⟩ = tb := ⟨_, rfl⟩
                  have htl : tb.data.toList = toldL (SH : Int) := by rw [← htb]
                  have hts : tb.size ≤ 3 := by rw [size_of htl]; exact more_len SH (by omega)
                  have HIT := hide (fun W => Told_any (SH : Int) W (by omega) (by omega))
                  rw [htb] at HIT
                  have h8 : (⟨#[32, 32, 32, 32, 46, 46, 46, 32]⟩ : ByteArray).size = 8 := rfl
                  have h5 : (⟨#[32, 109, 111, 114, 101]⟩ : ByteArray).size = 5 := rfl
                  have hl2 := lines_snoc ws2 (⟨#[32, 32, 32, 32, 46, 46, 46, 32]⟩ ++ tb ++ ⟨#[32, 109, 111, 114, 101]⟩)
                  have HPB := hide (show linesL (ws2 ++ [⟨#[32, 32, 32, 32, 46, 46, 46, 32]⟩ ++ tb ++ ⟨#[32, 109, 111, 114, 101]⟩]) = (List.range (k + 1)).flatMap (innerAt l) by rw [HPA.out, hl2]; unfold moreL; rw [if_neg (by omega), ← htl]; simp [ByteArray.data_append])
                  have HLE := hide (show (linesL (ws2 ++ [⟨#[32, 32, 32, 32, 46, 46, 46, 32]⟩ ++ tb ++ ⟨#[32, 109, 111, 114, 101]⟩])).length ≤ (k + 1) * 1000000 by rw [hl2, List.length_append, List.length_append, ← size_of rfl, ByteArray.size_append, ByteArray.size_append, List.length_singleton]; omega)
                  have hs0 : (0 : Int) < (SH : Int) := by omega
                  have hs1 : 0 < SH := by omega
                  clear htb htl h8 h5 hl2
                  go_wp2_with (fail)
                  refine (HIT.out _).mono ?_
                  rintro e w5 ⟨rfl, hw5⟩
                  have hB5 := hBj.trans (hw5.mono hzj)
                  have hz5 := hB5.size
                  have HO5 := hide (own_below HOJ.out hw5)
                  clear hw5
                  go_wp2_with (at_builtin; refine wpList_append_own _ rfl (.tmp 126) (.tmp 131) 45 rfl w.heap.size 9 i0 (.string ByteArray.empty) 1 16 Tryd.underlying45 hi0 iz0 iz1 iz2 rfl (by decide) _ (ws2).length _ rfl (HO5.out.alloc _) ⟨w5.heap.size, 0, none⟩ 1 1 [.string (⟨#[32, 32, 32, 32, 46, 46, 46, 32]⟩ ++ tb ++ ⟨#[32, 109, 111, 114, 101]⟩)] rfl rfl (cells_at _ [.string (⟨#[32, 32, 32, 32, 46, 46, 46, 32]⟩ ++ tb ++ ⟨#[32, 109, 111, 114, 101]⟩)] _ _ (by first | rfl | simp)) (by intro u hu; simp at hu; subst hu; rfl) (by unfold maxLen; omega) (by omega) (by simp; try omega) ?_; intro v6 w6 hown1 hg1 _)
                  have hp := push_out hB5 hz5 HO5.out hg1 hown1
                  have HO6 := hide hp.2
                  have hB6 := hp.1
                  clear hown1 hg1 hp
                  go_wp2_with (fail)
                  go_roundw
                  case rel => exact ⟨k + 1, ws2 ++ [⟨#[32, 32, 32, 32, 46, 46, 46, 32]⟩ ++ tb ++ ⟨#[32, 109, 111, 114, 101]⟩], by omega, by go_num, HO6.out, HPB.out, hB6, HLE.out⟩
                  case measure => simp [intOf]; omega
        · obtain rfl : k = n := by omega
          have hbig := lines_len ws
          have HSM := hide (sumL_lines ws)
          have HOW := hide how
          have HLW := hide hlw
          clear how hlw
          go_wp2_with (at_builtin; refine wpList_append_own _ rfl (.tmp 183) (.tmp 184) 45 rfl w.heap.size 9 i0 (.string ByteArray.empty) 1 16 Tryd.underlying45 hi0 iz0 iz1 iz2 rfl (by decide) _ (ws).length _ rfl (HOW.out.alloc _) ⟨wr.heap.size, 0, none⟩ 1 1 [.string ⟨#[]⟩] rfl rfl (cells_at _ [.string ⟨#[]⟩] _ _ (by first | rfl | simp)) (by intro u hu; simp at hu; subst hu; rfl) (by unfold maxLen; omega) (by omega) (by simp; try omega) ?_; intro v1 w1 hown1 hg1 _)
          have hp := push_out hB hz HOW.out hg1 hown1
          have HO1 := hide hp.2
          have HB1 := hide hp.1
          clear hown1 hg1 hp
          obtain ⟨A2, cc, rfl, hsl, hnc2, hcm⟩ := sl_of_own (f := cs) (l := ws ++ [(⟨#[]⟩ : ByteArray)]) (n := (ws ++ [(⟨#[]⟩ : ByteArray)]).length) (fun _ => rfl) rfl HO1.out
          have hle : (ws ++ [(⟨#[]⟩ : ByteArray)]).length = ws.length + 1 := by simp
          refine (Join_any A2 _ cc (ws ++ [(⟨#[]⟩ : ByteArray)]) 10 w1 hnc2 (by rcases hcm with h | h; (rw [hle] at h; exact absurd h (by omega)); exact h) (by rw [sumL_snoc, hle]; have h0 : (⟨#[]⟩ : ByteArray).size = 0 := rfl; have := HSM.out; omega) hsl).mono ?_
          rintro e w2 ⟨rfl, hw2⟩
          have HB2 := HB1.out.trans (hw2.mono HB1.out.size)
          go_wp2_with (fail)
          go_ret2
          exact ⟨by show Ending.returned (.tuple #[.string ⟨(joinL 10 (ws ++ [⟨#[]⟩])).toArray⟩, .bool true]) = _; rw [HRW.out, join_lines, HLW.out, ← HL.out]; (try rfl), HB2⟩
end Go.Proofs.YtnlliddfljogjaaDoor
