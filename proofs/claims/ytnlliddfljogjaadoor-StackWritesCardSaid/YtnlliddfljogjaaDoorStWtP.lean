/- Walk of the reference's Written at form 3 (printed by gen_wt.py). -/
import Derived.Test.YtnlliddfljogjaaDoorStWt0
namespace Go.Proofs.YtnlliddfljogjaaDoor
open Go.RowKit
set_option linter.unusedVariables false
set_option maxRecDepth 100000 in
set_option maxHeartbeats 16000000 in
theorem Written_pairs (A : Option Addr) (n c : Nat) (l : List FaultT) (w : World) (hnc : n ≤ c) (hl : Sl w w.heap.size FaultT.cs 3 A n l) (hf : FaultsOk w l) (hE : fltsErr l = 0) :
    Calls Tryd.prog 6 #[.slice A n c, .int .i64 3] w fun e w' => e = .returned (if banged l then .tuple #[.string ⟨#[]⟩, .bool false] else .tuple #[.string ⟨(writtenL l 3).toArray⟩, .bool true]) ∧ Below w.heap.size w w' := by
  obtain ⟨hlen, hgood⟩ := fltsErr_good hE hf
  have HL := hide hl.len
  have hn : n ≤ 10 := by have := hl.len; omega
  have HSL := hide hl
  have HGD := hide hgood
  obtain ⟨i0, hi0, iz0, iz1, iz2⟩ := info_parts info_strS
  obtain ⟨RV, hRV⟩ : ∃ RV : Value, (if banged l then .tuple #[.string ⟨#[]⟩, .bool false] else .tuple #[.string ⟨(writtenL l 3).toArray⟩, .bool true]) = RV := ⟨_, rfl⟩
  rw [hRV]
  have HRV := hide hRV
  clear hl hf hgood hE hRV
  go_enter Tryd.func6, Tryd.ntmps6
  go_wp2_with (fail)
  go_loopw [25] (fun i wr => ∃ k : Nat, k ≤ n ∧ i = .int .i64 k ∧ (∀ x ∈ l.take k, bangF x = false) ∧ Below w.heap.size w wr) (fun i _ => n - (intOf i).toNat)
  case atStart => exact ⟨0, Nat.zero_le _, rfl, by simp, Below.refl _ _⟩
  case round =>
    obtain ⟨k, hk, rfl, hno, hB⟩ := hrel
    have HNO := hide hno
    have hz := hB.size
    clear hno
    by_cases hlt : k < n
    · obtain ⟨bb, oo, x, rfl, hbb, hx, hc⟩ := (HSL.out.below hB).at_ hlt
      have hg := (HGD.out x (List.mem_of_getElem? hx)).below hB
      obtain ⟨AX, hAX⟩ : ∃ AX, x.A = AX := ⟨_, rfl⟩
      have c0 : wr.cell? ⟨bb, oo + k * 3, none⟩ = some (.string x.kind) := by simpa using hc 0 _ rfl
      have c1 : wr.cell? ⟨bb, oo + k * 3 + 1, none⟩ = some (.string x.text) := hc 1 _ rfl
      have c2 : wr.cell? ⟨bb, oo + k * 3 + 2, none⟩ = some (.slice AX x.n x.cap) := hAX ▸ hc 2 _ rfl
      have HG := hide hg
      have HX := hide hx
      have HAX := hide hAX
      have hxn := hg.n
      have hxc := hg.nc
      have hBA := hB.alloc hz (.cells #[.string x.kind, .string x.text, .slice AX x.n x.cap] 33)
      clear hc hg hx hAX
      go_wp2_with (fail)
      obtain ⟨wo, rfl⟩ : ∃ wo : World, wo = wr := ⟨_, rfl⟩
      go_loopw [32] (fun i wr => ∃ j : Nat, j ≤ x.n ∧ i = .int .i64 j ∧ (∀ y ∈ x.frs.take j, bangX y = false) ∧ Below w.heap.size w wr) (fun i _ => x.n - (intOf i).toNat)
      case atStart => exact ⟨0, Nat.zero_le _, rfl, by simp, hBA⟩
      case round =>
        obtain ⟨j, hj, rfl, hnj, hBj⟩ := hrel
        have HNJ := hide hnj
        have hzj := hBj.size
        clear hnj
        by_cases hlt2 : j < x.n
        · obtain ⟨fb, fo, y, hA, hfb, hy, hcf⟩ := ((HGD.out x (List.mem_of_getElem? HX.out)).sl.below hBj).at_ hlt2
          have hA' := HAX.out.symm.trans hA
          subst hA'
          clear hA
          have hyg := HG.out.fr y (List.mem_of_getElem? hy)
          have hym := hyg.m
          have hyf := hyg.f
          have c0 : wr.cell? ⟨fb, fo + j * 6, none⟩ = some (.string y.mod) := by simpa using hcf 0 _ rfl
          have c1 : wr.cell? ⟨fb, fo + j * 6 + 1, none⟩ = some (.string y.fn) := hcf 1 _ rfl
          have c2 : wr.cell? ⟨fb, fo + j * 6 + 2, none⟩ = some (.string y.file) := hcf 2 _ rfl
          have c3 : wr.cell? ⟨fb, fo + j * 6 + 3, none⟩ = some (.int .i64 y.line) := hcf 3 _ rfl
          have c4 : wr.cell? ⟨fb, fo + j * 6 + 4, none⟩ = some (.int .i64 y.addr) := hcf 4 _ rfl
          have c5 : wr.cell? ⟨fb, fo + j * 6 + 5, none⟩ = some (.bool y.own) := hcf 5 _ rfl
          have HY := hide hy
          have hBC := hBj.alloc hzj (.cells #[.string y.mod, .string y.fn, .string y.file, .int .i64 y.line, .int .i64 y.addr, .bool y.own] 35)
          have HF := hide (fun W => Contains_bang (y.mod ++ y.fn) W)
          rw [bang_app] at HF
          clear hcf hy hyg
          cases h1 : bangX y
          · have HNB := hide h1
            rw [h1] at HF
            clear h1
            go_wp2_with (go_at_call 9; refine (HF.out _).mono ?_; rintro e w' ⟨rfl, rfl⟩)
            go_roundw
            case rel => exact ⟨j + 1, by omega, by go_num, take_all_snoc HNJ.out HY.out HNB.out, hBC⟩
            case measure => simp [intOf]; omega
          · have HNB := hide (show banged l = true from banged_hit HX.out HY.out h1)
            rw [h1] at HF
            clear h1
            go_wp2_with (go_at_call 9; refine (HF.out _).mono ?_; rintro e w' ⟨rfl, rfl⟩)
            go_ret2
            exact ⟨by rw [← HRV.out, if_pos HNB.out]; rfl, hBC⟩
        · obtain rfl : j = x.n := by omega
          have HNB := hide (show bangF x = false from bangF_none (by rw [HG.out.sl.len]; exact HNJ.out))
          go_wp2_with (fail)
          go_roundw
          case rel => exact ⟨k + 1, by omega, by go_num, take_all_snoc HNO.out HX.out HNB.out, hBj⟩
          case measure => simp [intOf]; omega
    · obtain rfl : k = n := by omega
      have HBG := hide (show banged l = false from banged_none (fun x hx => HNO.out x (by rw [take_len l (by rw [HL.out]; exact Nat.le_refl _)]; exact hx)))
      have HRW := hide (show RV = .tuple #[.string ⟨(writtenL l 3).toArray⟩, .bool true] by rw [← HRV.out, if_neg (by rw [HBG.out]; decide)])
      clear HNO HBG HRV
      go_wp2_with (fail)
      obtain ⟨wq, rfl⟩ : ∃ wq : World, wq = wr := ⟨_, rfl⟩
      have HBQ := hide hB
      clear hB hz hlt hk
      obtain ⟨n, rfl⟩ : ∃ n : Nat, n = k := ⟨_, rfl⟩
      go_loopw [10, 47] (fun v i wr => ∃ (k : Nat) (ws : List ByteArray), k ≤ n ∧ i = .int .i64 k ∧ wr.ownsRow w.heap.size 9 1 v ws.length (ws.flatMap cs) ∧ linesL ws = (List.range k).flatMap (pairAt l) ∧ Below w.heap.size w wr ∧ (linesL ws).length ≤ k * 1000000) (fun _ i _ => n - (intOf i).toNat)
      case atStart => exact ⟨0, [], Nat.zero_le _, rfl, World.ownsRow_nil _ _ _ _, rfl, HBQ.out, by simp [linesL]⟩
      case round =>
        obtain ⟨k, ws, hk, rfl, how, hlw, hB, hlen⟩ := hrel
        have hz := hB.size
        by_cases hlt : k < n
        · obtain ⟨bb, oo, x, rfl, hbb, hx, hc⟩ := (HSL.out.below hB).at_ hlt
          have hg := (HGD.out x (List.mem_of_getElem? hx)).below hB
          obtain ⟨AX, hAX⟩ : ∃ AX, x.A = AX := ⟨_, rfl⟩
          have c0 : wr.cell? ⟨bb, oo + k * 3, none⟩ = some (.string x.kind) := by simpa using hc 0 _ rfl
          have c1 : wr.cell? ⟨bb, oo + k * 3 + 1, none⟩ = some (.string x.text) := hc 1 _ rfl
          have c2 : wr.cell? ⟨bb, oo + k * 3 + 2, none⟩ = some (.slice AX x.n x.cap) := hAX ▸ hc 2 _ rfl
          have HG := hide hg
          have HX := hide hx
          have HAX := hide hAX
          have hxn := hg.n
          have hxc := hg.nc
          obtain ⟨hv, hhv⟩ : ∃ hv : ByteArray, ⟨(headR x).toArray⟩ = hv := ⟨_, rfl⟩
          have hhl : hv.data.toList = headR x := by rw [← hhv]
          have hhs : hv.size ≤ 3000 := by
            rw [size_of hhl]
            have h1 := hg.k
            have h2 := hg.t
            have e1 := size_of (x := x.kind) rfl
            have e2 := size_of (x := x.text) rfl
            unfold headR
            split <;> simp only [List.length_append, List.length_cons, List.length_nil] <;> omega
          have HHD := hide (fun W => headOf_any x W hg.k hg.t)
          rw [hhv, hAX] at HHD
          have HHL := hide (show headL x = hv.data.toList ++ [10] by rw [hhl]; rfl)
          have HC := hide hc
          clear hc hg hx hhv hhl hAX
          have HOW := hide how
          have HLW := hide hlw
          have hbig := lines_len ws
          have HX0 := hide (heap_alloc_new wr (.cells #[.string x.kind, .string x.text, .slice AX x.n x.cap] 33))
          have HOA := hide (how.alloc (.cells #[.string x.kind, .string x.text, .slice AX x.n x.cap] 33))
          have HBA := hide (hB.alloc hz (.cells #[.string x.kind, .string x.text, .slice AX x.n x.cap] 33))
          have h6 : (⟨#[102, 97, 117, 108, 116, 32]⟩ : ByteArray).size = 6 := rfl
          clear how hlw
          go_wp2_with (fail)
          refine (HHD.out _).mono ?_
          rintro e w1 ⟨rfl, hw1⟩
          have hB1 : Below w.heap.size w w1 := HBA.out.trans (hw1.mono HBA.out.size)
          have hz1 := hB1.size
          have HO1 := hide (own_below HOA.out hw1)
          have HX1 := hide (block_below HX0.out hw1)
          clear hw1
          go_wp2_with (at_builtin; refine wpList_append_own _ rfl (.tmp 51) (.tmp 55) 45 rfl w.heap.size 9 i0 (.string ByteArray.empty) 1 16 Tryd.underlying45 hi0 iz0 iz1 iz2 rfl (by decide) _ (ws).length _ rfl (HO1.out.alloc _) ⟨w1.heap.size, 0, none⟩ 1 1 [.string (⟨#[102, 97, 117, 108, 116, 32]⟩ ++ hv)] rfl rfl (cells_at _ [.string (⟨#[102, 97, 117, 108, 116, 32]⟩ ++ hv)] _ _ (by first | rfl | simp)) (by intro u hu; simp at hu; subst hu; rfl) (by unfold maxLen; omega) (by omega) (by simp; try omega) ?_; intro v1 w1_1 hown1 hg1 _; have hp := push_out hB1 hz1 HO1.out hg1 hown1; have hX2 := push_keep HO1.out HX1.out (by decide) hg1; have HO2 := hide hp.2; have hB2 := hp.1; have q2 : w1_1.cell? ⟨wr.heap.size, 2, none⟩ = some (.slice AX x.n x.cap) := (block_cell hX2 2).trans rfl; clear hown1 hg1 hp hX2)
          have hl1 := lines_snoc ws (⟨#[102, 97, 117, 108, 116, 32]⟩ ++ hv)
          obtain ⟨ws1, hws1⟩ : ∃ ws1, ws ++ [⟨#[102, 97, 117, 108, 116, 32]⟩ ++ hv] = ws1 := ⟨_, rfl⟩
          rw [hws1] at HO2 hl1
          have hl1s : (linesL ws1).length ≤ k * 1000000 + 4000 := by rw [hl1, List.length_append, List.length_append, ← size_of rfl, ByteArray.size_append, List.length_singleton]; omega
          obtain ⟨L1, hL1⟩ : ∃ L1, linesL ws1 = L1 := ⟨_, rfl⟩
          have HL1 := hide (show L1 = (List.range k).flatMap (pairAt l) ++ (faultL ++ headL x) by rw [← hL1, hl1, HLW.out, HHL.out]; simp [faultL, ByteArray.data_append])
          have HLW1 := hide hL1
          rw [hL1] at hl1s
          clear hL1 hl1 hws1 h6
          clear q2
          obtain ⟨wo, rfl⟩ : ∃ wo : World, wo = wr := ⟨_, rfl⟩
          go_loopw [10, 60] (fun v a wr => ∃ (j : Nat) (ws : List ByteArray), j ≤ x.n ∧ a = .int .i64 j ∧ wr.ownsRow w.heap.size 9 1 v ws.length (ws.flatMap cs) ∧ linesL ws = L1 ++ (x.frs.take j).flatMap frPair ∧ Below w.heap.size w wr ∧ (linesL ws).length ≤ k * 1000000 + 4000 + j * 3000) (fun _ a _ => x.n - (intOf a).toNat)
          case atStart => exact ⟨0, ws1, Nat.zero_le _, rfl, HO2.out, by rw [HLW1.out]; simp, hB2, by rw [HLW1.out]; omega⟩
          case round =>
            obtain ⟨j, ws2, hj, rfl, hoj, hlj, hBj, hnj⟩ := hrel
            have hzj := hBj.size
            have hbj := lines_len ws2
            by_cases hlt2 : j < x.n
            · obtain ⟨fb, fo, y, hA, hfb, hy, hcf⟩ := ((HGD.out x (List.mem_of_getElem? HX.out)).sl.below hBj).at_ hlt2
              have hA' := HAX.out.symm.trans hA
              subst hA'
              clear hA
              have hyg := HG.out.fr y (List.mem_of_getElem? hy)
              have c0 : wr.cell? ⟨fb, fo + j * 6, none⟩ = some (.string y.mod) := by simpa using hcf 0 _ rfl
              have c1 : wr.cell? ⟨fb, fo + j * 6 + 1, none⟩ = some (.string y.fn) := hcf 1 _ rfl
              have c2 : wr.cell? ⟨fb, fo + j * 6 + 2, none⟩ = some (.string y.file) := hcf 2 _ rfl
              have c3 : wr.cell? ⟨fb, fo + j * 6 + 3, none⟩ = some (.int .i64 y.line) := hcf 3 _ rfl
              have c4 : wr.cell? ⟨fb, fo + j * 6 + 4, none⟩ = some (.int .i64 y.addr) := hcf 4 _ rfl
              have c5 : wr.cell? ⟨fb, fo + j * 6 + 5, none⟩ = some (.bool y.own) := hcf 5 _ rfl
              obtain ⟨rb, hrb⟩ : ∃ rb : ByteArray, ⟨(restL y).toArray⟩ = rb := ⟨_, rfl⟩
              have HCA := hide (fun W => nameOf_any y W hyg.m hyg.f)
              have HRE := hide (fun W => restOf_any y W hyg)
              rw [hrb] at HRE
              have hcl := call_len y hyg
              have hrl : rb.data.toList = restL y := by rw [← hrb]
              have hrs : rb.size ≤ 1000 := by rw [size_of hrl]; exact rest_len y hyg
              obtain ⟨cb, hcb⟩ : ∃ cb, callB y = cb := ⟨_, rfl⟩
              rw [hcb] at HCA hcl
              have h9 : (⟨#[9]⟩ : ByteArray).size = 1 := rfl
              have h90 : (⟨#[9]⟩ : ByteArray).data.toList = [9] := rfl
              have HST := hide (show linesL (ws2 ++ [cb, ⟨#[9]⟩ ++ rb]) = L1 ++ (x.frs.take (j + 1)).flatMap frPair by rw [lines_two, hlj, flat_take_succ frPair hy, ByteArray.data_append, Array.toList_append, h90, hrl]; unfold frPair; rw [hcb]; simp)
              have HLS := hide (show (linesL (ws2 ++ [cb, ⟨#[9]⟩ ++ rb])).length ≤ k * 1000000 + 4000 + (j + 1) * 3000 by rw [lines_two, List.length_append, List.length_append, List.length_append, List.length_append, ← size_of rfl, ← size_of rfl, ByteArray.size_append, List.length_singleton]; omega)
              have hOA : OutAt w.heap.size _ ws2 w wr.heap.size (.cells #[.string y.mod, .string y.fn, .string y.file, .int .i64 y.line, .int .i64 y.addr, .bool y.own] 35 (0, 0)) (wr.alloc (.cells #[.string y.mod, .string y.fn, .string y.file, .int .i64 y.line, .int .i64 y.addr, .bool y.own] 35)) := ⟨hoj.alloc _, hBj.alloc hzj _, heap_alloc_new wr _⟩
              have HOA2 := hide hOA
              clear hOA hcf hy hcb hoj hlj hrb hrl h90
              go_wp2_with (fail)
              have hLA := HOA2.out
              generalize (wr.alloc (.cells #[.string y.mod, .string y.fn, .string y.file, .int .i64 y.line, .int .i64 y.addr, .bool y.own] 35)) = wx at hLA ⊢
              clear c0 c1 c2 c3 c4 c5 HOA2
              obtain ⟨I1, F1, hi1, hLF, hJ1⟩ := ofam hLA (Nat.le_refl _)
              have HLF := hide hLF
              have hJ1 := hide hJ1
              have k0 := fun i => (block_cell (HLF.out i).bx 0).trans (rfl : _ = some (Value.string y.mod))
              have k1 := fun i => (block_cell (HLF.out i).bx 1).trans (rfl : _ = some (Value.string y.fn))
              have k2 := fun i => (block_cell (HLF.out i).bx 2).trans (rfl : _ = some (Value.string y.file))
              have k3 := fun i => (block_cell (HLF.out i).bx 3).trans (rfl : _ = some (Value.int .i64 y.line))
              have k4 := fun i => (block_cell (HLF.out i).bx 4).trans (rfl : _ = some (Value.int .i64 y.addr))
              have k5 := fun i => (block_cell (HLF.out i).bx 5).trans (rfl : _ = some (Value.bool y.own))
              haveI : Nonempty I1 := ⟨hi1.choose⟩
              clear hLA hLF
              refine wp_region_take_fam_tail F1 6 hi1 (by kernel_rfl) (by kernel_rfl) (fun _ _ _ h => h) (.inl ⟨rfl, fun _ => rfl⟩) ?_
              simp only [List.take_succ_cons, List.take_zero, List.drop_succ_cons, List.drop_zero]
              simp only [Act.put, Act.eval, Array.getD_eq_getD_getElem?, List.getElem?_toArray, List.setIfInBounds_toArray, List.set_cons_succ, List.set_cons_zero, List.getElem?_cons_succ, List.getElem?_cons_zero, Option.getD_some]
              (repeat (go_big_quiet_step (first | (go_at_call 20; refine (HCA.out _).mono ?_; rintro e w' ⟨rfl, hw'⟩; exact ⟨rfl, hJ1.out _ _ hw'⟩) | (go_at_call 21; refine (HRE.out _).mono ?_; rintro e w' ⟨rfl, hw'⟩; exact ⟨rfl, hJ1.out _ _ hw'⟩))))
              refine wpQuiet_nil ?_
              rintro _ ⟨i1, rfl⟩
              have HO3 := hide (HLF.out i1).own
              have hB3 := (HLF.out i1).be
              have hz3 := hB3.size
              obtain ⟨w3, hw3⟩ : ∃ w3, F1 i1 = w3 := ⟨_, rfl⟩
              rw [hw3] at HO3 hB3 hz3 ⊢
              clear hw3 k0 k1 k2 k3 k4 k5
              go_wp2_with (at_builtin; refine wpList_append_own _ rfl (.tmp 64) (.tmp 70) 45 rfl w.heap.size 9 i0 (.string ByteArray.empty) 1 16 Tryd.underlying45 hi0 iz0 iz1 iz2 rfl (by decide) _ ws2.length _ rfl (HO3.out.alloc _) ⟨w3.heap.size, 0, none⟩ 2 2 [.string cb, .string (⟨#[9]⟩ ++ rb)] rfl rfl (cells_at _ [.string cb, .string (⟨#[9]⟩ ++ rb)] _ _ (by first | rfl | simp)) (by intro u hu; simp at hu; rcases hu with rfl | rfl <;> rfl) (by unfold maxLen; omega) (by omega) (by simp; try omega) ?_; intro v4 w4 hown4 hg4 _)
              have hp := push_out2 hB3 hz3 HO3.out hg4 hown4
              have HO4 := hide hp.2
              have hB4 := hp.1
              clear hown4 hg4 hp
              go_wp2_with (fail)
              go_roundw
              case rel => exact ⟨j + 1, ws2 ++ [cb, ⟨#[9]⟩ ++ rb], by omega, by go_num, HO4.out, HST.out, hB4, HLS.out⟩
              case measure => simp [intOf]; omega
            · obtain rfl : j = x.n := by omega
              have hfl : x.frs.length = x.n := HG.out.sl.len
              have HPA := hide (show linesL ws2 = (List.range (k + 1)).flatMap (pairAt l) by
                rw [hlj, HL1.out, flat_range_succ, take_len _ (by omega)]
                have : pairAt l k = faultL ++ headL x ++ x.frs.flatMap frPair := by unfold pairAt; rw [HX.out]
                rw [this]; simp)
              have HOJ := hide hoj
              clear hoj hlj
              go_wp2_with (fail)
              go_roundw
              case rel => exact ⟨k + 1, ws2, by omega, by go_num, HOJ.out, HPA.out, hBj, by omega⟩
              case measure => simp [intOf]; omega
        · obtain rfl : k = n := by omega
          have hbig := lines_len ws
          have HSM := hide (sumL_lines ws)
          have HOW := hide how
          have HLW := hide hlw
          clear how hlw
          go_wp2_with (at_builtin; refine wpList_append_own _ rfl (.tmp 183) (.tmp 184) 45 rfl w.heap.size 9 i0 (.string ByteArray.empty) 1 16 Tryd.underlying45 hi0 iz0 iz1 iz2 rfl (by decide) _ (ws).length _ rfl (HOW.out.alloc _) ⟨wr.heap.size, 0, none⟩ 1 1 [.string ⟨#[]⟩] rfl rfl (cells_at _ [.string ⟨#[]⟩] _ _ (by first | rfl | simp)) (by intro u hu; simp at hu; subst hu; rfl) (by unfold maxLen; omega) (by omega) (by simp; try omega) ?_; intro v1 w1 hown1 hg1 _)
          have hp := push_out hB hz HOW.out hg1 hown1
          have HO1 := hide hp.2
          have HB1 := hide hp.1
          clear hown1 hg1 hp
          obtain ⟨A2, cc, rfl, hsl, hnc2, hcm⟩ := sl_of_own (f := cs) (l := ws ++ [(⟨#[]⟩ : ByteArray)]) (n := (ws ++ [(⟨#[]⟩ : ByteArray)]).length) (fun _ => rfl) rfl HO1.out
          have hle : (ws ++ [(⟨#[]⟩ : ByteArray)]).length = ws.length + 1 := by simp
          refine (Join_any A2 _ cc (ws ++ [(⟨#[]⟩ : ByteArray)]) 10 w1 hnc2 (by rcases hcm with h | h; (rw [hle] at h; exact absurd h (by omega)); exact h) (by rw [sumL_snoc, hle]; have h0 : (⟨#[]⟩ : ByteArray).size = 0 := rfl; have := HSM.out; omega) hsl).mono ?_
          rintro e w2 ⟨rfl, hw2⟩
          have HB2 := HB1.out.trans (hw2.mono HB1.out.size)
          go_wp2_with (fail)
          go_ret2
          exact ⟨by show Ending.returned (.tuple #[.string ⟨(joinL 10 (ws ++ [⟨#[]⟩])).toArray⟩, .bool true]) = _; rw [HRW.out, join_lines, HLW.out, ← HL.out]; (try rfl), HB2⟩
end Go.Proofs.YtnlliddfljogjaaDoor
