/- Walk of the reference's Written at form 2 (printed by gen_wt.py). -/
import Derived.Test.YtnlliddfljogjaaDoorStWt0
namespace Go.Proofs.YtnlliddfljogjaaDoor
open Go.RowKit
set_option linter.unusedVariables false
set_option maxRecDepth 100000 in
set_option maxHeartbeats 16000000 in
theorem Written_outer (A : Option Addr) (n c : Nat) (l : List FaultT) (w : World) (hnc : n ≤ c) (hl : Sl w w.heap.size FaultT.cs 3 A n l) (hf : FaultsOk w l) (hE : fltsErr l = 0) :
    Calls Tryd.prog 6 #[.slice A n c, .int .i64 2] w fun e w' => e = .returned (if banged l then .tuple #[.string ⟨#[]⟩, .bool false] else .tuple #[.string ⟨(writtenL l 2).toArray⟩, .bool true]) ∧ Below w.heap.size w w' := by
  obtain ⟨hlen, hgood⟩ := fltsErr_good hE hf
  have HL := hide hl.len
  have hn : n ≤ 10 := by have := hl.len; omega
  have HSL := hide hl
  have HGD := hide hgood
  obtain ⟨i0, hi0, iz0, iz1, iz2⟩ := info_parts info_strS
  obtain ⟨RV, hRV⟩ : ∃ RV : Value, (if banged l then .tuple #[.string ⟨#[]⟩, .bool false] else .tuple #[.string ⟨(writtenL l 2).toArray⟩, .bool true]) = RV := ⟨_, rfl⟩
  rw [hRV]
  have HRV := hide hRV
  clear hl hf hgood hE hRV
  go_enter Tryd.func6, Tryd.ntmps6
  go_wp2_with (fail)
  go_loopw [25] (fun i wr => ∃ k : Nat, k ≤ n ∧ i = .int .i64 k ∧ (∀ x ∈ l.take k, bangF x = false) ∧ Below w.heap.size w wr) (fun i _ => n - (intOf i).toNat)
  case atStart => exact ⟨0, Nat.zero_le _, rfl, by simp, Below.refl _ _⟩
  case round =>
    obtain ⟨k, hk, rfl, hno, hB⟩ := hrel
    have HNO := hide hno
    have hz := hB.size
    clear hno
    by_cases hlt : k < n
    · obtain ⟨bb, oo, x, rfl, hbb, hx, hc⟩ := (HSL.out.below hB).at_ hlt
      have hg := (HGD.out x (List.mem_of_getElem? hx)).below hB
      obtain ⟨AX, hAX⟩ : ∃ AX, x.A = AX := ⟨_, rfl⟩
      have c0 : wr.cell? ⟨bb, oo + k * 3, none⟩ = some (.string x.kind) := by simpa using hc 0 _ rfl
      have c1 : wr.cell? ⟨bb, oo + k * 3 + 1, none⟩ = some (.string x.text) := hc 1 _ rfl
      have c2 : wr.cell? ⟨bb, oo + k * 3 + 2, none⟩ = some (.slice AX x.n x.cap) := hAX ▸ hc 2 _ rfl
      have HG := hide hg
      have HX := hide hx
      have HAX := hide hAX
      have hxn := hg.n
      have hxc := hg.nc
      have hBA := hB.alloc hz (.cells #[.string x.kind, .string x.text, .slice AX x.n x.cap] 33)
      clear hc hg hx hAX
      go_wp2_with (fail)
      obtain ⟨wo, rfl⟩ : ∃ wo : World, wo = wr := ⟨_, rfl⟩
      go_loopw [32] (fun i wr => ∃ j : Nat, j ≤ x.n ∧ i = .int .i64 j ∧ (∀ y ∈ x.frs.take j, bangX y = false) ∧ Below w.heap.size w wr) (fun i _ => x.n - (intOf i).toNat)
      case atStart => exact ⟨0, Nat.zero_le _, rfl, by simp, hBA⟩
      case round =>
        obtain ⟨j, hj, rfl, hnj, hBj⟩ := hrel
        have HNJ := hide hnj
        have hzj := hBj.size
        clear hnj
        by_cases hlt2 : j < x.n
        · obtain ⟨fb, fo, y, hA, hfb, hy, hcf⟩ := ((HGD.out x (List.mem_of_getElem? HX.out)).sl.below hBj).at_ hlt2
          have hA' := HAX.out.symm.trans hA
          subst hA'
          clear hA
          have hyg := HG.out.fr y (List.mem_of_getElem? hy)
          have hym := hyg.m
          have hyf := hyg.f
          have c0 : wr.cell? ⟨fb, fo + j * 6, none⟩ = some (.string y.mod) := by simpa using hcf 0 _ rfl
          have c1 : wr.cell? ⟨fb, fo + j * 6 + 1, none⟩ = some (.string y.fn) := hcf 1 _ rfl
          have c2 : wr.cell? ⟨fb, fo + j * 6 + 2, none⟩ = some (.string y.file) := hcf 2 _ rfl
          have c3 : wr.cell? ⟨fb, fo + j * 6 + 3, none⟩ = some (.int .i64 y.line) := hcf 3 _ rfl
          have c4 : wr.cell? ⟨fb, fo + j * 6 + 4, none⟩ = some (.int .i64 y.addr) := hcf 4 _ rfl
          have c5 : wr.cell? ⟨fb, fo + j * 6 + 5, none⟩ = some (.bool y.own) := hcf 5 _ rfl
          have HY := hide hy
          have hBC := hBj.alloc hzj (.cells #[.string y.mod, .string y.fn, .string y.file, .int .i64 y.line, .int .i64 y.addr, .bool y.own] 35)
          have HF := hide (fun W => Contains_bang (y.mod ++ y.fn) W)
          rw [bang_app] at HF
          clear hcf hy hyg
          cases h1 : bangX y
          · have HNB := hide h1
            rw [h1] at HF
            clear h1
            go_wp2_with (go_at_call 9; refine (HF.out _).mono ?_; rintro e w' ⟨rfl, rfl⟩)
            go_roundw
            case rel => exact ⟨j + 1, by omega, by go_num, take_all_snoc HNJ.out HY.out HNB.out, hBC⟩
            case measure => simp [intOf]; omega
          · have HNB := hide (show banged l = true from banged_hit HX.out HY.out h1)
            rw [h1] at HF
            clear h1
            go_wp2_with (go_at_call 9; refine (HF.out _).mono ?_; rintro e w' ⟨rfl, rfl⟩)
            go_ret2
            exact ⟨by rw [← HRV.out, if_pos HNB.out]; rfl, hBC⟩
        · obtain rfl : j = x.n := by omega
          have HNB := hide (show bangF x = false from bangF_none (by rw [HG.out.sl.len]; exact HNJ.out))
          go_wp2_with (fail)
          go_roundw
          case rel => exact ⟨k + 1, by omega, by go_num, take_all_snoc HNO.out HX.out HNB.out, hBj⟩
          case measure => simp [intOf]; omega
    · obtain rfl : k = n := by omega
      have HBG := hide (show banged l = false from banged_none (fun x hx => HNO.out x (by rw [take_len l (by rw [HL.out]; exact Nat.le_refl _)]; exact hx)))
      have HRW := hide (show RV = .tuple #[.string ⟨(writtenL l 2).toArray⟩, .bool true] by rw [← HRV.out, if_neg (by rw [HBG.out]; decide)])
      clear HNO HBG HRV
      go_wp2_with (fail)
      obtain ⟨wq, rfl⟩ : ∃ wq : World, wq = wr := ⟨_, rfl⟩
      have HBQ := hide hB
      clear hB hz hlt hk
      obtain ⟨n, rfl⟩ : ∃ n : Nat, n = k := ⟨_, rfl⟩
      go_loopw [10, 17] (fun v i wr => ∃ (m : Nat) (jz : Int) (ws : List ByteArray), m ≤ n ∧ jz = (m : Int) - 1 ∧ i = .int .i64 jz ∧ wr.ownsRow w.heap.size 9 1 v ws.length (ws.flatMap cs) ∧ linesL ws = ((List.range n).drop m).reverse.flatMap (outerAt l) ∧ Below w.heap.size w wr ∧ (linesL ws).length ≤ (n - m) * 1000000) (fun _ i _ => (intOf i + 1).toNat)
      case atStart => exact ⟨n, (n : Int) - 1, [], Nat.le_refl _, rfl, rfl, World.ownsRow_nil _ _ _ _, by rw [List.drop_eq_nil_of_le (by simp)]; rfl, HBQ.out, by simp [linesL]⟩
      case round =>
        obtain ⟨m, jz, ws, hm, hjz, rfl, how, hlw, hB, hlen⟩ := hrel
        have hz := hB.size
        cases m with
        | zero =>
          have hneg : jz < 0 := by omega
          have hneg' : decide (0 ≤ jz) = false := by simp; omega
          clear hjz
          have hbig := lines_len ws
          have HSM := hide (sumL_lines ws)
          have HOW := hide how
          have HLW := hide hlw
          clear how hlw
          go_wp2_with (at_builtin; refine wpList_append_own _ rfl (.tmp 183) (.tmp 184) 45 rfl w.heap.size 9 i0 (.string ByteArray.empty) 1 16 Tryd.underlying45 hi0 iz0 iz1 iz2 rfl (by decide) _ (ws).length _ rfl (HOW.out.alloc _) ⟨wr.heap.size, 0, none⟩ 1 1 [.string ⟨#[]⟩] rfl rfl (cells_at _ [.string ⟨#[]⟩] _ _ (by first | rfl | simp)) (by intro u hu; simp at hu; subst hu; rfl) (by unfold maxLen; omega) (by omega) (by simp; try omega) ?_; intro v1 w1 hown1 hg1 _)
          have hp := push_out hB hz HOW.out hg1 hown1
          have HO1 := hide hp.2
          have HB1 := hide hp.1
          clear hown1 hg1 hp
          obtain ⟨A2, cc, rfl, hsl, hnc2, hcm⟩ := sl_of_own (f := cs) (l := ws ++ [(⟨#[]⟩ : ByteArray)]) (n := (ws ++ [(⟨#[]⟩ : ByteArray)]).length) (fun _ => rfl) rfl HO1.out
          have hle : (ws ++ [(⟨#[]⟩ : ByteArray)]).length = ws.length + 1 := by simp
          refine (Join_any A2 _ cc (ws ++ [(⟨#[]⟩ : ByteArray)]) 10 w1 hnc2 (by rcases hcm with h | h; (rw [hle] at h; exact absurd h (by omega)); exact h) (by rw [sumL_snoc, hle]; have h0 : (⟨#[]⟩ : ByteArray).size = 0 := rfl; have := HSM.out; omega) hsl).mono ?_
          rintro e w2 ⟨rfl, hw2⟩
          have HB2 := HB1.out.trans (hw2.mono HB1.out.size)
          go_wp2_with (fail)
          go_ret2
          exact ⟨by show Ending.returned (.tuple #[.string ⟨(joinL 10 (ws ++ [⟨#[]⟩])).toArray⟩, .bool true]) = _; rw [HRW.out, join_lines, HLW.out, List.drop_zero, ← HL.out]; (try rfl), HB2⟩
        | succ k =>
          obtain rfl : jz = (k : Int) := by omega
          have hlt : k < n := by omega
          have hk0 : (0 : Int) ≤ (k : Int) := by omega
          have hki : (k : Int) < (n : Int) := by omega
          clear hjz
          obtain ⟨bb, oo, x, rfl, hbb, hx, hc⟩ := (HSL.out.below hB).at_ hlt
          have hg := (HGD.out x (List.mem_of_getElem? hx)).below hB
          obtain ⟨AX, hAX⟩ : ∃ AX, x.A = AX := ⟨_, rfl⟩
          have c0 : wr.cell? ⟨bb, oo + k * 3, none⟩ = some (.string x.kind) := by simpa using hc 0 _ rfl
          have c1 : wr.cell? ⟨bb, oo + k * 3 + 1, none⟩ = some (.string x.text) := hc 1 _ rfl
          have c2 : wr.cell? ⟨bb, oo + k * 3 + 2, none⟩ = some (.slice AX x.n x.cap) := hAX ▸ hc 2 _ rfl
          have HG := hide hg
          have HX := hide hx
          have HAX := hide hAX
          have hxn := hg.n
          have hxc := hg.nc
          obtain ⟨hv, hhv⟩ : ∃ hv : ByteArray, ⟨(headR x).toArray⟩ = hv := ⟨_, rfl⟩
          have hhl : hv.data.toList = headR x := by rw [← hhv]
          have hhs : hv.size ≤ 3000 := by
            rw [size_of hhl]
            have h1 := hg.k
            have h2 := hg.t
            have e1 := size_of (x := x.kind) rfl
            have e2 := size_of (x := x.text) rfl
            unfold headR
            split <;> simp only [List.length_append, List.length_cons, List.length_nil] <;> omega
          have HHD := hide (fun W => headOf_any x W hg.k hg.t)
          rw [hhv, hAX] at HHD
          have HHL := hide (show headL x = hv.data.toList ++ [10] by rw [hhl]; rfl)
          have HC := hide hc
          clear hc hg hx hhv hhl hAX
          have HOW := hide how
          have HLW := hide hlw
          have hbig := lines_len ws
          have ht10 : (⟨#[84, 114, 97, 99, 101, 98, 97, 99, 107, 58]⟩ : ByteArray).size = 10 := rfl
          have hl1 := lines_snoc ws (⟨#[84, 114, 97, 99, 101, 98, 97, 99, 107, 58]⟩)
          obtain ⟨ws1, hws1⟩ : ∃ ws1, ws ++ [(⟨#[84, 114, 97, 99, 101, 98, 97, 99, 107, 58]⟩ : ByteArray)] = ws1 := ⟨_, rfl⟩
          rw [hws1] at hl1
          have hl1s : (linesL ws1).length ≤ (linesL ws).length + 11 := by rw [hl1, List.length_append, List.length_append, ← size_of rfl, List.length_singleton]; omega
          obtain ⟨L1, hL1⟩ : ∃ L1, linesL ws1 = L1 := ⟨_, rfl⟩
          have HL1 := hide (show L1 = ((List.range n).drop (k + 1)).reverse.flatMap (outerAt l) ++ traceL by rw [← hL1, hl1, hlw]; rfl)
          have HLW1 := hide hL1
          rw [hL1] at hl1s
          have HW1 := hide hws1
          clear hL1 hl1 hws1 how hlw ht10 c0 c1
          go_wp2_with (at_builtin; refine wpList_append_own _ rfl (.tmp 143) (.tmp 144) 45 rfl w.heap.size 9 i0 (.string ByteArray.empty) 1 16 Tryd.underlying45 hi0 iz0 iz1 iz2 rfl (by decide) _ (ws).length _ rfl (HOW.out.alloc _) ⟨wr.heap.size, 0, none⟩ 1 1 [.string ⟨#[84, 114, 97, 99, 101, 98, 97, 99, 107, 58]⟩] rfl rfl (cells_at _ [.string ⟨#[84, 114, 97, 99, 101, 98, 97, 99, 107, 58]⟩] _ _ (by first | rfl | simp)) (by intro u hu; simp at hu; subst hu; rfl) (by unfold maxLen; omega) (by omega) (by simp; try omega) ?_; intro v1 w1 hown1 hg1 _; have hp := push_out hB hz HOW.out hg1 hown1; rw [HW1.out] at hp; have HO1 := hide hp.2; have hB1 := hp.1; have q2 : w1.cell? ⟨bb, oo + k * 3 + 2, none⟩ = some (.slice AX x.n x.cap) := (hB1.cell (p := ⟨bb, oo + k * 3 + 2, none⟩) hbb).trans ((hB.cell (p := ⟨bb, oo + k * 3 + 2, none⟩) hbb).symm.trans c2); clear hown1 hg1 hp c2)
          clear q2
          obtain ⟨wo, rfl⟩ : ∃ wo : World, wo = wr := ⟨_, rfl⟩
          go_loopw [10, 18] (fun v a wr => ∃ (j : Nat) (jz : Int) (ws : List ByteArray), j ≤ x.n ∧ jz = (j : Int) - 1 ∧ a = .int .i64 jz ∧ wr.ownsRow w.heap.size 9 1 v ws.length (ws.flatMap cs) ∧ linesL ws = L1 ++ (x.frs.drop j).reverse.flatMap frOuter ∧ Below w.heap.size w wr ∧ (linesL ws).length ≤ L1.length + (x.n - j) * 3000) (fun _ a _ => (intOf a + 1).toNat)
          case atStart => exact ⟨x.n, (x.n : Int) - 1, ws1, Nat.le_refl _, rfl, rfl, HO1.out, by rw [HLW1.out, List.drop_eq_nil_of_le (by have := HG.out.sl.len; omega)]; simp, hB1, by rw [HLW1.out]; omega⟩
          case round =>
            obtain ⟨j, jz, ws2, hj, hjz, rfl, hoj, hlj, hBj, hnj⟩ := hrel
            have hzj := hBj.size
            have hbj := lines_len ws2
            obtain ⟨b3, o3, x3, hA3, hb3, hx3, hc3⟩ := (HSL.out.below hBj).at_ hlt
            simp only [Option.some.injEq, Addr.mk.injEq, and_true] at hA3
            obtain ⟨rfl, rfl⟩ := hA3
            obtain rfl : x = x3 := Option.some.inj (HX.out.symm.trans hx3)
            have p0 : wr.cell? ⟨bb, oo + k * 3, none⟩ = some (.string x.kind) := by simpa using hc3 0 _ rfl
            have p1 : wr.cell? ⟨bb, oo + k * 3 + 1, none⟩ = some (.string x.text) := hc3 1 _ rfl
            have p2 : wr.cell? ⟨bb, oo + k * 3 + 2, none⟩ = some (.slice AX x.n x.cap) := HAX.out ▸ hc3 2 _ rfl
            clear hc3 hx3 hb3
            cases j with
            | succ j =>
              obtain rfl : jz = (j : Int) := by omega
              have hlt2 : j < x.n := by omega
              have hj0 : (0 : Int) ≤ (j : Int) := by omega
              have hji : (j : Int) < (x.n : Int) := by omega
              obtain ⟨fb, fo, y, hA, hfb, hy, hcf⟩ := ((HGD.out x (List.mem_of_getElem? HX.out)).sl.below hBj).at_ hlt2
              have hA' := HAX.out.symm.trans hA
              subst hA'
              clear hA
              have hyg := HG.out.fr y (List.mem_of_getElem? hy)
              have c0 : wr.cell? ⟨fb, fo + j * 6, none⟩ = some (.string y.mod) := by simpa using hcf 0 _ rfl
              have c1 : wr.cell? ⟨fb, fo + j * 6 + 1, none⟩ = some (.string y.fn) := hcf 1 _ rfl
              have c2 : wr.cell? ⟨fb, fo + j * 6 + 2, none⟩ = some (.string y.file) := hcf 2 _ rfl
              have c3 : wr.cell? ⟨fb, fo + j * 6 + 3, none⟩ = some (.int .i64 y.line) := hcf 3 _ rfl
              have c4 : wr.cell? ⟨fb, fo + j * 6 + 4, none⟩ = some (.int .i64 y.addr) := hcf 4 _ rfl
              have c5 : wr.cell? ⟨fb, fo + j * 6 + 5, none⟩ = some (.bool y.own) := hcf 5 _ rfl
              obtain ⟨lb, hlb⟩ : ∃ lb : ByteArray, ⟨(lineL y).toArray⟩ = lb := ⟨_, rfl⟩
              have HLN := hide (fun W => lineOf_any y W hyg)
              rw [hlb] at HLN
              have hll : lb.data.toList = lineL y := by rw [← hlb]
              have hls : lb.size ≤ 1500 := by
                rw [size_of hll]
                unfold lineL
                rw [List.length_append, ← size_of rfl]
                have h1 := call_len y hyg
                have h2 := place_len y hyg
                omega
              have HLL := hide hll
              clear hlb hll
              have h2 : (⟨#[32, 32]⟩ : ByteArray).size = 2 := rfl
              have HST := hide (show linesL (ws2 ++ [⟨#[32, 32]⟩ ++ lb]) = L1 ++ (x.frs.drop j).reverse.flatMap frOuter by rw [lines_snoc, hlj, flat_drop_rev frOuter hy, ByteArray.data_append, Array.toList_append, HLL.out]; unfold frOuter; simp)
              have HLS := hide (show (linesL (ws2 ++ [⟨#[32, 32]⟩ ++ lb])).length ≤ L1.length + (x.n - j) * 3000 by rw [lines_snoc, List.length_append, List.length_append, ← size_of rfl, ByteArray.size_append, List.length_singleton]; omega)
              have HOJ := hide hoj
              clear hcf hy hoj hlj hjz p0 p1
              go_wp2_with (fail)
              refine (HLN.out _).mono ?_
              rintro e w3 ⟨rfl, hw3⟩
              have hB3 := hBj.trans (hw3.mono hzj)
              have hz3 := hB3.size
              have HO3 := hide (own_below HOJ.out hw3)
              clear hw3
              go_wp2_with (at_builtin; refine wpList_append_own _ rfl (.tmp 157) (.tmp 168) 45 rfl w.heap.size 9 i0 (.string ByteArray.empty) 1 16 Tryd.underlying45 hi0 iz0 iz1 iz2 rfl (by decide) _ (ws2).length _ rfl (HO3.out.alloc _) ⟨w3.heap.size, 0, none⟩ 1 1 [.string (⟨#[32, 32]⟩ ++ lb)] rfl rfl (cells_at _ [.string (⟨#[32, 32]⟩ ++ lb)] _ _ (by first | rfl | simp)) (by intro u hu; simp at hu; subst hu; rfl) (by unfold maxLen; omega) (by omega) (by simp; try omega) ?_; intro v1 w1_1 hown1 hg1 _)
              have hp := push_out hB3 hz3 HO3.out hg1 hown1
              have HO4 := hide hp.2
              have hB4 := hp.1
              clear hown1 hg1 hp
              go_wp2_with (fail)
              go_roundw
              case rel => exact ⟨j, (j : Int) - 1, ws2 ++ [⟨#[32, 32]⟩ ++ lb], by omega, rfl, rfl, HO4.out, HST.out, hB4, HLS.out⟩
              case measure => simp [intOf]; try omega
            | zero =>
              have hneg : jz < 0 := by omega
              have hneg' : decide (0 ≤ jz) = false := by simp; omega
              clear hjz
              have HOJ := hide hoj
              have HST := hide (show linesL (ws2 ++ [hv]) = L1 ++ x.frs.reverse.flatMap frOuter ++ headL x by rw [lines_snoc, hlj, HHL.out, List.drop_zero])
              have HLS := hide (show (linesL (ws2 ++ [hv])).length ≤ L1.length + x.n * 3000 + 3001 by rw [lines_snoc, List.length_append, List.length_append, ← size_of rfl, List.length_singleton]; omega)
              clear hoj hlj
              go_wp2_with (fail)
              refine (HHD.out _).mono ?_
              rintro e w3 ⟨rfl, hw3⟩
              have hB3 := hBj.trans (hw3.mono hzj)
              have hz3 := hB3.size
              have HO3 := hide (own_below HOJ.out hw3)
              clear hw3
              have hat : outerAt l k = traceL ++ x.frs.reverse.flatMap frOuter ++ headL x ++ (if k = 0 then [] else whichL) := by unfold outerAt; rw [HX.out]
              have hpa : ((List.range n).drop k).reverse.flatMap (outerAt l) = linesL (ws2 ++ [hv]) ++ (if k = 0 then [] else whichL) := by
                rw [flat_range_rev _ hlt, hat, HST.out, HL1.out]
                simp
              have HPA := hide hpa
              have hls2 := HLS.out
              clear hpa hat
              by_cases hkz : k = 0
              · have hk1 : ¬ (0 < k) := by omega
                have hk2 : decide (0 < k) = false := by simp; omega
                have hk3 : decide ((0 : Int) < (k : Int)) = false := by simp; omega
                have HPB := hide (show linesL (ws2 ++ [hv]) = ((List.range n).drop k).reverse.flatMap (outerAt l) by rw [HPA.out, if_pos hkz]; simp)
                clear hkz
                go_wp2_with (at_builtin; refine wpList_append_own _ rfl (.tmp 170) (.tmp 176) 45 rfl w.heap.size 9 i0 (.string ByteArray.empty) 1 16 Tryd.underlying45 hi0 iz0 iz1 iz2 rfl (by decide) _ (ws2).length _ rfl (HO3.out.alloc _) ⟨w3.heap.size, 0, none⟩ 1 1 [.string hv] rfl rfl (cells_at _ [.string hv] _ _ (by first | rfl | simp)) (by intro u hu; simp at hu; subst hu; rfl) (by unfold maxLen; omega) (by omega) (by simp; try omega) ?_; intro v4 w4 hown1 hg1 _)
                have hp := push_out hB3 hz3 HO3.out hg1 hown1
                have HO4 := hide hp.2
                have hB4 := hp.1
                clear hown1 hg1 hp
                go_wp2_with (fail)
                go_roundw
                case rel => exact ⟨k, (k : Int) - 1, ws2 ++ [hv], by omega, rfl, rfl, HO4.out, HPB.out, hB4, by omega⟩
                case measure => simp [intOf]; try omega
              · have hk1 : 0 < k := by omega
                have hk3 : (0 : Int) < (k : Int) := by omega
                have hl2 := lines_snoc (ws2 ++ [hv]) ⟨#[119, 104, 105, 99, 104, 32, 108, 101, 100, 32, 116, 111, 58]⟩
                have h13 : (⟨#[119, 104, 105, 99, 104, 32, 108, 101, 100, 32, 116, 111, 58]⟩ : ByteArray).size = 13 := rfl
                have HPB := hide (show linesL (ws2 ++ [hv] ++ [(⟨#[119, 104, 105, 99, 104, 32, 108, 101, 100, 32, 116, 111, 58]⟩ : ByteArray)]) = ((List.range n).drop k).reverse.flatMap (outerAt l) by rw [HPA.out, if_neg hkz, hl2]; rfl)
                have HLT := hide (show (linesL (ws2 ++ [hv] ++ [(⟨#[119, 104, 105, 99, 104, 32, 108, 101, 100, 32, 116, 111, 58]⟩ : ByteArray)])).length ≤ (linesL (ws2 ++ [hv])).length + 14 by rw [hl2, List.length_append, List.length_append, ← size_of rfl, List.length_singleton]; omega)
                have hlt3 := HLT.out
                have hle1 : (ws2 ++ [hv]).length = ws2.length + 1 := by simp
                clear hkz hl2 h13
                go_wp2_with (first | ((at_builtin; refine wpList_append_own _ rfl (.tmp 170) (.tmp 176) 45 rfl w.heap.size 9 i0 (.string ByteArray.empty) 1 16 Tryd.underlying45 hi0 iz0 iz1 iz2 rfl (by decide) _ (ws2).length _ rfl (HO3.out.alloc _) ⟨w3.heap.size, 0, none⟩ 1 1 [.string hv] rfl rfl (cells_at _ [.string hv] _ _ (by first | rfl | simp)) (by intro u hu; simp at hu; subst hu; rfl) (by unfold maxLen; omega) (by omega) (by simp; try omega) ?_; intro v4 w4 hown1 hg1 _); have hp := push_out hB3 hz3 HO3.out hg1 hown1; have HO4 := hide hp.2; have hB4 := hp.1; have hz4 := hB4.size; clear hown1 hg1 hp) | (at_builtin; refine wpList_append_own _ rfl (.tmp 180) (.tmp 181) 45 rfl w.heap.size 9 i0 (.string ByteArray.empty) 1 16 Tryd.underlying45 hi0 iz0 iz1 iz2 rfl (by decide) _ (ws2 ++ [hv]).length _ rfl (HO4.out.alloc _) ⟨w4.heap.size, 0, none⟩ 1 1 [.string ⟨#[119, 104, 105, 99, 104, 32, 108, 101, 100, 32, 116, 111, 58]⟩] rfl rfl (cells_at _ [.string ⟨#[119, 104, 105, 99, 104, 32, 108, 101, 100, 32, 116, 111, 58]⟩] _ _ (by first | rfl | simp)) (by intro u hu; simp at hu; subst hu; rfl) (by unfold maxLen; omega) (by omega) (by simp; try omega) ?_; intro v5 w5 hown1 hg1 _))
                have hp := push_out hB4 hz4 HO4.out hg1 hown1
                have HO5 := hide hp.2
                have hB5 := hp.1
                clear hown1 hg1 hp
                go_wp2_with (fail)
                go_roundw
                case rel => exact ⟨k, (k : Int) - 1, ws2 ++ [hv] ++ [(⟨#[119, 104, 105, 99, 104, 32, 108, 101, 100, 32, 116, 111, 58]⟩ : ByteArray)], by omega, rfl, rfl, HO5.out, HPB.out, hB5, by omega⟩
                case measure => simp [intOf]; try omega
end Go.Proofs.YtnlliddfljogjaaDoor
