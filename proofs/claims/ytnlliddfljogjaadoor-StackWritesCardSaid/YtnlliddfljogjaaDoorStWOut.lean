/- Walk of writeOuter. -/
import Derived.Test.YtnlliddfljogjaaDoorStWPair
namespace Go.Proofs.YtnlliddfljogjaaDoor
open Go.RowKit
set_option linter.unusedVariables false
theorem drop_get {α : Type} {l : List α} {k : Nat} {a : α} (h : l[k]? = some a) : l.drop k = a :: l.drop (k + 1) := by
  have hk : k < l.length := (List.getElem?_eq_some_iff.1 h).1
  rw [List.drop_eq_getElem_cons hk]
  congr 1
  rw [List.getElem?_eq_getElem hk] at h
  exact Option.some.inj h
theorem flat_drop_rev {α β : Type} {l : List α} {k : Nat} {a : α} (f : α → List β) (h : l[k]? = some a) : (l.drop k).reverse.flatMap f = (l.drop (k + 1)).reverse.flatMap f ++ f a := by
  rw [drop_get h]; simp
theorem flat_range_rev {β : Type} {n k : Nat} (f : Nat → List β) (h : k < n) : ((List.range n).drop k).reverse.flatMap f = ((List.range n).drop (k + 1)).reverse.flatMap f ++ f k :=
  flat_drop_rev f (by rw [List.getElem?_range h])
theorem place_len (x : Frame) (hx : x.good) : (placeL x).length ≤ 1001 := by
  have h := rest_len x hx
  rcases place_rest x with ⟨_, h2⟩ | ⟨_, h2⟩ <;> rw [h2] <;> simp <;> omega
set_option maxRecDepth 100000 in
set_option maxHeartbeats 8000000 in
theorem writeOuter_any (B b : Nat) (A : Option Addr) (n c : Nat) (l : List FaultT) (w : World) (hb : Bld B b [] w) (hBw : B ≤ w.heap.size) (hn : n ≤ 10) (hnc : n ≤ c) (hl : Sl w B FaultT.cs 3 A n l) (hf : ∀ x ∈ l, FGood B w x) (ht : TabsB B w) :
    Calls Tryd.prog 11 #[.pointer (some ⟨b, 0, none⟩), .slice A n c] w fun e w' => e = .returned (.tuple #[]) ∧ Bld B b (Lib.byteCells ((List.range l.length).reverse.flatMap (outerAt l))) w' ∧ Below B w w' := by
  have HL := hide hl.len
  have HSL := hide hl
  have HF := hide hf
  have HT := hide ht
  have HB := hide hb
  clear hl hf ht hb
  go_enter Tryd.func11, Tryd.ntmps11
  go_wp2_with (fail)
  go_loopw [4] (fun i wr => ∃ (m : Nat) (jz : Int), m ≤ n ∧ jz = (m : Int) - 1 ∧ i = .int .i64 jz ∧ Bld B b (Lib.byteCells (((List.range n).drop m).reverse.flatMap (outerAt l))) wr ∧ Below B w wr ∧ (((List.range n).drop m).reverse.flatMap (outerAt l)).length ≤ (n - m) * 1000000) (fun i _ => (intOf i + 1).toNat)
  case atStart => exact ⟨n, (n : Int) - 1, Nat.le_refl _, rfl, rfl, by rw [List.drop_eq_nil_of_le (by simp)]; exact HB.out, Below.refl _ _, by rw [List.drop_eq_nil_of_le (by simp)]; simp⟩
  case round =>
    obtain ⟨m, jz, hm, hjz, rfl, hbl, hB, hlen⟩ := hrel
    have HBL := hide hbl
    have hz := hB.size
    clear hbl
    cases m with
    | zero =>
      have hneg : jz < 0 := by omega
      have hneg' : decide (0 ≤ jz) = false := by simp; omega
      clear hjz
      have HLN := hide HL.out
      go_wp2_with (fail)
      go_end0
      exact ⟨rfl, by rw [HLN.out]; exact HBL.out, hB⟩
    | succ k =>
      obtain rfl : jz = (k : Int) := by omega
      have hlt : k < n := by omega
      have hk0 : (0 : Int) ≤ (k : Int) := by omega
      have hki : (k : Int) < (n : Int) := by omega
      clear hjz
      obtain ⟨bb, oo, x, rfl, hbb, hx, hc⟩ := (HSL.out.below hB).at_ hlt
      have HC := hide hc
      have hg := (HF.out x (List.mem_of_getElem? hx)).below hB
      have HG := hide hg
      have HX := hide hx
      obtain ⟨hv, hhv⟩ : ∃ hv : ByteArray, ⟨(headL x).toArray⟩ = hv := ⟨_, rfl⟩
      have hhl : hv.data.toList = headL x := by rw [← hhv]
      have hhs : hv.size ≤ 3000 := by
        rw [size_of hhl]
        have h1 := hg.k
        have h2 := hg.t
        have e1 := size_of (x := x.kind) rfl
        have e2 := size_of (x := x.text) rfl
        unfold headL
        split <;> simp only [List.length_append, List.length_cons, List.length_nil] <;> omega
      have HHD := hide (fun W => head_any x W hg.k hg.t)
      rw [hhv] at HHD
      have HHL := hide hhl
      obtain ⟨L0, hL0⟩ : ∃ L0, ((List.range n).drop (k + 1)).reverse.flatMap (outerAt l) = L0 := ⟨_, rfl⟩
      rw [hL0] at HBL hlen
      have HL0 := hide hL0
      have HWS := hide (fun W (h : Bld B b (Lib.byteCells L0) W) (hs : B ≤ W.heap.size) => WriteString_any B b (Lib.byteCells L0) ⟨#[84, 114, 97, 99, 101, 98, 97, 99, 107, 58, 10]⟩ W h (by rw [bytes_len]; have : (⟨#[84, 114, 97, 99, 101, 98, 97, 99, 107, 58, 10]⟩ : ByteArray).size = 11 := rfl; omega) hs)
      clear hhv hhl hL0 hc hg hx
      have hBB : B ≤ wr.heap.size := by omega
      go_wp2_with (fail)
      refine (HWS.out _ HBL.out hBB).mono ?_
      rintro e w1 ⟨rfl, hb1, hw1, _⟩
      have hB1 := hB.trans hw1
      have p2 : w1.cell? ⟨bb, oo + k * 3 + 2, none⟩ = some (.slice x.A x.n x.cap) := (hw1.cell (p := ⟨bb, oo + k * 3 + 2, none⟩) hbb).trans (HC.out 2 _ rfl)
      obtain ⟨L1, hL1⟩ : ∃ L1, L0 ++ traceL = L1 := ⟨_, rfl⟩
      rw [strCells_eq, bytes_app] at hb1
      have HB1 := hide (show Bld B b (Lib.byteCells L1) w1 by rw [← hL1]; exact hb1)
      have hl1 : L1.length = L0.length + 11 := by rw [← hL1, List.length_append]; rfl
      have HL1 := hide hL1
      clear hb1 hw1 hL1
      have hxn0 := HG.out.nc
      have hxn := HG.out.n
      go_wp2_with (fail)
      clear p2
      obtain ⟨wo, rfl⟩ : ∃ wo : World, wo = wr := ⟨_, rfl⟩
      go_loopw [5] (fun a wr => ∃ (j : Nat) (jz : Int), j ≤ x.n ∧ jz = (j : Int) - 1 ∧ a = .int .i64 jz ∧ Bld B b (Lib.byteCells (L1 ++ (x.frs.drop j).reverse.flatMap frOuter)) wr ∧ Below B w wr ∧ (L1 ++ (x.frs.drop j).reverse.flatMap frOuter).length ≤ L0.length + 11 + (x.n - j) * 3000) (fun a _ => (intOf a + 1).toNat)
      case atStart => exact ⟨x.n, (x.n : Int) - 1, Nat.le_refl _, rfl, rfl, by rw [List.drop_eq_nil_of_le (by have := HG.out.sl.len; omega)]; simpa using HB1.out, hB1, by rw [List.drop_eq_nil_of_le (by have := HG.out.sl.len; omega)]; simp; omega⟩
      case round =>
        obtain ⟨j, jz, hj, hjz, rfl, hbj, hBj, hlj⟩ := hrel
        have hzj : B ≤ wr.heap.size := Nat.le_trans hBw hBj.size
        have hbl0 := bld_lt0 hbj
        obtain ⟨L2, hL2⟩ : ∃ L2, L1 ++ (x.frs.drop j).reverse.flatMap frOuter = L2 := ⟨_, rfl⟩
        rw [hL2] at hbj hlj
        obtain ⟨b3, o3, x3, hA3, hb3, hx3, hc3⟩ := (HSL.out.below hBj).at_ hlt
        simp only [Option.some.injEq, Addr.mk.injEq, and_true] at hA3
        obtain ⟨rfl, rfl⟩ := hA3
        obtain rfl : x = x3 := Option.some.inj (HX.out.symm.trans hx3)
        have p0 : wr.cell? ⟨bb, oo + k * 3, none⟩ = some (.string x.kind) := by simpa using hc3 0 _ rfl
        have p1 : wr.cell? ⟨bb, oo + k * 3 + 1, none⟩ = some (.string x.text) := hc3 1 _ rfl
        have p2 : wr.cell? ⟨bb, oo + k * 3 + 2, none⟩ = some (.slice x.A x.n x.cap) := hc3 2 _ rfl
        clear hc3 hx3 hb3
        cases j with
        | succ j =>
          obtain rfl : jz = (j : Int) := by omega
          have hlt2 : j < x.n := by omega
          have hj0 : (0 : Int) ≤ (j : Int) := by omega
          have hji : (j : Int) < (x.n : Int) := by omega
          obtain ⟨fb, fo, y, hA, hfb, hy, hcf⟩ := ((HF.out x (List.mem_of_getElem? HX.out)).sl.below hBj).at_ hlt2
          rw [hA] at p2
          have hyg := HG.out.fr y (List.mem_of_getElem? hy)
          have c0 : wr.cell? ⟨fb, fo + j * 6, none⟩ = some (.string y.mod) := by simpa using hcf 0 _ rfl
          have c1 : wr.cell? ⟨fb, fo + j * 6 + 1, none⟩ = some (.string y.fn) := hcf 1 _ rfl
          have c2 : wr.cell? ⟨fb, fo + j * 6 + 2, none⟩ = some (.string y.file) := hcf 2 _ rfl
          have c3 : wr.cell? ⟨fb, fo + j * 6 + 3, none⟩ = some (.int .i64 y.line) := hcf 3 _ rfl
          have c4 : wr.cell? ⟨fb, fo + j * 6 + 4, none⟩ = some (.int .i64 y.addr) := hcf 4 _ rfl
          have c5 : wr.cell? ⟨fb, fo + j * 6 + 5, none⟩ = some (.bool y.own) := hcf 5 _ rfl
          obtain ⟨pb, hpb⟩ : ∃ pb : ByteArray, ⟨(placeL y).toArray⟩ = pb := ⟨_, rfl⟩
          have HCA := hide (fun W => call_any y W hyg.m hyg.f)
          have HPL := hide (fun W (h : Tabs W) => place_any y W hyg h)
          rw [hpb] at HPL
          have hcl := call_len y hyg
          have hps : pb.size ≤ 1001 := by rw [size_of (x := pb) (l := placeL y) (by rw [← hpb])]; exact place_len y hyg
          obtain ⟨cb, hcb⟩ : ∃ cb, callB y = cb := ⟨_, rfl⟩
          rw [hcb] at HCA hcl
          have h10 : (⟨#[10]⟩ : ByteArray).size = 1 := rfl
          have h32 : (⟨#[32, 32]⟩ : ByteArray).size = 2 := rfl
          have HWL := hide (fun W (h : Bld B b (Lib.byteCells L2) W) (hs : B ≤ W.heap.size) => WriteString_any B b (Lib.byteCells L2) (⟨#[32, 32]⟩ ++ cb ++ pb ++ ⟨#[10]⟩) W h (by rw [bytes_len, ByteArray.size_append, ByteArray.size_append, ByteArray.size_append]; omega) hs)
          have HST := hide (show L1 ++ (x.frs.drop j).reverse.flatMap frOuter = L2 ++ (⟨#[32, 32]⟩ ++ cb ++ pb ++ ⟨#[10]⟩ : ByteArray).data.toList by rw [flat_drop_rev frOuter hy, ← List.append_assoc, hL2]; unfold frOuter lineL; rw [hcb, ← hpb]; simp [ByteArray.data_append])
          have HLS := hide (show (L2 ++ (⟨#[32, 32]⟩ ++ cb ++ pb ++ ⟨#[10]⟩ : ByteArray).data.toList).length ≤ L0.length + 11 + (x.n - j) * 3000 by rw [List.length_append, ← size_of rfl, ByteArray.size_append, ByteArray.size_append, ByteArray.size_append]; omega)
          clear h10 h32
          have hLA0 : LineAt B b L2 w wr.heap.size y (wr.alloc (.cells #[.string y.mod, .string y.fn, .string y.file, .int .i64 y.line, .int .i64 y.addr, .bool y.own] 35)) := ⟨bld_below hbj ((Below.refl _ _).alloc (Nat.le_refl _) _), hBj.alloc hzj _, heap_alloc_new wr _, (HT.out.below hBj).below ((Below.refl _ _).alloc hzj _)⟩
          have HLA0 := hide hLA0
          clear hLA0 hcf hy hpb hcb hbj hL2 HHD HWS HL0 HL1 HHL hjz hA p0 p1
          go_wp2_with (fail)
          have hLA := HLA0.out
          generalize (wr.alloc (.cells #[.string y.mod, .string y.fn, .string y.file, .int .i64 y.line, .int .i64 y.addr, .bool y.own] 35)) = wx at hLA ⊢
          clear c0 c1 c2 c3 c4 c5 HLA0 p2
          obtain ⟨I1, F1, hi1, hLF, hZF, hJ1⟩ := lfam hLA hBw; have HLF := hide hLF; have HZF := hide hZF; have hJ1 := hide hJ1; have k0 := fun i => (HLF.out i).bx.cells.1; have k1 := fun i => (HLF.out i).bx.cells.2.1; have k2 := fun i => (HLF.out i).bx.cells.2.2.1; have k3 := fun i => (HLF.out i).bx.cells.2.2.2.1; have k4 := fun i => (HLF.out i).bx.cells.2.2.2.2.1; have k5 := fun i => (HLF.out i).bx.cells.2.2.2.2.2; haveI : Nonempty I1 := ⟨hi1.choose⟩; clear hLA hLF hZF
          refine wp_region_fam_tail F1 8 hi1 (by kernel_rfl) (by kernel_rfl) ?_; simp only [List.take_succ_cons, List.take_zero, List.drop_succ_cons, List.drop_zero]; (repeat (go_big_quiet_step (first | (go_at_call 28; refine (HCA.out _).mono ?_; rintro e w' ⟨rfl, hw'⟩; exact ⟨rfl, hJ1.out _ _ hw'⟩) | (go_at_call 29; refine (HPL.out _ (HLF.out _).tb.t).mono ?_; rintro e w' ⟨rfl, hw'⟩; exact ⟨rfl, hJ1.out _ _ hw'⟩)))); refine wpQuiet_nil ?_; rintro _ ⟨i1, rfl⟩
          go_wp2_with (fail)
          refine (HWL.out _ (HLF.out i1).bl (HZF.out i1)).mono ?_
          rintro e w' ⟨rfl, hb9, hw9, _⟩
          have hB9 : Below B w _ := (HLF.out i1).be.trans hw9
          have HB9 := hide (show Bld B b (Lib.byteCells (L1 ++ (x.frs.drop j).reverse.flatMap frOuter)) _ from by rw [HST.out, ← bytes_app, ← strCells_eq]; exact hb9)
          clear hb9 hw9
          go_wp2_with (fail)
          go_roundw
          case rel => exact ⟨j, (j : Int) - 1, by omega, rfl, rfl, HB9.out, hB9, by rw [HST.out]; exact HLS.out⟩
          case measure => simp [intOf]; try omega
        | zero =>
          have hneg : jz < 0 := by omega
          have hneg' : decide (0 ≤ jz) = false := by simp; omega
          clear hjz
          obtain ⟨hvl, hhvl⟩ : ∃ hvl, hv.data.toList = hvl := ⟨_, rfl⟩
          have HBA := hide hbj
          have HL2 := hide hL2
          have HWH := hide (fun W (h : Bld B b (Lib.byteCells L2) W) (hs : B ≤ W.heap.size) => WriteString_any B b (Lib.byteCells L2) hv W h (by rw [bytes_len]; omega) hs)
          clear hhvl hbj hL2
          go_wp2_with (fail)
          refine (HHD.out _).mono ?_
          rintro e w2 ⟨rfl, hw2⟩
          have hB2 := hBj.trans (hw2.mono hzj)
          have HB2 := hide (bld_below HBA.out hw2)
          clear hw2
          go_wp2_with (fail)
          refine (HWH.out _ HB2.out (by have := hB2.size; omega)).mono ?_
          rintro e w3 ⟨rfl, hb3, hw3, _⟩
          have hB3 := hB2.trans hw3
          rw [strCells_eq, bytes_app, HHL.out] at hb3
          have HB3 := hide hb3
          have hl3 : (L2 ++ headL x).length ≤ (n - k) * 1000000 - 20 := by rw [List.length_append, ← HHL.out, ← size_of rfl]; omega
          clear hb3 hw3
          have hat : outerAt l k = traceL ++ x.frs.reverse.flatMap frOuter ++ headL x ++ (if k = 0 then [] else whichL) := by unfold outerAt; rw [HX.out]
          have hpa : ((List.range n).drop k).reverse.flatMap (outerAt l) = L2 ++ headL x ++ (if k = 0 then [] else whichL) := by
            rw [flat_range_rev _ hlt, HL0.out, hat, ← HL2.out, ← HL1.out]
            simp
          have HPA := hide hpa
          clear hpa hat
          by_cases hkz : k = 0
          · have hk1 : ¬ (0 < k) := by omega
            have hk2 : decide (0 < k) = false := by simp; omega
            have hk3 : decide ((0 : Int) < (k : Int)) = false := by simp; omega
            have HPB := hide (show ((List.range n).drop k).reverse.flatMap (outerAt l) = L2 ++ headL x by rw [HPA.out, if_pos hkz]; simp)
            clear hkz
            go_wp2_with (fail)
            go_roundw
            case rel => exact ⟨k, (k : Int) - 1, by omega, rfl, rfl, by rw [HPB.out]; exact HB3.out, hB3, by rw [HPB.out]; omega⟩
            case measure => simp [intOf]; try omega
          · have hk1 : 0 < k := by omega
            have hk3 : (0 : Int) < (k : Int) := by omega
            have HPB := hide (show ((List.range n).drop k).reverse.flatMap (outerAt l) = L2 ++ headL x ++ whichL by rw [HPA.out, if_neg hkz])
            have HWW := hide (fun W (h : Bld B b (Lib.byteCells (L2 ++ headL x)) W) (hs : B ≤ W.heap.size) => WriteString_any B b (Lib.byteCells (L2 ++ headL x)) ⟨#[119, 104, 105, 99, 104, 32, 108, 101, 100, 32, 116, 111, 58, 10]⟩ W h (by rw [bytes_len]; have : (⟨#[119, 104, 105, 99, 104, 32, 108, 101, 100, 32, 116, 111, 58, 10]⟩ : ByteArray).size = 14 := rfl; omega) hs)
            clear hkz
            go_wp2_with (fail)
            refine (HWW.out _ HB3.out (by have := hB3.size; omega)).mono ?_
            rintro e w4 ⟨rfl, hb4, hw4, _⟩
            have hB4 := hB3.trans hw4
            rw [strCells_eq, bytes_app] at hb4
            have HB4 := hide (show Bld B b (Lib.byteCells (L2 ++ headL x ++ whichL)) w4 from hb4)
            clear hb4 hw4
            go_wp2_with (fail)
            go_roundw
            case rel => exact ⟨k, (k : Int) - 1, by omega, rfl, rfl, by rw [HPB.out]; exact HB4.out, hB4, by rw [HPB.out, List.length_append]; have : whichL.length = 14 := rfl; omega⟩
            case measure => simp [intOf]; try omega
end Go.Proofs.YtnlliddfljogjaaDoor
