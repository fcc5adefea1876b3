/- StWOut, StWInn, StWrite: texts of one's own, in one file. -/
import Derived.Test.YtncpeokniffafaaGreatDoorStWPair
import Derived.Test.YtncpeokniffafaaGreatDoorStNum
/- Walk of writeOuter. -/
namespace Go.Proofs.YtncpeokniffafaaGreatDoor
open Go.RowKit
set_option linter.unusedVariables false
theorem drop_get {α : Type} {l : List α} {k : Nat} {a : α} (h : l[k]? = some a) : l.drop k = a :: l.drop (k + 1) := by
  have hk : k < l.length := (List.getElem?_eq_some_iff.1 h).1
  rw [List.drop_eq_getElem_cons hk]
  congr 1
  rw [List.getElem?_eq_getElem hk] at h
  exact Option.some.inj h
theorem flat_drop_rev {α β : Type} {l : List α} {k : Nat} {a : α} (f : α → List β) (h : l[k]? = some a) : (l.drop k).reverse.flatMap f = (l.drop (k + 1)).reverse.flatMap f ++ f a := by
  rw [drop_get h]; simp
theorem flat_range_rev {β : Type} {n k : Nat} (f : Nat → List β) (h : k < n) : ((List.range n).drop k).reverse.flatMap f = ((List.range n).drop (k + 1)).reverse.flatMap f ++ f k :=
  flat_drop_rev f (by rw [List.getElem?_range h])
theorem place_len (x : Frame) (hx : x.good) : (placeL x).length ≤ 1001 := by
  have h := rest_len x hx
  rcases place_rest x with ⟨_, h2⟩ | ⟨_, h2⟩ <;> rw [h2] <;> simp <;> omega
set_option maxRecDepth 100000 in
set_option maxHeartbeats 8000000 in
theorem writeOuter_any (B b : Nat) (A : Option Addr) (n c : Nat) (l : List FaultT) (w : World) (hb : Bld B b [] w) (hBw : B ≤ w.heap.size) (hn : n ≤ 10) (hnc : n ≤ c) (hl : Sl w B FaultT.cs 3 A n l) (hf : ∀ x ∈ l, FGood B w x) (ht : TabsB B w) :
    Calls Tryz.prog 13 #[.pointer (some ⟨b, 0, none⟩), .slice A n c] w fun e w' => e = .returned (.tuple #[]) ∧ Bld B b (Lib.byteCells ((List.range l.length).reverse.flatMap (outerAt l))) w' ∧ Below B w w' := by
  have HL := hide hl.len
  have HSL := hide hl
  have HF := hide hf
  have HT := hide ht
  have HB := hide hb
  clear hl hf ht hb
  go_enter Tryz.func13, Tryz.ntmps13
  go_wp2_with (fail)
  go_loopw [4] (fun i wr => ∃ (m : Nat) (jz : Int), m ≤ n ∧ jz = (m : Int) - 1 ∧ i = .int .i64 jz ∧ Bld B b (Lib.byteCells (((List.range n).drop m).reverse.flatMap (outerAt l))) wr ∧ Below B w wr ∧ (((List.range n).drop m).reverse.flatMap (outerAt l)).length ≤ (n - m) * 1000000) (fun i _ => (intOf i + 1).toNat)
  case atStart => exact ⟨n, (n : Int) - 1, Nat.le_refl _, rfl, rfl, by rw [List.drop_eq_nil_of_le (by simp)]; exact HB.out, Below.refl _ _, by rw [List.drop_eq_nil_of_le (by simp)]; simp⟩
  case round =>
    obtain ⟨m, jz, hm, hjz, rfl, hbl, hB, hlen⟩ := hrel
    have HBL := hide hbl
    have hz := hB.size
    clear hbl
    cases m with
    | zero =>
      have hneg : jz < 0 := by omega
      have hneg' : decide (0 ≤ jz) = false := by simp; omega
      clear hjz
      have HLN := hide HL.out
      go_wp2_with (fail)
      go_end0
      exact ⟨rfl, by rw [HLN.out]; exact HBL.out, hB⟩
    | succ k =>
      obtain rfl : jz = (k : Int) := by omega
      have hlt : k < n := by omega
      have hk0 : (0 : Int) ≤ (k : Int) := by omega
      have hki : (k : Int) < (n : Int) := by omega
      clear hjz
      obtain ⟨bb, oo, x, rfl, hbb, hx, hc⟩ := (HSL.out.below hB).at_ hlt
      have HC := hide hc
      have hg := (HF.out x (List.mem_of_getElem? hx)).below hB
      have HG := hide hg
      have HX := hide hx
      obtain ⟨hv, hhv⟩ : ∃ hv : ByteArray, ⟨(headL x).toArray⟩ = hv := ⟨_, rfl⟩
      have hhl : hv.data.toList = headL x := by rw [← hhv]
      have hhs : hv.size ≤ 3000 := by
        rw [size_of hhl]
        have h1 := hg.k
        have h2 := hg.t
        have e1 := size_of (x := x.kind) rfl
        have e2 := size_of (x := x.text) rfl
        unfold headL
        split <;> simp only [List.length_append, List.length_cons, List.length_nil] <;> omega
      have HHD := hide (fun W => head_any x W hg.k hg.t)
      rw [hhv] at HHD
      have HHL := hide hhl
      obtain ⟨L0, hL0⟩ : ∃ L0, ((List.range n).drop (k + 1)).reverse.flatMap (outerAt l) = L0 := ⟨_, rfl⟩
      rw [hL0] at HBL hlen
      have HL0 := hide hL0
      have HWS := hide (fun W (h : Bld B b (Lib.byteCells L0) W) (hs : B ≤ W.heap.size) => WriteString_any B b (Lib.byteCells L0) ⟨#[84, 114, 97, 99, 101, 98, 97, 99, 107, 58, 10]⟩ W h (by rw [bytes_len]; have : (⟨#[84, 114, 97, 99, 101, 98, 97, 99, 107, 58, 10]⟩ : ByteArray).size = 11 := rfl; omega) hs)
      clear hhv hhl hL0 hc hg hx
      have hBB : B ≤ wr.heap.size := by omega
      go_wp2_with (fail)
      refine (HWS.out _ HBL.out hBB).mono ?_
      rintro e w1 ⟨rfl, hb1, hw1, _⟩
      have hB1 := hB.trans hw1
      have p2 : w1.cell? ⟨bb, oo + k * 3 + 2, none⟩ = some (.slice x.A x.n x.cap) := (hw1.cell (p := ⟨bb, oo + k * 3 + 2, none⟩) hbb).trans (HC.out 2 _ rfl)
      obtain ⟨L1, hL1⟩ : ∃ L1, L0 ++ traceL = L1 := ⟨_, rfl⟩
      rw [strCells_eq, bytes_app] at hb1
      have HB1 := hide (show Bld B b (Lib.byteCells L1) w1 by rw [← hL1]; exact hb1)
      have hl1 : L1.length = L0.length + 11 := by rw [← hL1, List.length_append]; rfl
      have HL1 := hide hL1
      clear hb1 hw1 hL1
      have hxn0 := HG.out.nc
      have hxn := HG.out.n
      go_wp2_with (fail)
      clear p2
      obtain ⟨wo, rfl⟩ : ∃ wo : World, wo = wr := ⟨_, rfl⟩
      go_loopw [5] (fun a wr => ∃ (j : Nat) (jz : Int), j ≤ x.n ∧ jz = (j : Int) - 1 ∧ a = .int .i64 jz ∧ Bld B b (Lib.byteCells (L1 ++ (x.frs.drop j).reverse.flatMap frOuter)) wr ∧ Below B w wr ∧ (L1 ++ (x.frs.drop j).reverse.flatMap frOuter).length ≤ L0.length + 11 + (x.n - j) * 3000) (fun a _ => (intOf a + 1).toNat)
      case atStart => exact ⟨x.n, (x.n : Int) - 1, Nat.le_refl _, rfl, rfl, by rw [List.drop_eq_nil_of_le (by have := HG.out.sl.len; omega)]; simpa using HB1.out, hB1, by rw [List.drop_eq_nil_of_le (by have := HG.out.sl.len; omega)]; simp; omega⟩
      case round =>
        obtain ⟨j, jz, hj, hjz, rfl, hbj, hBj, hlj⟩ := hrel
        have hzj : B ≤ wr.heap.size := Nat.le_trans hBw hBj.size
        have hbl0 := bld_lt0 hbj
        obtain ⟨L2, hL2⟩ : ∃ L2, L1 ++ (x.frs.drop j).reverse.flatMap frOuter = L2 := ⟨_, rfl⟩
        rw [hL2] at hbj hlj
        obtain ⟨b3, o3, x3, hA3, hb3, hx3, hc3⟩ := (HSL.out.below hBj).at_ hlt
        simp only [Option.some.injEq, Addr.mk.injEq, and_true] at hA3
        obtain ⟨rfl, rfl⟩ := hA3
        obtain rfl : x = x3 := Option.some.inj (HX.out.symm.trans hx3)
        have p0 : wr.cell? ⟨bb, oo + k * 3, none⟩ = some (.string x.kind) := by simpa using hc3 0 _ rfl
        have p1 : wr.cell? ⟨bb, oo + k * 3 + 1, none⟩ = some (.string x.text) := hc3 1 _ rfl
        have p2 : wr.cell? ⟨bb, oo + k * 3 + 2, none⟩ = some (.slice x.A x.n x.cap) := hc3 2 _ rfl
        clear hc3 hx3 hb3
        cases j with
        | succ j =>
          obtain rfl : jz = (j : Int) := by omega
          have hlt2 : j < x.n := by omega
          have hj0 : (0 : Int) ≤ (j : Int) := by omega
          have hji : (j : Int) < (x.n : Int) := by omega
          obtain ⟨fb, fo, y, hA, hfb, hy, hcf⟩ := ((HF.out x (List.mem_of_getElem? HX.out)).sl.below hBj).at_ hlt2
          rw [hA] at p2
          have hyg := HG.out.fr y (List.mem_of_getElem? hy)
          have c0 : wr.cell? ⟨fb, fo + j * 6, none⟩ = some (.string y.mod) := by simpa using hcf 0 _ rfl
          have c1 : wr.cell? ⟨fb, fo + j * 6 + 1, none⟩ = some (.string y.fn) := hcf 1 _ rfl
          have c2 : wr.cell? ⟨fb, fo + j * 6 + 2, none⟩ = some (.string y.file) := hcf 2 _ rfl
          have c3 : wr.cell? ⟨fb, fo + j * 6 + 3, none⟩ = some (.int .i64 y.line) := hcf 3 _ rfl
          have c4 : wr.cell? ⟨fb, fo + j * 6 + 4, none⟩ = some (.int .i64 y.addr) := hcf 4 _ rfl
          have c5 : wr.cell? ⟨fb, fo + j * 6 + 5, none⟩ = some (.bool y.own) := hcf 5 _ rfl
          obtain ⟨pb, hpb⟩ : ∃ pb : ByteArray, ⟨(placeL y).toArray⟩ = pb := ⟨_, rfl⟩
          have HCA := hide (fun W => call_any y W hyg.m hyg.f)
          have HPL := hide (fun W (h : Tabs W) => place_any y W hyg h)
          rw [hpb] at HPL
          have hcl := call_len y hyg
          have hps : pb.size ≤ 1001 := by rw [size_of (x := pb) (l := placeL y) (by rw [← hpb])]; exact place_len y hyg
          obtain ⟨cb, hcb⟩ : ∃ cb, callB y = cb := ⟨_, rfl⟩
          rw [hcb] at HCA hcl
          have h10 : (⟨#[10]⟩ : ByteArray).size = 1 := rfl
          have h32 : (⟨#[32, 32]⟩ : ByteArray).size = 2 := rfl
          have HWL := hide (fun W (h : Bld B b (Lib.byteCells L2) W) (hs : B ≤ W.heap.size) => WriteString_any B b (Lib.byteCells L2) (⟨#[32, 32]⟩ ++ cb ++ pb ++ ⟨#[10]⟩) W h (by rw [bytes_len, ByteArray.size_append, ByteArray.size_append, ByteArray.size_append]; omega) hs)
          have HST := hide (show L1 ++ (x.frs.drop j).reverse.flatMap frOuter = L2 ++ (⟨#[32, 32]⟩ ++ cb ++ pb ++ ⟨#[10]⟩ : ByteArray).data.toList by rw [flat_drop_rev frOuter hy, ← List.append_assoc, hL2]; unfold frOuter lineL; rw [hcb, ← hpb]; simp [ByteArray.data_append])
          have HLS := hide (show (L2 ++ (⟨#[32, 32]⟩ ++ cb ++ pb ++ ⟨#[10]⟩ : ByteArray).data.toList).length ≤ L0.length + 11 + (x.n - j) * 3000 by rw [List.length_append, ← size_of rfl, ByteArray.size_append, ByteArray.size_append, ByteArray.size_append]; omega)
          clear h10 h32
          have hLA0 : LineAt B b L2 w wr.heap.size y (wr.alloc (.cells #[.string y.mod, .string y.fn, .string y.file, .int .i64 y.line, .int .i64 y.addr, .bool y.own] 38)) := ⟨bld_below hbj ((Below.refl _ _).alloc (Nat.le_refl _) _), hBj.alloc hzj _, heap_alloc_new wr _, (HT.out.below hBj).below ((Below.refl _ _).alloc hzj _)⟩
          have HLA0 := hide hLA0
          clear hLA0 hcf hy hpb hcb hbj hL2 HHD HWS HL0 HL1 HHL hjz hA p0 p1
          go_wp2_with (fail)
          have hLA := HLA0.out
          generalize (wr.alloc (.cells #[.string y.mod, .string y.fn, .string y.file, .int .i64 y.line, .int .i64 y.addr, .bool y.own] 38)) = wx at hLA ⊢
          clear c0 c1 c2 c3 c4 c5 HLA0 p2
          obtain ⟨I1, F1, hi1, hLF, hZF, hJ1⟩ := lfam hLA hBw; have HLF := hide hLF; have HZF := hide hZF; have hJ1 := hide hJ1; have k0 := fun i => (HLF.out i).bx.cells.1; have k1 := fun i => (HLF.out i).bx.cells.2.1; have k2 := fun i => (HLF.out i).bx.cells.2.2.1; have k3 := fun i => (HLF.out i).bx.cells.2.2.2.1; have k4 := fun i => (HLF.out i).bx.cells.2.2.2.2.1; have k5 := fun i => (HLF.out i).bx.cells.2.2.2.2.2; haveI : Nonempty I1 := ⟨hi1.choose⟩; clear hLA hLF hZF
          refine wp_region_fam_tail F1 8 hi1 (by kernel_rfl) (by kernel_rfl) ?_; simp only [List.take_succ_cons, List.take_zero, List.drop_succ_cons, List.drop_zero]; (repeat (go_big_quiet_step (first | (go_at_call 26; refine (HCA.out _).mono ?_; rintro e w' ⟨rfl, hw'⟩; exact ⟨rfl, hJ1.out _ _ hw'⟩) | (go_at_call 27; refine (HPL.out _ (HLF.out _).tb.t).mono ?_; rintro e w' ⟨rfl, hw'⟩; exact ⟨rfl, hJ1.out _ _ hw'⟩)))); refine wpQuiet_nil ?_; rintro _ ⟨i1, rfl⟩
          go_wp2_with (fail)
          refine (HWL.out _ (HLF.out i1).bl (HZF.out i1)).mono ?_
          rintro e w' ⟨rfl, hb9, hw9, _⟩
          have hB9 : Below B w _ := (HLF.out i1).be.trans hw9
          have HB9 := hide (show Bld B b (Lib.byteCells (L1 ++ (x.frs.drop j).reverse.flatMap frOuter)) _ from by rw [HST.out, ← bytes_app, ← strCells_eq]; exact hb9)
          clear hb9 hw9
          go_wp2_with (fail)
          go_roundw
          case rel => exact ⟨j, (j : Int) - 1, by omega, rfl, rfl, HB9.out, hB9, by rw [HST.out]; exact HLS.out⟩
          case measure => simp [intOf]; try omega
        | zero =>
          have hneg : jz < 0 := by omega
          have hneg' : decide (0 ≤ jz) = false := by simp; omega
          clear hjz
          obtain ⟨hvl, hhvl⟩ : ∃ hvl, hv.data.toList = hvl := ⟨_, rfl⟩
          have HBA := hide hbj
          have HL2 := hide hL2
          have HWH := hide (fun W (h : Bld B b (Lib.byteCells L2) W) (hs : B ≤ W.heap.size) => WriteString_any B b (Lib.byteCells L2) hv W h (by rw [bytes_len]; omega) hs)
          clear hhvl hbj hL2
          go_wp2_with (fail)
          refine (HHD.out _).mono ?_
          rintro e w2 ⟨rfl, hw2⟩
          have hB2 := hBj.trans (hw2.mono hzj)
          have HB2 := hide (bld_below HBA.out hw2)
          clear hw2
          go_wp2_with (fail)
          refine (HWH.out _ HB2.out (by have := hB2.size; omega)).mono ?_
          rintro e w3 ⟨rfl, hb3, hw3, _⟩
          have hB3 := hB2.trans hw3
          rw [strCells_eq, bytes_app, HHL.out] at hb3
          have HB3 := hide hb3
          have hl3 : (L2 ++ headL x).length ≤ (n - k) * 1000000 - 20 := by rw [List.length_append, ← HHL.out, ← size_of rfl]; omega
          clear hb3 hw3
          have hat : outerAt l k = traceL ++ x.frs.reverse.flatMap frOuter ++ headL x ++ (if k = 0 then [] else whichL) := by unfold outerAt; rw [HX.out]
          have hpa : ((List.range n).drop k).reverse.flatMap (outerAt l) = L2 ++ headL x ++ (if k = 0 then [] else whichL) := by
            rw [flat_range_rev _ hlt, HL0.out, hat, ← HL2.out, ← HL1.out]
            simp
          have HPA := hide hpa
          clear hpa hat
          by_cases hkz : k = 0
          · have hk1 : ¬ (0 < k) := by omega
            have hk2 : decide (0 < k) = false := by simp; omega
            have hk3 : decide ((0 : Int) < (k : Int)) = false := by simp; omega
            have HPB := hide (show ((List.range n).drop k).reverse.flatMap (outerAt l) = L2 ++ headL x by rw [HPA.out, if_pos hkz]; simp)
            clear hkz
            go_wp2_with (fail)
            go_roundw
            case rel => exact ⟨k, (k : Int) - 1, by omega, rfl, rfl, by rw [HPB.out]; exact HB3.out, hB3, by rw [HPB.out]; omega⟩
            case measure => simp [intOf]; try omega
          · have hk1 : 0 < k := by omega
            have hk3 : (0 : Int) < (k : Int) := by omega
            have HPB := hide (show ((List.range n).drop k).reverse.flatMap (outerAt l) = L2 ++ headL x ++ whichL by rw [HPA.out, if_neg hkz])
            have HWW := hide (fun W (h : Bld B b (Lib.byteCells (L2 ++ headL x)) W) (hs : B ≤ W.heap.size) => WriteString_any B b (Lib.byteCells (L2 ++ headL x)) ⟨#[119, 104, 105, 99, 104, 32, 108, 101, 100, 32, 116, 111, 58, 10]⟩ W h (by rw [bytes_len]; have : (⟨#[119, 104, 105, 99, 104, 32, 108, 101, 100, 32, 116, 111, 58, 10]⟩ : ByteArray).size = 14 := rfl; omega) hs)
            clear hkz
            go_wp2_with (fail)
            refine (HWW.out _ HB3.out (by have := hB3.size; omega)).mono ?_
            rintro e w4 ⟨rfl, hb4, hw4, _⟩
            have hB4 := hB3.trans hw4
            rw [strCells_eq, bytes_app] at hb4
            have HB4 := hide (show Bld B b (Lib.byteCells (L2 ++ headL x ++ whichL)) w4 from hb4)
            clear hb4 hw4
            go_wp2_with (fail)
            go_roundw
            case rel => exact ⟨k, (k : Int) - 1, by omega, rfl, rfl, by rw [HPB.out]; exact HB4.out, hB4, by rw [HPB.out, List.length_append]; have : whichL.length = 14 := rfl; omega⟩
            case measure => simp [intOf]; try omega
end Go.Proofs.YtncpeokniffafaaGreatDoor

/- Walk of writeInner. -/
namespace Go.Proofs.YtncpeokniffafaaGreatDoor
open Go.RowKit
set_option linter.unusedVariables false
theorem shFrom_le {a b : List Frame} : ∀ (f k : Nat), k ≤ b.length → sharedFrom a b f k ≤ b.length
  | 0, k, h => h
  | f + 1, k, h => by
    unfold sharedFrom
    split
    · rename_i h1; exact shFrom_le f (k + 1) h1.2.1
    · exact h
theorem shN_le (a b : List Frame) : sharedN a b ≤ b.length := shFrom_le _ _ (Nat.zero_le _)
theorem map_add_zero (A : Option Addr) : A.map (fun a => a.add 0) = A := by
  cases A with
  | none => rfl
  | some a => simp [Addr.add]
/-- What stays in the worlds that a call leaves: the builder's text, what lies below B, a block. -/
structure BoxAt (B b : Nat) (L : List UInt8) (w0 : World) (g : Nat) (o : Obj) (w : World) : Prop where
  bl : Bld B b (Lib.byteCells L) w
  be : Below B w0 w
  bx : w.heap[g]? = some o
theorem BoxAt.below {B b g : Nat} {L : List UInt8} {w0 w w' : World} {o : Obj} (h : BoxAt B b L w0 g o w) (hB : B ≤ w0.heap.size) (hw : Below w.heap.size w w') : BoxAt B b L w0 g o w' :=
  ⟨bld_below h.bl hw, h.be.trans (hw.mono (Nat.le_trans hB h.be.size)), block_below h.bx hw⟩
theorem bfam {B b g : Nat} {L : List UInt8} {w0 w : World} {o : Obj} (h : BoxAt B b L w0 g o w) (hB : B ≤ w0.heap.size) : ∃ (I : Type) (F : I → World),
    (∃ i, w.drew = F i) ∧ (∀ i, BoxAt B b L w0 g o (F i)) ∧ ∀ i w', Below (F i).heap.size (F i) w' → ∃ j, w' = F j :=
  ⟨{ w' : World // BoxAt B b L w0 g o w' }, Subtype.val, ⟨⟨w.drew, h.below hB ((Below.refl _ _).drew)⟩, rfl⟩, fun i => i.2, fun i w' hw => ⟨⟨w', i.2.below hB hw⟩, rfl⟩⟩
theorem more_len (g : Nat) (hg : g ≤ 200) : (toldL (g : Int)).length ≤ 3 := by
  unfold toldL
  exact digs_len 10 (by decide) 3 _ (by simp; omega) (by decide)
set_option maxRecDepth 100000 in
set_option maxHeartbeats 16000000 in
theorem writeInner_any (B b : Nat) (A : Option Addr) (n c : Nat) (l : List FaultT) (w : World) (hb : Bld B b [] w) (hBw : B ≤ w.heap.size) (hn : n ≤ 10) (hnc : n ≤ c) (hl : Sl w B FaultT.cs 3 A n l) (hf : ∀ x ∈ l, FGood B w x) (ht : TabsB B w) :
    Calls Tryz.prog 12 #[.pointer (some ⟨b, 0, none⟩), .slice A n c] w fun e w' => e = .returned (.tuple #[]) ∧ Bld B b (Lib.byteCells ((List.range l.length).flatMap (innerAt l))) w' ∧ Below B w w' := by
  have HL := hide hl.len
  have HSL := hide hl
  have HF := hide hf
  have HT := hide ht
  have HB := hide hb
  clear hl hf ht hb
  go_enter Tryz.func12, Tryz.ntmps12
  go_wp2_with (fail)
  go_loopw [11] (fun i wr => ∃ k : Nat, k ≤ n ∧ i = .int .i64 k ∧ Bld B b (Lib.byteCells ((List.range k).flatMap (innerAt l))) wr ∧ Below B w wr ∧ ((List.range k).flatMap (innerAt l)).length ≤ k * 1000000) (fun i _ => n - (intOf i).toNat)
  case atStart => exact ⟨0, Nat.zero_le _, rfl, HB.out, Below.refl _ _, by simp⟩
  case round =>
    obtain ⟨k, hk, rfl, hbl, hB, hlen⟩ := hrel
    have HBL := hide hbl
    have hz := hB.size
    clear hbl
    by_cases hlt : k < n
    · obtain ⟨bb, oo, x, rfl, hbb, hx, hc⟩ := (HSL.out.below hB).at_ hlt
      have hg := (HF.out x (List.mem_of_getElem? hx)).below hB
      have hc0 : wr.cell? ⟨bb, oo + k * 3, none⟩ = some (.string x.kind) := by simpa using hc 0 _ rfl
      have hc1 : wr.cell? ⟨bb, oo + k * 3 + 1, none⟩ = some (.string x.text) := hc 1 _ rfl
      obtain ⟨AX, hAX⟩ : ∃ AX, x.A = AX := ⟨_, rfl⟩
      have hc2 : wr.cell? ⟨bb, oo + k * 3 + 2, none⟩ = some (.slice AX x.n x.cap) := hAX ▸ hc 2 _ rfl
      have HG := hide hg
      have HX := hide hx
      obtain ⟨hv, hhv⟩ : ∃ hv : ByteArray, ⟨(headL x).toArray⟩ = hv := ⟨_, rfl⟩
      have hhl : hv.data.toList = headL x := by rw [← hhv]
      have hhs : hv.size ≤ 3000 := by
        rw [size_of hhl]
        have h1 := hg.k
        have h2 := hg.t
        have e1 := size_of (x := x.kind) rfl
        have e2 := size_of (x := x.text) rfl
        unfold headL
        split <;> simp only [List.length_append, List.length_cons, List.length_nil] <;> omega
      have HHD := hide (fun W => head_any x W hg.k hg.t)
      rw [hhv, hAX] at HHD
      have HAX := hide hAX
      have HHL := hide hhl
      obtain ⟨L0, hL0⟩ : ∃ L0, (List.range k).flatMap (innerAt l) = L0 := ⟨_, rfl⟩
      rw [hL0] at HBL hlen
      have HL0 := hide hL0
      have HX0 := hide (heap_alloc_new wr (.cells #[.string x.kind, .string x.text, .slice AX x.n x.cap] 34))
      have HBA := hide (fun o : Obj => bld_below HBL.out ((Below.refl _ _).alloc (Nat.le_refl _) o))
      have hBB : B ≤ wr.heap.size := by omega
      have hbx := bld_lt0 HBL.out
      have hxn0 := hg.nc
      have hxn := hg.n
      have HMZ := hide (map_add_zero AX)
      clear hc hg hx hhv hhl hL0 hAX
      by_cases hkz : k = 0
      · have hk1 : ¬ (0 < k) := by omega
        have hk2 : decide (0 < k) = false := by simp; omega
        have hk3 : decide ((0 : Int) < (k : Int)) = false := by simp; omega
        have hgone : goneN l k = 0 := by unfold goneN; rw [if_pos hkz]
        have HGO := hide hgone
        have HCA0 := hide (show (if k = 0 then [] else causedL) = ([] : List UInt8) from if_pos hkz)
        clear hkz hgone
        obtain ⟨L1, hL1⟩ : ∃ L1, L0 ++ ([] : List UInt8) = L1 := ⟨_, rfl⟩
        have hl1 : L1.length ≤ L0.length + 11 := by rw [← hL1]; simp
        have HL1 := hide hL1
        have HB1 : Hid (∀ o : Obj, Bld B b (Lib.byteCells L1) (wr.alloc o)) := hide (fun o => by rw [← HL1.out, List.append_nil]; exact HBA.out o)
        clear hL1
        go_wp2_with (fail)
        refine (HHD.out _).mono ?_
        rintro e w2 ⟨rfl, hw2⟩
        have hB2 : Below B w w2 := hB.trans (((Below.refl _ _).alloc (Nat.le_refl _) _).trans (hw2.mono (by simp)) |>.mono hBB)
        have HB2 := hide (bld_below (HB1.out _) hw2)
        have hX2 := block_below HX0.out hw2
        have HX2 := hide hX2
        have HWH := hide (fun W (h : Bld B b (Lib.byteCells L1) W) (hs : B ≤ W.heap.size) => WriteString_any B b (Lib.byteCells L1) hv W h (by rw [bytes_len]; omega) hs)
        clear hw2 hX2
        go_wp2_with (fail)
        refine (HWH.out _ HB2.out (by have := hB2.size; omega)).mono ?_
        rintro e w3 ⟨rfl, hb3, hw3, hk3w⟩
        have hB3 := hB2.trans hw3
        have hX3 := hk3w _ _ _ _ HX2.out (by decide) (by omega)
        rw [strCells_eq, bytes_app, HHL.out] at hb3
        obtain ⟨L3, hL3⟩ : ∃ L3, L1 ++ headL x = L3 := ⟨_, rfl⟩
        rw [hL3] at hb3
        have HB3 := hide hb3
        have hl3 : L3.length ≤ L1.length + 3000 := by rw [← hL3, List.length_append, ← HHL.out, ← size_of rfl]; omega
        have HL3 := hide hL3
        have q2 : w3.cell? ⟨wr.heap.size, 2, none⟩ = some (.slice AX x.n x.cap) := (block_cell hX3 2).trans rfl
        have hmz := HMZ.out
        obtain ⟨m, hm⟩ : ∃ m : Nat, m + 0 = x.n := ⟨x.n - 0, by omega⟩
        have hmc : (m : Int) ≤ (x.cap : Int) := by omega
        have hm0 : (0 : Int) ≤ (m : Int) := by omega
        have hsub : (x.n : Int) - (0 : Int) = (m : Int) := by omega
        clear hb3 hw3 hk3w hX3 hL3
        go_wp2_with (fail)
        clear q2 hmz
        obtain ⟨wo, rfl⟩ : ∃ wo : World, wo = wr := ⟨_, rfl⟩
        go_loopw [44] (fun a wr => ∃ j : Nat, j ≤ m ∧ a = .int .i64 j ∧ Bld B b (Lib.byteCells (L3 ++ (x.frs.take j).flatMap frInner)) wr ∧ Below B w wr ∧ (L3 ++ (x.frs.take j).flatMap frInner).length ≤ L3.length + j * 3000) (fun a _ => m - (intOf a).toNat)
        case atStart => exact ⟨0, Nat.zero_le _, rfl, by simpa using HB3.out, hB3, by simp⟩
        case round =>
          obtain ⟨j, hj, rfl, hbj, hBj, hlj⟩ := hrel
          have hzj : B ≤ wr.heap.size := Nat.le_trans hBw hBj.size
          have hbl0 := bld_lt0 hbj
          obtain ⟨L2, hL2⟩ : ∃ L2, L3 ++ (x.frs.take j).flatMap frInner = L2 := ⟨_, rfl⟩
          rw [hL2] at hbj hlj
          by_cases hlt2 : j < m
          · obtain ⟨fb, fo, y, hA, hfb, hy, hcf⟩ := ((HF.out x (List.mem_of_getElem? HX.out)).sl.below hBj).at_ (show j < x.n by omega)
            have hA' := HAX.out.symm.trans hA
            subst hA'
            clear hA
            have hyg := HG.out.fr y (List.mem_of_getElem? hy)
            have c0 : wr.cell? ⟨fb, fo + j * 6, none⟩ = some (.string y.mod) := by simpa using hcf 0 _ rfl
            have c1 : wr.cell? ⟨fb, fo + j * 6 + 1, none⟩ = some (.string y.fn) := hcf 1 _ rfl
            have c2 : wr.cell? ⟨fb, fo + j * 6 + 2, none⟩ = some (.string y.file) := hcf 2 _ rfl
            have c3 : wr.cell? ⟨fb, fo + j * 6 + 3, none⟩ = some (.int .i64 y.line) := hcf 3 _ rfl
            have c4 : wr.cell? ⟨fb, fo + j * 6 + 4, none⟩ = some (.int .i64 y.addr) := hcf 4 _ rfl
            have c5 : wr.cell? ⟨fb, fo + j * 6 + 5, none⟩ = some (.bool y.own) := hcf 5 _ rfl
            obtain ⟨pb, hpb⟩ : ∃ pb : ByteArray, ⟨(placeL y).toArray⟩ = pb := ⟨_, rfl⟩
            have HCA := hide (fun W => call_any y W hyg.m hyg.f)
            have HPL := hide (fun W (h : Tabs W) => place_any y W hyg h)
            rw [hpb] at HPL
            have hcl := call_len y hyg
            have hps : pb.size ≤ 1001 := by rw [size_of (x := pb) (l := placeL y) (by rw [← hpb])]; exact place_len y hyg
            obtain ⟨cb, hcb⟩ : ∃ cb, callB y = cb := ⟨_, rfl⟩
            rw [hcb] at HCA hcl
            have h10 : (⟨#[10]⟩ : ByteArray).size = 1 := rfl
            have h32 : (⟨#[32, 32, 32, 32, 97, 116, 32]⟩ : ByteArray).size = 7 := rfl
            have HWL := hide (fun W (h : Bld B b (Lib.byteCells L2) W) (hs : B ≤ W.heap.size) => WriteString_any B b (Lib.byteCells L2) (⟨#[32, 32, 32, 32, 97, 116, 32]⟩ ++ cb ++ pb ++ ⟨#[10]⟩) W h (by rw [bytes_len, ByteArray.size_append, ByteArray.size_append, ByteArray.size_append]; omega) hs)
            have HST := hide (show L3 ++ (x.frs.take (j + 1)).flatMap frInner = L2 ++ (⟨#[32, 32, 32, 32, 97, 116, 32]⟩ ++ cb ++ pb ++ ⟨#[10]⟩ : ByteArray).data.toList by rw [flat_take_succ frInner hy, ← List.append_assoc, hL2]; unfold frInner lineL; rw [hcb, ← hpb]; simp [ByteArray.data_append])
            have HLS := hide (show (L2 ++ (⟨#[32, 32, 32, 32, 97, 116, 32]⟩ ++ cb ++ pb ++ ⟨#[10]⟩ : ByteArray).data.toList).length ≤ L3.length + (j + 1) * 3000 by rw [List.length_append, ← size_of rfl, ByteArray.size_append, ByteArray.size_append, ByteArray.size_append]; omega)
            clear h10 h32
            have hLA0 : LineAt B b L2 w wr.heap.size y (wr.alloc (.cells #[.string y.mod, .string y.fn, .string y.file, .int .i64 y.line, .int .i64 y.addr, .bool y.own] 38)) := ⟨bld_below hbj ((Below.refl _ _).alloc (Nat.le_refl _) _), hBj.alloc hzj _, heap_alloc_new wr _, (HT.out.below hBj).below ((Below.refl _ _).alloc hzj _)⟩
            have HLA0 := hide hLA0
            clear hLA0 hcf hy hpb hcb hbj hL2
            go_wp2_with (fail)
            have hLA := HLA0.out
            generalize (wr.alloc (.cells #[.string y.mod, .string y.fn, .string y.file, .int .i64 y.line, .int .i64 y.addr, .bool y.own] 38)) = wx at hLA ⊢
            clear c0 c1 c2 c3 c4 c5 HLA0
            obtain ⟨I1, F1, hi1, hLF, hZF, hJ1⟩ := lfam hLA hBw; have HLF := hide hLF; have HZF := hide hZF; have hJ1 := hide hJ1; have k0 := fun i => (HLF.out i).bx.cells.1; have k1 := fun i => (HLF.out i).bx.cells.2.1; have k2 := fun i => (HLF.out i).bx.cells.2.2.1; have k3 := fun i => (HLF.out i).bx.cells.2.2.2.1; have k4 := fun i => (HLF.out i).bx.cells.2.2.2.2.1; have k5 := fun i => (HLF.out i).bx.cells.2.2.2.2.2; haveI : Nonempty I1 := ⟨hi1.choose⟩; clear hLA hLF hZF
            refine wp_region_fam_tail F1 8 hi1 (by kernel_rfl) (by kernel_rfl) ?_; simp only [List.take_succ_cons, List.take_zero, List.drop_succ_cons, List.drop_zero]; (repeat (go_big_quiet_step (first | (go_at_call 26; refine (HCA.out _).mono ?_; rintro e w' ⟨rfl, hw'⟩; exact ⟨rfl, hJ1.out _ _ hw'⟩) | (go_at_call 27; refine (HPL.out _ (HLF.out _).tb.t).mono ?_; rintro e w' ⟨rfl, hw'⟩; exact ⟨rfl, hJ1.out _ _ hw'⟩)))); refine wpQuiet_nil ?_; rintro _ ⟨i1, rfl⟩
            go_wp2_with (fail)
            refine (HWL.out _ (HLF.out i1).bl (HZF.out i1)).mono ?_
            rintro e w' ⟨rfl, hb9, hw9, _⟩
            have hB9 : Below B w _ := (HLF.out i1).be.trans hw9
            have HB9 := hide (show Bld B b (Lib.byteCells (L3 ++ (x.frs.take (j + 1)).flatMap frInner)) _ from by rw [HST.out, ← bytes_app, ← strCells_eq]; exact hb9)
            clear hb9 hw9
            go_wp2_with (fail)
            go_roundw
            case rel => exact ⟨j + 1, by omega, by go_num, HB9.out, hB9, by rw [HST.out]; exact HLS.out⟩
            case measure => simp [intOf]; omega
          · obtain rfl : j = m := by omega
            have hpa : (List.range (k + 1)).flatMap (innerAt l) = L2 ++ moreL 0 := by
              rw [flat_range_succ, HL0.out, ← hL2, ← HL3.out, ← HL1.out]
              have hat : innerAt l k = (if k = 0 then [] else causedL) ++ headL x ++ (x.frs.take (x.frs.length - goneN l k)).flatMap frInner ++ moreL (goneN l k) := by unfold innerAt; rw [HX.out]
              rw [hat, HCA0.out, HGO.out, show x.frs.length - 0 = j by rw [HG.out.sl.len]; omega]
              simp [List.append_assoc]
            have HPA := hide hpa
            have HBJ := hide hbj
            clear hpa hbj hL2
            have HPB := hide (show (List.range (k + 1)).flatMap (innerAt l) = L2 by rw [HPA.out]; simp [moreL])
            go_wp2_with (fail)
            go_roundw
            case rel => exact ⟨k + 1, by omega, by go_num, by rw [HPB.out]; exact HBJ.out, hBj, by rw [HPB.out]; omega⟩
            case measure => simp [intOf]; omega
      · have hk1 : 0 < k := by omega
        have hk3 : (0 : Int) < (k : Int) := by omega
        obtain ⟨k', hk'⟩ : ∃ k', k = k' + 1 := ⟨k - 1, by omega⟩
        have hkm : (k : Int) - 1 = (k' : Int) := by omega
        have hk'n : k' < n := by omega
        have hk'i : (k' : Int) < (n : Int) := by omega
        have hk'0 : (0 : Int) ≤ (k' : Int) := by omega
        obtain ⟨b3, o3, x', hA3, hb3, hx', hc'⟩ := (HSL.out.below hB).at_ hk'n
        simp only [Option.some.injEq, Addr.mk.injEq, and_true] at hA3
        obtain ⟨rfl, rfl⟩ := hA3
        have hg' := (HF.out x' (List.mem_of_getElem? hx')).below hB
        have hcp : wr.cell? ⟨bb, oo + k' * 3 + 2, none⟩ = some (.slice x'.A x'.n x'.cap) := hc' 2 _ rfl
        obtain ⟨SH, hSH⟩ : ∃ SH, sharedN x'.frs x.frs = SH := ⟨_, rfl⟩
        have hshl : SH ≤ x.n := by rw [← hSH, ← HG.out.sl.len]; exact shN_le _ _
        have HSHR := hide (fun (W : World) (h : Below B w W) => by
          have hs := h.size
          have h1 := ((HF.out x' (List.mem_of_getElem? hx')).sl.below h).more (Nat.le_trans hBw hs)
          have h2 := ((HF.out x (List.mem_of_getElem? HX.out)).sl.below h).more (Nat.le_trans hBw hs)
          have h3 := Shared_any x'.A x'.n x'.cap x.A x.n x.cap x'.frs x.frs W (by have := hg'.n; unfold maxLen; omega) (by have := HG.out.n; unfold maxLen; omega) h1 h2
          rw [hSH, HAX.out] at h3
          exact h3)
        have hgone : goneN l k = if SH < 2 then 0 else SH := by unfold goneN; rw [if_neg hkz, hk', Nat.add_sub_cancel, hx', ← hk', HX.out]; simp only [hSH]
        have HGN := hide hgone
        have HCA0 := hide (show (if k = 0 then [] else causedL) = causedL from if_neg hkz)
        have HCP := hide hcp
        have hxn' := hg'.nc
        have HWS := hide (fun W (h : Bld B b (Lib.byteCells L0) W) (hs : B ≤ W.heap.size) => WriteString_any B b (Lib.byteCells L0) ⟨#[67, 97, 117, 115, 101, 100, 32, 98, 121, 58, 32]⟩ W h (by rw [bytes_len]; have : (⟨#[67, 97, 117, 115, 101, 100, 32, 98, 121, 58, 32]⟩ : ByteArray).size = 11 := rfl; omega) hs)
        obtain ⟨L1, hL1⟩ : ∃ L1, L0 ++ causedL = L1 := ⟨_, rfl⟩
        have hl1 : L1.length ≤ L0.length + 11 := by rw [← hL1, List.length_append]; exact Nat.le_refl _
        have HL1 := hide hL1
        clear hc' hkz hk' hg' hx' hgone hL1 hSH hcp
        go_wp2_with (fail)
        refine (HWS.out _ (HBA.out _) (by simp; omega)).mono ?_
        rintro e w1 ⟨rfl, hb1, hw1, hk1w⟩
        have hX1 := hk1w _ _ _ _ HX0.out (by decide) (by omega)
        rw [strCells_eq, bytes_app] at hb1
        have hBX : BoxAt B b L1 w wr.heap.size (.cells #[.string x.kind, .string x.text, .slice AX x.n x.cap] 34 (0, 0)) w1 := ⟨by rw [← HL1.out]; exact hb1, hB.trans (((Below.refl _ _).alloc (Nat.le_refl _) _).mono hBB |>.trans hw1), hX1⟩
        clear hb1 hk1w hX1
        obtain ⟨I1, F1, hi1, hLF, hJ1⟩ := bfam hBX hBw
        have HLF := hide hLF
        have hJ1 := hide hJ1
        have HCE := hide (fun i => ((HLF.out i).be.cell (p := ⟨bb, oo + k' * 3 + 2, none⟩) hbb).trans ((hB.cell (p := ⟨bb, oo + k' * 3 + 2, none⟩) hbb).symm.trans HCP.out))
        have e2 := fun i => HCE.out i
        have e3 : ∀ i, (F1 i).cell? ⟨wr.heap.size, 2, none⟩ = some (.slice AX x.n x.cap) := fun i => (block_cell (HLF.out i).bx 2).trans rfl
        haveI : Nonempty I1 := ⟨hi1.choose⟩
        clear hBX hLF hw1
        go_wp2_with (fail)
        refine wp_region_fam F1 hi1 (by kernel_rfl) (by kernel_rfl) ?_
        (repeat (go_big_quiet_step ((go_at_call 24; refine (HSHR.out _ (HLF.out _).be).mono ?_; rintro e w' ⟨rfl, hw'⟩; exact ⟨rfl, hJ1.out _ _ hw'⟩))))
        refine wpQuiet_nil ?_
        rintro _ ⟨i1, rfl⟩
        have hX1 := (HLF.out i1).bx
        have hB1 := (HLF.out i1).be
        have HB1 := hide (HLF.out i1).bl
        clear e2 e3
        obtain ⟨w1', hw1'⟩ : ∃ w1', F1 i1 = w1' := ⟨_, rfl⟩
        rw [hw1'] at hX1 hB1 HB1 ⊢
        clear hw1'
        have q0 : w1'.cell? ⟨wr.heap.size, 0, none⟩ = some (.string x.kind) := (block_cell hX1 0).trans rfl
        have q1 : w1'.cell? ⟨wr.heap.size, 1, none⟩ = some (.string x.text) := (block_cell hX1 1).trans rfl
        have q2 : w1'.cell? ⟨wr.heap.size, 2, none⟩ = some (.slice AX x.n x.cap) := (block_cell hX1 2).trans rfl
        have HX1 := hide hX1
        clear hX1
        go_wp2_with (fail)
        refine (HHD.out _).mono ?_
        rintro e w2 ⟨rfl, hw2⟩
        have hB2 : Below B w w2 := hB1.trans (hw2.mono (Nat.le_trans hBw hB1.size))
        have HB2 := hide (bld_below HB1.out hw2)
        have hX2 := block_below HX1.out hw2
        clear q0 q1 q2
        by_cases hsh : SH < 2
        · have hs2 : ((SH : Nat) : Int) < 2 := by omega
          have HGO := hide (show goneN l k = 0 by rw [HGN.out, if_pos hsh])
          have HX2 := hide hX2
          have HWH := hide (fun W (h : Bld B b (Lib.byteCells L1) W) (hs : B ≤ W.heap.size) => WriteString_any B b (Lib.byteCells L1) hv W h (by rw [bytes_len]; omega) hs)
          clear hw2 hX2
          go_wp2_with (fail)
          refine (HWH.out _ HB2.out (by have := hB2.size; omega)).mono ?_
          rintro e w3 ⟨rfl, hb3, hw3, hk3w⟩
          have hB3 := hB2.trans hw3
          have hX3 := hk3w _ _ _ _ HX2.out (by decide) (by omega)
          rw [strCells_eq, bytes_app, HHL.out] at hb3
          obtain ⟨L3, hL3⟩ : ∃ L3, L1 ++ headL x = L3 := ⟨_, rfl⟩
          rw [hL3] at hb3
          have HB3 := hide hb3
          have hl3 : L3.length ≤ L1.length + 3000 := by rw [← hL3, List.length_append, ← HHL.out, ← size_of rfl]; omega
          have HL3 := hide hL3
          have q2 : w3.cell? ⟨wr.heap.size, 2, none⟩ = some (.slice AX x.n x.cap) := (block_cell hX3 2).trans rfl
          have hmz := HMZ.out
          obtain ⟨m, hm⟩ : ∃ m : Nat, m + 0 = x.n := ⟨x.n - 0, by omega⟩
          have hmc : (m : Int) ≤ (x.cap : Int) := by omega
          have hm0 : (0 : Int) ≤ (m : Int) := by omega
          have hsub : (x.n : Int) - (0 : Int) = (m : Int) := by omega
          clear hb3 hw3 hk3w hX3 hL3
          go_wp2_with (fail)
          clear q2 hmz
          obtain ⟨wo, rfl⟩ : ∃ wo : World, wo = wr := ⟨_, rfl⟩
          go_loopw [44] (fun a wr => ∃ j : Nat, j ≤ m ∧ a = .int .i64 j ∧ Bld B b (Lib.byteCells (L3 ++ (x.frs.take j).flatMap frInner)) wr ∧ Below B w wr ∧ (L3 ++ (x.frs.take j).flatMap frInner).length ≤ L3.length + j * 3000) (fun a _ => m - (intOf a).toNat)
          case atStart => exact ⟨0, Nat.zero_le _, rfl, by simpa using HB3.out, hB3, by simp⟩
          case round =>
            obtain ⟨j, hj, rfl, hbj, hBj, hlj⟩ := hrel
            have hzj : B ≤ wr.heap.size := Nat.le_trans hBw hBj.size
            have hbl0 := bld_lt0 hbj
            obtain ⟨L2, hL2⟩ : ∃ L2, L3 ++ (x.frs.take j).flatMap frInner = L2 := ⟨_, rfl⟩
            rw [hL2] at hbj hlj
            by_cases hlt2 : j < m
            · obtain ⟨fb, fo, y, hA, hfb, hy, hcf⟩ := ((HF.out x (List.mem_of_getElem? HX.out)).sl.below hBj).at_ (show j < x.n by omega)
              have hA' := HAX.out.symm.trans hA
              subst hA'
              clear hA
              have hyg := HG.out.fr y (List.mem_of_getElem? hy)
              have c0 : wr.cell? ⟨fb, fo + j * 6, none⟩ = some (.string y.mod) := by simpa using hcf 0 _ rfl
              have c1 : wr.cell? ⟨fb, fo + j * 6 + 1, none⟩ = some (.string y.fn) := hcf 1 _ rfl
              have c2 : wr.cell? ⟨fb, fo + j * 6 + 2, none⟩ = some (.string y.file) := hcf 2 _ rfl
              have c3 : wr.cell? ⟨fb, fo + j * 6 + 3, none⟩ = some (.int .i64 y.line) := hcf 3 _ rfl
              have c4 : wr.cell? ⟨fb, fo + j * 6 + 4, none⟩ = some (.int .i64 y.addr) := hcf 4 _ rfl
              have c5 : wr.cell? ⟨fb, fo + j * 6 + 5, none⟩ = some (.bool y.own) := hcf 5 _ rfl
              obtain ⟨pb, hpb⟩ : ∃ pb : ByteArray, ⟨(placeL y).toArray⟩ = pb := ⟨_, rfl⟩
              have HCA := hide (fun W => call_any y W hyg.m hyg.f)
              have HPL := hide (fun W (h : Tabs W) => place_any y W hyg h)
              rw [hpb] at HPL
              have hcl := call_len y hyg
              have hps : pb.size ≤ 1001 := by rw [size_of (x := pb) (l := placeL y) (by rw [← hpb])]; exact place_len y hyg
              obtain ⟨cb, hcb⟩ : ∃ cb, callB y = cb := ⟨_, rfl⟩
              rw [hcb] at HCA hcl
              have h10 : (⟨#[10]⟩ : ByteArray).size = 1 := rfl
              have h32 : (⟨#[32, 32, 32, 32, 97, 116, 32]⟩ : ByteArray).size = 7 := rfl
              have HWL := hide (fun W (h : Bld B b (Lib.byteCells L2) W) (hs : B ≤ W.heap.size) => WriteString_any B b (Lib.byteCells L2) (⟨#[32, 32, 32, 32, 97, 116, 32]⟩ ++ cb ++ pb ++ ⟨#[10]⟩) W h (by rw [bytes_len, ByteArray.size_append, ByteArray.size_append, ByteArray.size_append]; omega) hs)
              have HST := hide (show L3 ++ (x.frs.take (j + 1)).flatMap frInner = L2 ++ (⟨#[32, 32, 32, 32, 97, 116, 32]⟩ ++ cb ++ pb ++ ⟨#[10]⟩ : ByteArray).data.toList by rw [flat_take_succ frInner hy, ← List.append_assoc, hL2]; unfold frInner lineL; rw [hcb, ← hpb]; simp [ByteArray.data_append])
              have HLS := hide (show (L2 ++ (⟨#[32, 32, 32, 32, 97, 116, 32]⟩ ++ cb ++ pb ++ ⟨#[10]⟩ : ByteArray).data.toList).length ≤ L3.length + (j + 1) * 3000 by rw [List.length_append, ← size_of rfl, ByteArray.size_append, ByteArray.size_append, ByteArray.size_append]; omega)
              clear h10 h32
              have hLA0 : LineAt B b L2 w wr.heap.size y (wr.alloc (.cells #[.string y.mod, .string y.fn, .string y.file, .int .i64 y.line, .int .i64 y.addr, .bool y.own] 38)) := ⟨bld_below hbj ((Below.refl _ _).alloc (Nat.le_refl _) _), hBj.alloc hzj _, heap_alloc_new wr _, (HT.out.below hBj).below ((Below.refl _ _).alloc hzj _)⟩
              have HLA0 := hide hLA0
              clear hLA0 hcf hy hpb hcb hbj hL2
              go_wp2_with (fail)
              have hLA := HLA0.out
              generalize (wr.alloc (.cells #[.string y.mod, .string y.fn, .string y.file, .int .i64 y.line, .int .i64 y.addr, .bool y.own] 38)) = wx at hLA ⊢
              clear c0 c1 c2 c3 c4 c5 HLA0
              obtain ⟨I1, F1, hi1, hLF, hZF, hJ1⟩ := lfam hLA hBw; have HLF := hide hLF; have HZF := hide hZF; have hJ1 := hide hJ1; have k0 := fun i => (HLF.out i).bx.cells.1; have k1 := fun i => (HLF.out i).bx.cells.2.1; have k2 := fun i => (HLF.out i).bx.cells.2.2.1; have k3 := fun i => (HLF.out i).bx.cells.2.2.2.1; have k4 := fun i => (HLF.out i).bx.cells.2.2.2.2.1; have k5 := fun i => (HLF.out i).bx.cells.2.2.2.2.2; haveI : Nonempty I1 := ⟨hi1.choose⟩; clear hLA hLF hZF
              refine wp_region_fam_tail F1 8 hi1 (by kernel_rfl) (by kernel_rfl) ?_; simp only [List.take_succ_cons, List.take_zero, List.drop_succ_cons, List.drop_zero]; (repeat (go_big_quiet_step (first | (go_at_call 26; refine (HCA.out _).mono ?_; rintro e w' ⟨rfl, hw'⟩; exact ⟨rfl, hJ1.out _ _ hw'⟩) | (go_at_call 27; refine (HPL.out _ (HLF.out _).tb.t).mono ?_; rintro e w' ⟨rfl, hw'⟩; exact ⟨rfl, hJ1.out _ _ hw'⟩)))); refine wpQuiet_nil ?_; rintro _ ⟨i1, rfl⟩
              go_wp2_with (fail)
              refine (HWL.out _ (HLF.out i1).bl (HZF.out i1)).mono ?_
              rintro e w' ⟨rfl, hb9, hw9, _⟩
              have hB9 : Below B w _ := (HLF.out i1).be.trans hw9
              have HB9 := hide (show Bld B b (Lib.byteCells (L3 ++ (x.frs.take (j + 1)).flatMap frInner)) _ from by rw [HST.out, ← bytes_app, ← strCells_eq]; exact hb9)
              clear hb9 hw9
              go_wp2_with (fail)
              go_roundw
              case rel => exact ⟨j + 1, by omega, by go_num, HB9.out, hB9, by rw [HST.out]; exact HLS.out⟩
              case measure => simp [intOf]; omega
            · obtain rfl : j = m := by omega
              have hpa : (List.range (k + 1)).flatMap (innerAt l) = L2 ++ moreL 0 := by
                rw [flat_range_succ, HL0.out, ← hL2, ← HL3.out, ← HL1.out]
                have hat : innerAt l k = (if k = 0 then [] else causedL) ++ headL x ++ (x.frs.take (x.frs.length - goneN l k)).flatMap frInner ++ moreL (goneN l k) := by unfold innerAt; rw [HX.out]
                rw [hat, HCA0.out, HGO.out, show x.frs.length - 0 = j by rw [HG.out.sl.len]; omega]
                simp [List.append_assoc]
              have HPA := hide hpa
              have HBJ := hide hbj
              clear hpa hbj hL2
              have HPB := hide (show (List.range (k + 1)).flatMap (innerAt l) = L2 by rw [HPA.out]; simp [moreL])
              go_wp2_with (fail)
              go_roundw
              case rel => exact ⟨k + 1, by omega, by go_num, by rw [HPB.out]; exact HBJ.out, hBj, by rw [HPB.out]; omega⟩
              case measure => simp [intOf]; omega
        · have hs2 : ¬ (((SH : Nat) : Int) < 2) := by omega
          have hs3 : decide (((SH : Nat) : Int) < 2) = false := by simp; omega
          have hs4 : decide (SH < 2) = false := by simp; omega
          have HGO := hide (show goneN l k = SH by rw [HGN.out, if_neg hsh])
          have HX2 := hide hX2
          have HWH := hide (fun W (h : Bld B b (Lib.byteCells L1) W) (hs : B ≤ W.heap.size) => WriteString_any B b (Lib.byteCells L1) hv W h (by rw [bytes_len]; omega) hs)
          clear hw2 hX2
          go_wp2_with (fail)
          refine (HWH.out _ HB2.out (by have := hB2.size; omega)).mono ?_
          rintro e w3 ⟨rfl, hb3, hw3, hk3w⟩
          have hB3 := hB2.trans hw3
          have hX3 := hk3w _ _ _ _ HX2.out (by decide) (by omega)
          rw [strCells_eq, bytes_app, HHL.out] at hb3
          obtain ⟨L3, hL3⟩ : ∃ L3, L1 ++ headL x = L3 := ⟨_, rfl⟩
          rw [hL3] at hb3
          have HB3 := hide hb3
          have hl3 : L3.length ≤ L1.length + 3000 := by rw [← hL3, List.length_append, ← HHL.out, ← size_of rfl]; omega
          have HL3 := hide hL3
          have q2 : w3.cell? ⟨wr.heap.size, 2, none⟩ = some (.slice AX x.n x.cap) := (block_cell hX3 2).trans rfl
          have hmz := HMZ.out
          obtain ⟨m, hm⟩ : ∃ m : Nat, m + SH = x.n := ⟨x.n - SH, by omega⟩
          have hmc : (m : Int) ≤ (x.cap : Int) := by omega
          have hm0 : (0 : Int) ≤ (m : Int) := by omega
          have hsub : (x.n : Int) - (SH : Int) = (m : Int) := by omega
          clear hb3 hw3 hk3w hX3 hL3
          go_wp2_with (fail)
          clear q2 hmz
          obtain ⟨wo, rfl⟩ : ∃ wo : World, wo = wr := ⟨_, rfl⟩
          go_loopw [44] (fun a wr => ∃ j : Nat, j ≤ m ∧ a = .int .i64 j ∧ Bld B b (Lib.byteCells (L3 ++ (x.frs.take j).flatMap frInner)) wr ∧ Below B w wr ∧ (L3 ++ (x.frs.take j).flatMap frInner).length ≤ L3.length + j * 3000) (fun a _ => m - (intOf a).toNat)
          case atStart => exact ⟨0, Nat.zero_le _, rfl, by simpa using HB3.out, hB3, by simp⟩
          case round =>
            obtain ⟨j, hj, rfl, hbj, hBj, hlj⟩ := hrel
            have hzj : B ≤ wr.heap.size := Nat.le_trans hBw hBj.size
            have hbl0 := bld_lt0 hbj
            obtain ⟨L2, hL2⟩ : ∃ L2, L3 ++ (x.frs.take j).flatMap frInner = L2 := ⟨_, rfl⟩
            rw [hL2] at hbj hlj
            by_cases hlt2 : j < m
            · obtain ⟨fb, fo, y, hA, hfb, hy, hcf⟩ := ((HF.out x (List.mem_of_getElem? HX.out)).sl.below hBj).at_ (show j < x.n by omega)
              have hA' := HAX.out.symm.trans hA
              subst hA'
              clear hA
              have hyg := HG.out.fr y (List.mem_of_getElem? hy)
              have c0 : wr.cell? ⟨fb, fo + j * 6, none⟩ = some (.string y.mod) := by simpa using hcf 0 _ rfl
              have c1 : wr.cell? ⟨fb, fo + j * 6 + 1, none⟩ = some (.string y.fn) := hcf 1 _ rfl
              have c2 : wr.cell? ⟨fb, fo + j * 6 + 2, none⟩ = some (.string y.file) := hcf 2 _ rfl
              have c3 : wr.cell? ⟨fb, fo + j * 6 + 3, none⟩ = some (.int .i64 y.line) := hcf 3 _ rfl
              have c4 : wr.cell? ⟨fb, fo + j * 6 + 4, none⟩ = some (.int .i64 y.addr) := hcf 4 _ rfl
              have c5 : wr.cell? ⟨fb, fo + j * 6 + 5, none⟩ = some (.bool y.own) := hcf 5 _ rfl
              obtain ⟨pb, hpb⟩ : ∃ pb : ByteArray, ⟨(placeL y).toArray⟩ = pb := ⟨_, rfl⟩
              have HCA := hide (fun W => call_any y W hyg.m hyg.f)
              have HPL := hide (fun W (h : Tabs W) => place_any y W hyg h)
              rw [hpb] at HPL
              have hcl := call_len y hyg
              have hps : pb.size ≤ 1001 := by rw [size_of (x := pb) (l := placeL y) (by rw [← hpb])]; exact place_len y hyg
              obtain ⟨cb, hcb⟩ : ∃ cb, callB y = cb := ⟨_, rfl⟩
              rw [hcb] at HCA hcl
              have h10 : (⟨#[10]⟩ : ByteArray).size = 1 := rfl
              have h32 : (⟨#[32, 32, 32, 32, 97, 116, 32]⟩ : ByteArray).size = 7 := rfl
              have HWL := hide (fun W (h : Bld B b (Lib.byteCells L2) W) (hs : B ≤ W.heap.size) => WriteString_any B b (Lib.byteCells L2) (⟨#[32, 32, 32, 32, 97, 116, 32]⟩ ++ cb ++ pb ++ ⟨#[10]⟩) W h (by rw [bytes_len, ByteArray.size_append, ByteArray.size_append, ByteArray.size_append]; omega) hs)
              have HST := hide (show L3 ++ (x.frs.take (j + 1)).flatMap frInner = L2 ++ (⟨#[32, 32, 32, 32, 97, 116, 32]⟩ ++ cb ++ pb ++ ⟨#[10]⟩ : ByteArray).data.toList by rw [flat_take_succ frInner hy, ← List.append_assoc, hL2]; unfold frInner lineL; rw [hcb, ← hpb]; simp [ByteArray.data_append])
              have HLS := hide (show (L2 ++ (⟨#[32, 32, 32, 32, 97, 116, 32]⟩ ++ cb ++ pb ++ ⟨#[10]⟩ : ByteArray).data.toList).length ≤ L3.length + (j + 1) * 3000 by rw [List.length_append, ← size_of rfl, ByteArray.size_append, ByteArray.size_append, ByteArray.size_append]; omega)
              clear h10 h32
              have hLA0 : LineAt B b L2 w wr.heap.size y (wr.alloc (.cells #[.string y.mod, .string y.fn, .string y.file, .int .i64 y.line, .int .i64 y.addr, .bool y.own] 38)) := ⟨bld_below hbj ((Below.refl _ _).alloc (Nat.le_refl _) _), hBj.alloc hzj _, heap_alloc_new wr _, (HT.out.below hBj).below ((Below.refl _ _).alloc hzj _)⟩
              have HLA0 := hide hLA0
              clear hLA0 hcf hy hpb hcb hbj hL2
              go_wp2_with (fail)
              have hLA := HLA0.out
              generalize (wr.alloc (.cells #[.string y.mod, .string y.fn, .string y.file, .int .i64 y.line, .int .i64 y.addr, .bool y.own] 38)) = wx at hLA ⊢
              clear c0 c1 c2 c3 c4 c5 HLA0
              obtain ⟨I1, F1, hi1, hLF, hZF, hJ1⟩ := lfam hLA hBw; have HLF := hide hLF; have HZF := hide hZF; have hJ1 := hide hJ1; have k0 := fun i => (HLF.out i).bx.cells.1; have k1 := fun i => (HLF.out i).bx.cells.2.1; have k2 := fun i => (HLF.out i).bx.cells.2.2.1; have k3 := fun i => (HLF.out i).bx.cells.2.2.2.1; have k4 := fun i => (HLF.out i).bx.cells.2.2.2.2.1; have k5 := fun i => (HLF.out i).bx.cells.2.2.2.2.2; haveI : Nonempty I1 := ⟨hi1.choose⟩; clear hLA hLF hZF
              refine wp_region_fam_tail F1 8 hi1 (by kernel_rfl) (by kernel_rfl) ?_; simp only [List.take_succ_cons, List.take_zero, List.drop_succ_cons, List.drop_zero]; (repeat (go_big_quiet_step (first | (go_at_call 26; refine (HCA.out _).mono ?_; rintro e w' ⟨rfl, hw'⟩; exact ⟨rfl, hJ1.out _ _ hw'⟩) | (go_at_call 27; refine (HPL.out _ (HLF.out _).tb.t).mono ?_; rintro e w' ⟨rfl, hw'⟩; exact ⟨rfl, hJ1.out _ _ hw'⟩)))); refine wpQuiet_nil ?_; rintro _ ⟨i1, rfl⟩
              go_wp2_with (fail)
              refine (HWL.out _ (HLF.out i1).bl (HZF.out i1)).mono ?_
              rintro e w' ⟨rfl, hb9, hw9, _⟩
              have hB9 : Below B w _ := (HLF.out i1).be.trans hw9
              have HB9 := hide (show Bld B b (Lib.byteCells (L3 ++ (x.frs.take (j + 1)).flatMap frInner)) _ from by rw [HST.out, ← bytes_app, ← strCells_eq]; exact hb9)
              clear hb9 hw9
              go_wp2_with (fail)
              go_roundw
              case rel => exact ⟨j + 1, by omega, by go_num, HB9.out, hB9, by rw [HST.out]; exact HLS.out⟩
              case measure => simp [intOf]; omega
            · obtain rfl : j = m := by omega
              have hpa : (List.range (k + 1)).flatMap (innerAt l) = L2 ++ moreL SH := by
                rw [flat_range_succ, HL0.out, ← hL2, ← HL3.out, ← HL1.out]
                have hat : innerAt l k = (if k = 0 then [] else causedL) ++ headL x ++ (x.frs.take (x.frs.length - goneN l k)).flatMap frInner ++ moreL (goneN l k) := by unfold innerAt; rw [HX.out]
                rw [hat, HCA0.out, HGO.out, show x.frs.length - SH = j by rw [HG.out.sl.len]; omega]
                simp [List.append_assoc]
              have HPA := hide hpa
              have HBJ := hide hbj
              clear hpa hbj hL2
              obtain ⟨tb, htb⟩ : ∃ tb : ByteArray, ⟨(toldL (SH : Int)).toArray⟩ = tb := ⟨_, rfl⟩
              have htl : tb.data.toList = toldL (SH : Int) := by rw [← htb]
              have hts : tb.size ≤ 3 := by rw [size_of htl]; exact more_len SH (by omega)
              have HIT := hide (fun W (h : Tabs W) => Itoa_any (SH : Int) W (by omega) (by omega) h.pow)
              rw [htb] at HIT
              have h8 : (⟨#[32, 32, 32, 32, 46, 46, 46, 32]⟩ : ByteArray).size = 8 := rfl
              have h6 : (⟨#[32, 109, 111, 114, 101, 10]⟩ : ByteArray).size = 6 := rfl
              have HWM := hide (fun W (h : Bld B b (Lib.byteCells L2) W) (hs : B ≤ W.heap.size) => WriteString_any B b (Lib.byteCells L2) (⟨#[32, 32, 32, 32, 46, 46, 46, 32]⟩ ++ tb ++ ⟨#[32, 109, 111, 114, 101, 10]⟩) W h (by rw [bytes_len, ByteArray.size_append, ByteArray.size_append]; omega) hs)
              have HPB := hide (show (List.range (k + 1)).flatMap (innerAt l) = L2 ++ (⟨#[32, 32, 32, 32, 46, 46, 46, 32]⟩ ++ tb ++ ⟨#[32, 109, 111, 114, 101, 10]⟩ : ByteArray).data.toList by rw [HPA.out]; unfold moreL; rw [if_neg (by omega), ← htl]; simp [ByteArray.data_append])
              have HLE := hide (show (L2 ++ (⟨#[32, 32, 32, 32, 46, 46, 46, 32]⟩ ++ tb ++ ⟨#[32, 109, 111, 114, 101, 10]⟩ : ByteArray).data.toList).length ≤ (k + 1) * 1000000 by rw [List.length_append, ← size_of rfl, ByteArray.size_append, ByteArray.size_append]; omega)
              have HTJ := hide (HT.out.below hBj)
              have hs0 : (0 : Int) < (SH : Int) := by omega
              have hs1 : 0 < SH := by omega
              clear htb htl h8 h6
              go_wp2_with (fail)
              refine (HIT.out _ HTJ.out.t).mono ?_
              rintro e w5 ⟨rfl, hw5⟩
              have hB5 := hBj.trans (hw5.mono hzj)
              have HB5 := hide (bld_below HBJ.out hw5)
              clear hw5
              go_wp2_with (fail)
              refine (HWM.out _ HB5.out (by have := hB5.size; omega)).mono ?_
              rintro e w6 ⟨rfl, hb6, hw6, _⟩
              have hB6 := hB5.trans hw6
              rw [strCells_eq, bytes_app] at hb6
              have HB6 := hide hb6
              clear hb6 hw6
              go_wp2_with (fail)
              go_roundw
              case rel => exact ⟨k + 1, by omega, by go_num, by rw [HPB.out]; exact HB6.out, hB6, by rw [HPB.out]; exact HLE.out⟩
              case measure => simp [intOf]; omega
    · obtain rfl : k = n := by omega
      have HLN := hide HL.out
      go_wp2_with (fail)
      go_end0
      exact ⟨rfl, by rw [HLN.out]; exact HBL.out, hB⟩
end Go.Proofs.YtncpeokniffafaaGreatDoor

/- Walk of Write. -/
namespace Go.Proofs.YtncpeokniffafaaGreatDoor
open Go.RowKit
set_option linter.unusedVariables false
theorem index_has (l : List UInt8) (c : UInt8) : decide (0 ≤ Lib.indexByte l c) = l.contains c := by
  induction l with
  | nil => simp [Lib.indexByte]
  | cons b l ih =>
    have hge := Lib.indexByte_ge l c
    unfold Lib.indexByte
    by_cases hb : b = c
    · subst hb; simp
    · have hcb : ¬ c = b := fun e => hb e.symm
      rw [if_neg (by simpa using hb)]
      by_cases hn : Lib.indexByte l c = -1
      · rw [if_pos (by simpa using hn)]
        rw [hn] at ih
        simp [hcb] at ih ⊢
        exact ih
      · rw [if_neg (by simpa using hn)]
        have h0 : 0 ≤ Lib.indexByte l c := by omega
        have h1 : 0 ≤ Lib.indexByte l c + 1 := by omega
        simp only [h0, h1, decide_true] at ih ⊢
        simp [hcb] at ih ⊢
        exact ih
def bangS (s : ByteArray) : Bool := s.data.toList.contains 33
theorem Contains_bang (s : ByteArray) (W : World) : Calls Tryz.prog 11 #[.string s, .string ⟨#[33]⟩] W fun e w' => e = .returned (.bool (bangS s)) ∧ w' = W := by
  have h := Tryz.strings_Contains_one s 33 W
  rw [index_has] at h
  exact h
def bangX (x : Frame) : Bool := x.fn.data.toList.contains 33 || x.mod.data.toList.contains 33
def bangF (f : FaultT) : Bool := f.frs.any bangX
theorem banged_hit {l : List FaultT} {k j : Nat} {x : FaultT} {y : Frame} (hx : l[k]? = some x) (hy : x.frs[j]? = some y) (h : bangX y = true) : banged l = true :=
  List.any_eq_true.2 ⟨x, List.mem_of_getElem? hx, List.any_eq_true.2 ⟨y, List.mem_of_getElem? hy, h⟩⟩
theorem banged_none {l : List FaultT} (h : ∀ x ∈ l, bangF x = false) : banged l = false := by
  rw [banged, List.any_eq_false]
  intro x hx hx2
  have h1 : (x.frs.any fun x => x.fn.data.toList.contains 33 || x.mod.data.toList.contains 33) = false := h x hx
  rw [h1] at hx2
  cases hx2
theorem take_all_snoc {α : Type} {l : List α} {k : Nat} {a : α} {p : α → Bool} (h : ∀ x ∈ l.take k, p x = false) (ha : l[k]? = some a) (hp : p a = false) : ∀ x ∈ l.take (k + 1), p x = false := by
  intro x hx
  rw [take_succ_get ha, List.mem_append, List.mem_singleton] at hx
  rcases hx with hx | rfl
  · exact h x hx
  · exact hp
theorem bangF_none {x : FaultT} (h : ∀ y ∈ x.frs.take x.frs.length, bangX y = false) : bangF x = false := by
  rw [bangF, List.any_eq_false]
  intro y hy
  rw [h y (by rw [List.take_length]; exact hy)]
  simp
theorem frErr_good {y : Frame} (h : frErr y = 0) : y.good := by
  rw [frErr] at h
  split at h
  · cases h
  · rename_i hs
    split at h
    · rw [frTail] at h
      split at h; · cases h
      split at h; · cases h
      rename_i ho
      simp only [outsideB, Bool.or_eq_true, decide_eq_true_eq, not_or] at ho
      exact ⟨by omega, by omega, by omega, by omega, by omega, by omega, by omega⟩
    · cases h
theorem fltErr_good {x : FaultT} {w : World} (h : fltErr x = 0) (ho : x.ok w) : FGood w.heap.size w x := by
  rw [fltErr] at h
  split at h; · cases h
  split at h; · cases h
  split at h; · cases h
  split at h; · cases h
  split at h; · cases h
  have hlen := frsErr_len h
  have hn := ho.sl.len
  refine ⟨by omega, by omega, by omega, ho.nc, ho.sl, fun y hy => ?_⟩
  obtain ⟨i, hi, rfl⟩ := List.mem_iff_getElem.1 hy
  rw [frsErr, if_neg (by omega)] at h
  have h2 := firstErr_all h i hi
  rw [frAt_some (List.getElem?_eq_getElem hi)] at h2
  exact frErr_good h2
theorem fltsErr_good {l : List FaultT} {w : World} (h : fltsErr l = 0) (ho : FaultsOk w l) : l.length ≤ 10 ∧ ∀ x ∈ l, FGood w.heap.size w x := by
  rw [fltsErr] at h
  split at h; · cases h
  split at h; · cases h
  refine ⟨by omega, fun x hx => ?_⟩
  obtain ⟨i, hi, rfl⟩ := List.mem_iff_getElem.1 hx
  have h2 := firstErr_all h i hi
  rw [fltAt_some (List.getElem?_eq_getElem hi)] at h2
  exact fltErr_good h2 (ho _ hx)
/-- What Write answers for right faults and a right form. -/
def writeR (l : List FaultT) (form : Int) : List UInt8 × Int := if banged l then ([], 9) else if 1000000 < (writtenL l form).length then ([], 4) else (writtenL l form, 0)
set_option maxRecDepth 100000 in
set_option maxHeartbeats 16000000 in
theorem Write_good (A : Option Addr) (n c : Nat) (l : List FaultT) (form : Int) (w : World) (hnc : n ≤ c) (hl : Sl w w.heap.size FaultT.cs 3 A n l) (hf : FaultsOk w l) (hE : fltsErr l = 0) (hform : form = 1 ∨ form = 2 ∨ form = 3) (ht : TabsB w.heap.size w) :
    Calls Tryz.prog 5 #[.slice A n c, .int .i64 form] w fun e w' => e = .returned (.tuple #[.string ⟨(writeR l form).1.toArray⟩, .int .i64 (writeR l form).2]) ∧ Below w.heap.size w w' := by
  obtain ⟨hlen, hgood⟩ := fltsErr_good hE hf
  have HL := hide hl.len
  have hn : n ≤ 10 := by have := hl.len; omega
  have HSL := hide hl
  have HGD := hide hgood
  have HT := hide ht
  have HC := hide (show Calls Tryz.prog 9 #[.slice A n c] w fun e w' => e = .returned (.int .i64 0) ∧ Below w.heap.size w w' by
    have h := Check_any A n c l w (by unfold maxLen; omega) hl hf
    rw [hE] at h
    exact h)
  have HO := hide (fun W => show Calls Tryz.prog 10 #[.int .i64 form, .int .i64 1, .int .i64 3] W fun e w' => e = .returned (.bool false) ∧ W = w' by
    have h := outside_any form 1 3 W
    rw [show outsideB form 1 3 = false by rcases hform with rfl | rfl | rfl <;> decide] at h
    exact h)
  obtain ⟨RB, hRB⟩ : ∃ RB : ByteArray, ⟨(writeR l form).1.toArray⟩ = RB := ⟨_, rfl⟩
  obtain ⟨RI, hRI⟩ : ∃ RI : Int, (writeR l form).2 = RI := ⟨_, rfl⟩
  rw [hRB, hRI]
  have HRB := hide hRB
  have HRI := hide hRI
  have HFM := hide hform
  clear hl hf hgood ht hE hRB hRI hform
  go_enter Tryz.func5, Tryz.ntmps5
  go_wp2_with (first | (go_at_call 9; refine HC.out.mono ?_; rintro r w0 ⟨rfl, hB0⟩) | (go_at_call 10; refine (HO.out _).mono ?_; rintro e w' ⟨rfl, rfl⟩))
  go_loopw [21] (fun i wr => ∃ k : Nat, k ≤ n ∧ i = .int .i64 k ∧ (∀ x ∈ l.take k, bangF x = false) ∧ Below w.heap.size w wr) (fun i _ => n - (intOf i).toNat)
  case atStart => exact ⟨0, Nat.zero_le _, rfl, by simp, hB0⟩
  case round =>
    obtain ⟨k, hk, rfl, hno, hB⟩ := hrel
    have HNO := hide hno
    have hz := hB.size
    clear hno
    by_cases hlt : k < n
    · obtain ⟨bb, oo, x, rfl, hbb, hx, hc⟩ := (HSL.out.below hB).at_ hlt
      have hg := (HGD.out x (List.mem_of_getElem? hx)).below hB
      obtain ⟨AX, hAX⟩ : ∃ AX, x.A = AX := ⟨_, rfl⟩
      have c0 : wr.cell? ⟨bb, oo + k * 3, none⟩ = some (.string x.kind) := by simpa using hc 0 _ rfl
      have c1 : wr.cell? ⟨bb, oo + k * 3 + 1, none⟩ = some (.string x.text) := hc 1 _ rfl
      have c2 : wr.cell? ⟨bb, oo + k * 3 + 2, none⟩ = some (.slice AX x.n x.cap) := hAX ▸ hc 2 _ rfl
      have HG := hide hg
      have HX := hide hx
      have HAX := hide hAX
      have hxn := hg.n
      have hxc := hg.nc
      have hBA := hB.alloc hz (.cells #[.string x.kind, .string x.text, .slice AX x.n x.cap] 34)
      clear hc hg hx hAX
      go_wp2_with (fail)
      obtain ⟨wo, rfl⟩ : ∃ wo : World, wo = wr := ⟨_, rfl⟩
      go_loopw [28] (fun i wr => ∃ j : Nat, j ≤ x.n ∧ i = .int .i64 j ∧ (∀ y ∈ x.frs.take j, bangX y = false) ∧ Below w.heap.size w wr) (fun i _ => x.n - (intOf i).toNat)
      case atStart => exact ⟨0, Nat.zero_le _, rfl, by simp, hBA⟩
      case round =>
        obtain ⟨j, hj, rfl, hnj, hBj⟩ := hrel
        have HNJ := hide hnj
        have hzj := hBj.size
        clear hnj
        by_cases hlt2 : j < x.n
        · obtain ⟨fb, fo, y, hA, hfb, hy, hcf⟩ := ((HGD.out x (List.mem_of_getElem? HX.out)).sl.below hBj).at_ hlt2
          have hA' := HAX.out.symm.trans hA
          subst hA'
          clear hA
          have c0 : wr.cell? ⟨fb, fo + j * 6, none⟩ = some (.string y.mod) := by simpa using hcf 0 _ rfl
          have c1 : wr.cell? ⟨fb, fo + j * 6 + 1, none⟩ = some (.string y.fn) := hcf 1 _ rfl
          have c2 : wr.cell? ⟨fb, fo + j * 6 + 2, none⟩ = some (.string y.file) := hcf 2 _ rfl
          have c3 : wr.cell? ⟨fb, fo + j * 6 + 3, none⟩ = some (.int .i64 y.line) := hcf 3 _ rfl
          have c4 : wr.cell? ⟨fb, fo + j * 6 + 4, none⟩ = some (.int .i64 y.addr) := hcf 4 _ rfl
          have c5 : wr.cell? ⟨fb, fo + j * 6 + 5, none⟩ = some (.bool y.own) := hcf 5 _ rfl
          have HY := hide hy
          have hBC := hBj.alloc hzj (.cells #[.string y.mod, .string y.fn, .string y.file, .int .i64 y.line, .int .i64 y.addr, .bool y.own] 38)
          have HF := hide (fun W => Contains_bang y.fn W)
          have HM := hide (fun W => Contains_bang y.mod W)
          have hbx : bangX y = (bangS y.fn || bangS y.mod) := rfl
          have HBX := hide hbx
          clear hcf hy hbx
          cases h1 : bangS y.fn
          · cases h2 : bangS y.mod
            · have HNB := hide (show bangX y = false by rw [HBX.out, h1, h2]; rfl)
              rw [h1] at HF
              rw [h2] at HM
              clear h1 h2
              go_wp2_with (first | (go_at_call_of 11 (Value.string y.fn); refine (HF.out _).mono ?_; rintro e w' ⟨rfl, rfl⟩) | (go_at_call_of 11 (Value.string y.mod); refine (HM.out _).mono ?_; rintro e w' ⟨rfl, rfl⟩))
              go_roundw
              case rel => exact ⟨j + 1, by omega, by go_num, take_all_snoc HNJ.out HY.out HNB.out, hBC⟩
              case measure => simp [intOf]; omega
            · have HNB := hide (show banged l = true from banged_hit HX.out HY.out (by rw [HBX.out, h1, h2]; rfl))
              rw [h1] at HF
              rw [h2] at HM
              clear h1 h2
              have HE := hide (show writeR l form = ([], 9) by rw [writeR, if_pos HNB.out])
              go_wp2_with (first | (go_at_call_of 11 (Value.string y.fn); refine (HF.out _).mono ?_; rintro e w' ⟨rfl, rfl⟩) | (go_at_call_of 11 (Value.string y.mod); refine (HM.out _).mono ?_; rintro e w' ⟨rfl, rfl⟩))
              go_ret2
              exact ⟨by rw [← HRB.out, ← HRI.out, HE.out]; rfl, hBC⟩
          · have HNB := hide (show banged l = true from banged_hit HX.out HY.out (by rw [HBX.out, h1]; rfl))
            rw [h1] at HF
            clear h1
            have HE := hide (show writeR l form = ([], 9) by rw [writeR, if_pos HNB.out])
            go_wp2_with (go_at_call 11; refine (HF.out _).mono ?_; rintro e w' ⟨rfl, rfl⟩)
            go_ret2
            exact ⟨by rw [← HRB.out, ← HRI.out, HE.out]; rfl, hBC⟩
        · obtain rfl : j = x.n := by omega
          have HNB := hide (show bangF x = false from bangF_none (by rw [HG.out.sl.len]; exact HNJ.out))
          go_wp2_with (fail)
          go_roundw
          case rel => exact ⟨k + 1, by omega, by go_num, take_all_snoc HNO.out HX.out HNB.out, hBj⟩
          case measure => simp [intOf]; omega
    · obtain rfl : k = n := by omega
      have HBG := hide (show banged l = false from banged_none (fun x hx => HNO.out x (by rw [take_len l (by rw [HL.out]; exact Nat.le_refl _)]; exact hx)))
      obtain ⟨RL, hRL⟩ : ∃ RL, writtenL l form = RL := ⟨_, rfl⟩
      have HRL := hide hRL
      have hW : writeR l form = if 1000000 < RL.length then ([], 4) else (RL, 0) := by rw [writeR, if_neg (by rw [HBG.out]; decide), hRL]
      have HWR := hide hW
      have hnew : ∀ T, (wr.alloc (.cells #[.pointer none, .slice none 0 0] T)).heap[wr.heap.size]? = some (.cells #[.pointer none, .slice none 0 0] T (0, 0)) := fun T => heap_alloc_new wr _
      have HBL := hide (show Bld w.heap.size wr.heap.size [] (wr.alloc (.cells #[.pointer none, .slice none 0 0] 43)) from .inl ⟨hz, .slice none 0 0, hnew _, World.ownsRow_nil _ _ _ _, by simp [Value.ownBlock]⟩)
      have HBA := hide (hB.alloc hz (.cells #[.pointer none, .slice none 0 0] 43))
      have HLE := hide (show ∀ W, Bld w.heap.size wr.heap.size (Lib.byteCells RL) W → Calls Tryz.prog 15 #[.pointer (some ⟨wr.heap.size, 0, none⟩)] W fun e w' => e = .returned (.int .i64 RL.length) ∧ w' = W from fun W h => by
        have h2 := Tryz.Builder_Len w.heap.size wr.heap.size _ W h
        rw [bytes_len] at h2
        exact h2)
      obtain ⟨NL, hNL⟩ : ∃ NL, RL.length = NL := ⟨_, rfl⟩
      have HNL := hide hNL
      rw [hNL] at HLE HWR
      have HST := hide (fun W (h : Bld w.heap.size wr.heap.size (Lib.byteCells RL) W) => Tryz.Builder_String_any w.heap.size wr.heap.size RL W h)
      have HTS := hide (HT.out.below HBA.out)
      have HSS := hide (HSL.out.below HBA.out)
      have HGG := hide (fun x hx => (HGD.out x hx).below HBA.out)
      have HWI := hide (fun W h h2 h3 h4 h5 => writeInner_any w.heap.size wr.heap.size A k c l W h h2 hn hnc h3 h4 h5)
      have HWO := hide (fun W h h2 h3 h4 h5 => writeOuter_any w.heap.size wr.heap.size A k c l W h h2 hn hnc h3 h4 h5)
      have HWP := hide (fun W h h2 h3 h4 h5 => writePairs_any w.heap.size wr.heap.size A k c l W h h2 hn hnc h3 h4 h5)
      clear hnew hRL hNL hW
      rcases HFM.out with rfl | rfl | rfl
      · go_wp2_with (fail)
        refine (HWI.out _ HBL.out HBA.out.size HSS.out HGG.out HTS.out).mono ?_
        rintro r w1 ⟨rfl, hb1, hw1⟩
        rw [show (List.range l.length).flatMap (innerAt l) = RL from HRL.out] at hb1
        have HB1 := hide hb1; have hB1 : Below w.heap.size w w1 := HBA.out.trans hw1; clear hb1 hw1; by_cases hbig : 1000000 < NL
        · have HE := hide (HWR.out.trans (if_pos hbig)); have hbi : (1000000 : Int) < (NL : Int) := by omega
          go_wp2_with (go_at_call 15; refine (HLE.out _ HB1.out).mono ?_; rintro r w2 ⟨rfl, rfl⟩)
          go_ret2
          exact ⟨by rw [← HRB.out, ← HRI.out, HE.out]; rfl, hB1⟩
        · have HE := hide (HWR.out.trans (if_neg hbig)); have hbi : decide ((1000000 : Int) < (NL : Int)) = false := by simp; omega
          have hbj : decide (1000000 < NL) = false := by simp; omega
          go_wp2_with (first | (go_at_call 15; refine (HLE.out _ HB1.out).mono ?_; rintro r w2 ⟨rfl, rfl⟩) | (go_at_call 16; refine (HST.out _ HB1.out hB1.size).mono ?_; rintro r w3 ⟨rfl, hw3⟩; have hB3 : Below w.heap.size w w3 := hB1.trans hw3))
          go_ret2
          exact ⟨by rw [← HRB.out, ← HRI.out, HE.out]; rfl, hB3⟩
      · go_wp2_with (fail)
        refine (HWO.out _ HBL.out HBA.out.size HSS.out HGG.out HTS.out).mono ?_
        rintro r w1 ⟨rfl, hb1, hw1⟩
        rw [show (List.range l.length).reverse.flatMap (outerAt l) = RL from HRL.out] at hb1
        have HB1 := hide hb1; have hB1 : Below w.heap.size w w1 := HBA.out.trans hw1; clear hb1 hw1; by_cases hbig : 1000000 < NL
        · have HE := hide (HWR.out.trans (if_pos hbig)); have hbi : (1000000 : Int) < (NL : Int) := by omega
          go_wp2_with (go_at_call 15; refine (HLE.out _ HB1.out).mono ?_; rintro r w2 ⟨rfl, rfl⟩)
          go_ret2
          exact ⟨by rw [← HRB.out, ← HRI.out, HE.out]; rfl, hB1⟩
        · have HE := hide (HWR.out.trans (if_neg hbig)); have hbi : decide ((1000000 : Int) < (NL : Int)) = false := by simp; omega
          have hbj : decide (1000000 < NL) = false := by simp; omega
          go_wp2_with (first | (go_at_call 15; refine (HLE.out _ HB1.out).mono ?_; rintro r w2 ⟨rfl, rfl⟩) | (go_at_call 16; refine (HST.out _ HB1.out hB1.size).mono ?_; rintro r w3 ⟨rfl, hw3⟩; have hB3 : Below w.heap.size w w3 := hB1.trans hw3))
          go_ret2
          exact ⟨by rw [← HRB.out, ← HRI.out, HE.out]; rfl, hB3⟩
      · go_wp2_with (fail)
        refine (HWP.out _ HBL.out HBA.out.size HSS.out HGG.out HTS.out).mono ?_
        rintro r w1 ⟨rfl, hb1, hw1⟩
        rw [show (List.range l.length).flatMap (pairAt l) = RL from HRL.out] at hb1
        have HB1 := hide hb1; have hB1 : Below w.heap.size w w1 := HBA.out.trans hw1; clear hb1 hw1; by_cases hbig : 1000000 < NL
        · have HE := hide (HWR.out.trans (if_pos hbig)); have hbi : (1000000 : Int) < (NL : Int) := by omega
          go_wp2_with (go_at_call 15; refine (HLE.out _ HB1.out).mono ?_; rintro r w2 ⟨rfl, rfl⟩)
          go_ret2
          exact ⟨by rw [← HRB.out, ← HRI.out, HE.out]; rfl, hB1⟩
        · have HE := hide (HWR.out.trans (if_neg hbig)); have hbi : decide ((1000000 : Int) < (NL : Int)) = false := by simp; omega
          have hbj : decide (1000000 < NL) = false := by simp; omega
          go_wp2_with (first | (go_at_call 15; refine (HLE.out _ HB1.out).mono ?_; rintro r w2 ⟨rfl, rfl⟩) | (go_at_call 16; refine (HST.out _ HB1.out hB1.size).mono ?_; rintro r w3 ⟨rfl, hw3⟩; have hB3 : Below w.heap.size w w3 := hB1.trans hw3))
          go_ret2
          exact ⟨by rw [← HRB.out, ← HRI.out, HE.out]; rfl, hB3⟩
set_option maxHeartbeats 1000000 in
theorem Write_err (A : Option Addr) (n c : Nat) (l : List FaultT) (form : Int) (w : World) (E : Int) (hE : fltsErr l = E) (h0 : E ≠ 0) (hn : n ≤ maxLen) (hl : Sl w w.heap.size FaultT.cs 3 A n l) (hf : FaultsOk w l) :
    Calls Tryz.prog 5 #[.slice A n c, .int .i64 form] w fun e w' => e = .returned (.tuple #[.string ⟨#[]⟩, .int .i64 E]) ∧ Below w.heap.size w w' := by
  subst hE
  have C := hide (Check_any A n c l w hn hl hf)
  obtain ⟨E, hE⟩ : ∃ E, fltsErr l = E := ⟨_, rfl⟩
  rw [hE] at C h0 ⊢
  have h0' : (E == 0) = false := by simpa using h0
  clear hn hE
  go_enter Tryz.func5, Tryz.ntmps5
  go_wp2_with (go_at_call 9; refine C.out.mono ?_; rintro r w0 ⟨rfl, hB0⟩)
  go_ret2
  exact ⟨rfl, hB0⟩
set_option maxHeartbeats 1000000 in
theorem Write_kind (A : Option Addr) (n c : Nat) (l : List FaultT) (form : Int) (w : World) (hE : fltsErr l = 0) (ho : outsideB form 1 3 = true) (hn : n ≤ maxLen) (hl : Sl w w.heap.size FaultT.cs 3 A n l) (hf : FaultsOk w l) :
    Calls Tryz.prog 5 #[.slice A n c, .int .i64 form] w fun e w' => e = .returned (.tuple #[.string ⟨#[]⟩, .int .i64 10]) ∧ Below w.heap.size w w' := by
  have C := hide (Check_any A n c l w hn hl hf)
  rw [hE] at C
  have O := hide (fun W => outside_any form 1 3 W)
  rw [ho] at O
  clear hn hE ho
  go_enter Tryz.func5, Tryz.ntmps5
  go_wp2_with (first | (go_at_call 9; refine C.out.mono ?_; rintro r w0 ⟨rfl, hB0⟩) | (go_at_call 10; refine (O.out _).mono ?_; rintro e w' ⟨rfl, rfl⟩))
  go_ret2
  exact ⟨rfl, hB0⟩
end Go.Proofs.YtncpeokniffafaaGreatDoor
