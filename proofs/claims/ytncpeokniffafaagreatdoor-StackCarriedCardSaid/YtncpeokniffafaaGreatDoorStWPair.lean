/- Walk of writePairs. -/
import Derived.Test.YtncpeokniffafaaGreatDoorStLine
import Derived.Test.YtncpeokniffafaaGreatDoorQuietTail
import Derived.Test.YtncpeokniffafaaGreatDoorFam
namespace Go.Proofs.YtncpeokniffafaaGreatDoor
open Go.RowKit
set_option linter.unusedVariables false
/-- The tables lie below B. -/
structure TabsB (B : Nat) (w : World) : Prop where
  t : Tabs w
  lt : 5 < B
  gl : ∀ g, Tryz.prog.globalNamed "internal/strconv.uint64pow10" = some g → g < B
theorem TabsB.below {B : Nat} {w w' : World} (h : TabsB B w) (hB : Below B w w') : TabsB B w' := by
  refine ⟨⟨?_, (hB.cell (p := ⟨5, 15, none⟩) h.lt).trans h.t.db, Nat.lt_of_lt_of_le h.t.lt hB.size⟩, h.lt, h.gl⟩
  have hp := h.t.pow
  have hgl := h.gl
  unfold Lib.TabIs World.var? at hp ⊢
  cases hgn : Tryz.prog.globalNamed "internal/strconv.uint64pow10" with
  | none => rw [hgn] at hp; cases hp
  | some g =>
    rw [hgn] at hp
    simp only [Option.bind_some] at hp ⊢
    rw [hB.block g (hgl g hgn)]
    exact hp
/-- A fault without an error, in w and below B. -/
structure FGood (B : Nat) (w : World) (x : FaultT) : Prop where
  k : x.kind.size ≤ 200
  t : x.text.size ≤ 2000
  n : x.n ≤ 200
  nc : x.n ≤ x.cap
  sl : Sl w B Frame.cs 6 x.A x.n x.frs
  fr : ∀ y ∈ x.frs, y.good
theorem FGood.below {B : Nat} {w w' : World} {x : FaultT} (h : FGood B w x) (hB : Below B w w') : FGood B w' x := ⟨h.k, h.t, h.n, h.nc, h.sl.below hB, h.fr⟩
/-- A frame's cells in a block. -/
def LBox (w : World) (g : Nat) (y : Frame) : Prop := w.heap[g]? = some (.cells #[.string y.mod, .string y.fn, .string y.file, .int .i64 y.line, .int .i64 y.addr, .bool y.own] 38 (0, 0))
theorem LBox.below {w w' : World} {g : Nat} {y : Frame} (h : LBox w g y) (hB : Below w.heap.size w w') : LBox w' g y := block_below h hB
theorem LBox.cells {w : World} {g : Nat} {y : Frame} (h : LBox w g y) : w.cell? ⟨g, 0, none⟩ = some (.string y.mod) ∧ w.cell? ⟨g, 1, none⟩ = some (.string y.fn) ∧ w.cell? ⟨g, 2, none⟩ = some (.string y.file) ∧ w.cell? ⟨g, 3, none⟩ = some (.int .i64 y.line) ∧ w.cell? ⟨g, 4, none⟩ = some (.int .i64 y.addr) ∧ w.cell? ⟨g, 5, none⟩ = some (.bool y.own) :=
  ⟨(block_cell h 0).trans rfl, (block_cell h 1).trans rfl, (block_cell h 2).trans rfl, (block_cell h 3).trans rfl, (block_cell h 4).trans rfl, (block_cell h 5).trans rfl⟩
/-- What holds all along: the builder's text, what lies below B, the frame's box. -/
structure LineAt (B b : Nat) (L : List UInt8) (w0 : World) (g : Nat) (y : Frame) (w : World) : Prop where
  bl : Bld B b (Lib.byteCells L) w
  be : Below B w0 w
  bx : LBox w g y
  tb : TabsB B w
theorem LineAt.below {B b g : Nat} {L : List UInt8} {w0 w w' : World} {y : Frame} (h : LineAt B b L w0 g y w) (hB : B ≤ w.heap.size) (hw : Below w.heap.size w w') : LineAt B b L w0 g y w' :=
  ⟨bld_below h.bl hw, h.be.trans (hw.mono hB), h.bx.below hw, h.tb.below (hw.mono hB)⟩
theorem LineAt.drew {B b g : Nat} {L : List UInt8} {w0 w : World} {y : Frame} (h : LineAt B b L w0 g y w) : LineAt B b L w0 g y w.drew :=
  ⟨bld_below h.bl ((Below.refl _ _).drew), h.be.drew, h.bx, h.tb.below ((Below.refl _ _).drew)⟩
/-- The worlds in which all that holds: a family that calls do not leave. -/
theorem lfam {B b g : Nat} {L : List UInt8} {w0 w : World} {y : Frame} (h : LineAt B b L w0 g y w) (hB : B ≤ w0.heap.size) : ∃ (I : Type) (F : I → World),
    (∃ i, w.drew = F i) ∧ (∀ i, LineAt B b L w0 g y (F i)) ∧ (∀ i, B ≤ (F i).heap.size) ∧ ∀ i w', Below (F i).heap.size (F i) w' → ∃ j, w' = F j :=
  ⟨{ w' : World // LineAt B b L w0 g y w' }, Subtype.val, ⟨⟨w.drew, h.drew⟩, rfl⟩, fun i => i.2, fun i => Nat.le_trans hB i.2.be.size,
    fun i w' hw => ⟨⟨w', i.2.below (Nat.le_trans hB i.2.be.size) hw⟩, rfl⟩⟩
theorem bld_lt0 {B b : Nat} {l : List Value} {w : World} (h : Bld B b l w) : b < w.heap.size := by
  rcases h with h | h
  · exact h.lt
  · exact h.lt
theorem flat_range_succ {α : Type} (f : Nat → List α) (k : Nat) : (List.range (k + 1)).flatMap f = (List.range k).flatMap f ++ f k := by
  rw [List.range_succ, List.flatMap_append]; simp
theorem flat_take_succ {α β : Type} {l : List α} {k : Nat} {a : α} (f : α → List β) (h : l[k]? = some a) : (l.take (k + 1)).flatMap f = (l.take k).flatMap f ++ f a := by
  rw [take_succ_get h, List.flatMap_append]; simp
theorem trim_rest (x : Frame) : Lib.trimPrefix (placeL x) [32] = restL x := by
  rcases place_rest x with ⟨h1, h2⟩ | ⟨h1, h2⟩
  · rw [h1, h2]; rfl
  · rw [h2]
    simp [Lib.trimPrefix, Lib.hasPrefix]
theorem trim_any (x : Frame) (W : World) : Calls Tryz.prog 29 #[.string ⟨(placeL x).toArray⟩, .string ⟨#[32]⟩] W fun e w' => e = .returned (.string ⟨(restL x).toArray⟩) ∧ w' = W := by
  refine (Tryz.strings_TrimPrefix _ _ W).mono ?_
  rintro e w' ⟨rfl, rfl⟩
  refine ⟨?_, rfl⟩
  rw [← trim_rest x]
set_option maxRecDepth 100000 in
set_option maxHeartbeats 8000000 in
theorem writePairs_any (B b : Nat) (A : Option Addr) (n c : Nat) (l : List FaultT) (w : World) (hb : Bld B b [] w) (hBw : B ≤ w.heap.size) (hn : n ≤ 10) (hnc : n ≤ c) (hl : Sl w B FaultT.cs 3 A n l) (hf : ∀ x ∈ l, FGood B w x) (ht : TabsB B w) :
    Calls Tryz.prog 14 #[.pointer (some ⟨b, 0, none⟩), .slice A n c] w fun e w' => e = .returned (.tuple #[]) ∧ Bld B b (Lib.byteCells ((List.range l.length).flatMap (pairAt l))) w' ∧ Below B w w' := by
  have HL := hide hl.len
  have HSL := hide hl
  have HF := hide hf
  have HT := hide ht
  have HB := hide hb
  clear hl hf ht hb
  go_enter Tryz.func14, Tryz.ntmps14
  go_wp2_with (fail)
  go_loopw [10] (fun i wr => ∃ k : Nat, k ≤ n ∧ i = .int .i64 k ∧ Bld B b (Lib.byteCells ((List.range k).flatMap (pairAt l))) wr ∧ Below B w wr ∧ ((List.range k).flatMap (pairAt l)).length ≤ k * 1000000) (fun i _ => n - (intOf i).toNat)
  case atStart => exact ⟨0, Nat.zero_le _, rfl, HB.out, Below.refl _ _, by simp⟩
  case round =>
    obtain ⟨k, hk, rfl, hbl, hB, hlen⟩ := hrel
    have HBL := hide hbl
    have hz := hB.size
    clear hbl
    by_cases hlt : k < n
    · obtain ⟨bb, oo, x, rfl, hbb, hx, hc⟩ := (HSL.out.below hB).at_ hlt
      have hg := (HF.out x (List.mem_of_getElem? hx)).below hB
      have hc0 : wr.cell? ⟨bb, oo + k * 3, none⟩ = some (.string x.kind) := by simpa using hc 0 _ rfl
      have hc1 : wr.cell? ⟨bb, oo + k * 3 + 1, none⟩ = some (.string x.text) := hc 1 _ rfl
      obtain ⟨AX, hAX⟩ : ∃ AX, x.A = AX := ⟨_, rfl⟩
      have hc2 : wr.cell? ⟨bb, oo + k * 3 + 2, none⟩ = some (.slice AX x.n x.cap) := hAX ▸ hc 2 _ rfl
      have HG := hide hg
      have HX := hide hx
      obtain ⟨hv, hhv⟩ : ∃ hv : ByteArray, ⟨(headL x).toArray⟩ = hv := ⟨_, rfl⟩
      have hhl : hv.data.toList = headL x := by rw [← hhv]
      have hhs : hv.size ≤ 3000 := by
        rw [size_of hhl]
        have h1 := hg.k
        have h2 := hg.t
        have e1 := size_of (x := x.kind) rfl
        have e2 := size_of (x := x.text) rfl
        unfold headL
        split <;> simp only [List.length_append, List.length_cons, List.length_nil] <;> omega
      have HHD := hide (fun W => head_any x W hg.k hg.t)
      rw [hhv, hAX] at HHD
      have HAX := hide hAX
      have HHL := hide hhl
      obtain ⟨L0, hL0⟩ : ∃ L0, (List.range k).flatMap (pairAt l) = L0 := ⟨_, rfl⟩
      rw [hL0] at HBL hlen
      have HL0 := hide hL0
      have HX0 := hide (heap_alloc_new wr (.cells #[.string x.kind, .string x.text, .slice AX x.n x.cap] 34))
      have HBA := hide (fun o : Obj => bld_below HBL.out ((Below.refl _ _).alloc (Nat.le_refl _) o))
      have HWS := hide (fun W (h : Bld B b (Lib.byteCells L0) W) (hs : B ≤ W.heap.size) => WriteString_any B b (Lib.byteCells L0) (⟨#[102, 97, 117, 108, 116, 32]⟩ ++ hv) W h (by rw [bytes_len, ByteArray.size_append]; have : (⟨#[102, 97, 117, 108, 116, 32]⟩ : ByteArray).size = 6 := rfl; omega) hs)
      clear hhv hhl hL0 hAX
      have hBB : B ≤ wr.heap.size := by omega
      clear hc hg hx
      go_wp2_with (fail)
      refine (HHD.out _).mono ?_
      rintro e w1 ⟨rfl, hw1⟩
      have hB1 : Below B w w1 := hB.trans (((Below.refl _ _).alloc (Nat.le_refl _) _).trans (hw1.mono (by simp)) |>.mono hBB)
      have HB1 := hide (bld_below (HBA.out _) hw1)
      have hX1 := block_below HX0.out hw1
      have p2 : w1.cell? ⟨wr.heap.size, 2, none⟩ = some (.slice AX x.n x.cap) := (block_cell hX1 2).trans rfl
      have hgw : wr.heap.size < w1.heap.size := lt_of_block hX1
      have HX1 := hide hX1
      clear hw1 hX1
      go_wp2_with (fail)
      refine (HWS.out _ HB1.out (by have := hB1.size; omega)).mono ?_
      rintro e w2 ⟨rfl, hb2, hw2, hk2⟩
      have hB2 := hB1.trans hw2
      have hX2 := hk2 _ _ _ _ HX1.out (by decide) (by have := bld_lt0 HBL.out; omega)
      have p2' : w2.cell? ⟨wr.heap.size, 2, none⟩ = some (.slice AX x.n x.cap) := (block_cell hX2 2).trans rfl
      rw [strCells_eq, bytes_app, app_toList, HHL.out] at hb2
      have HB2 := hide hb2
      clear hb2 hw2 hk2 hX2
      go_wp2_with (fail)
      obtain ⟨L1, hL1⟩ : ∃ L1, L0 ++ ((⟨#[102, 97, 117, 108, 116, 32]⟩ : ByteArray).data.toList ++ headL x) = L1 := ⟨_, rfl⟩
      rw [hL1] at HB2
      have HL1 := hide hL1
      clear hL1 p2 p2'
      obtain ⟨wo, rfl⟩ : ∃ wo : World, wo = wr := ⟨_, rfl⟩
      go_loopw [22] (fun a wr => ∃ j : Nat, j ≤ x.n ∧ a = .int .i64 j ∧ Bld B b (Lib.byteCells (L1 ++ (x.frs.take j).flatMap frPair)) wr ∧ Below B w wr ∧ (L1 ++ (x.frs.take j).flatMap frPair).length ≤ k * 1000000 + 4000 + j * 3000) (fun a _ => x.n - (intOf a).toNat)
      case atStart => exact ⟨0, Nat.zero_le _, rfl, by simpa using HB2.out, hB2, by rw [← HL1.out, ← HHL.out]; have := size_of (x := hv) rfl; simp only [List.take_zero, List.flatMap_nil, List.length_append, List.length_nil]; have : (⟨#[102, 97, 117, 108, 116, 32]⟩ : ByteArray).data.toList.length = 6 := rfl; have : [102, 97, 117, 108, 116, (32 : UInt8)].length = 6 := rfl; omega⟩
      case round =>
        obtain ⟨j, hj, rfl, hbj, hBj, hlj⟩ := hrel
        have hzj : B ≤ wr.heap.size := Nat.le_trans hBw hBj.size
        have hbl0 := bld_lt0 hbj
        obtain ⟨L2, hL2⟩ : ∃ L2, L1 ++ (x.frs.take j).flatMap frPair = L2 := ⟨_, rfl⟩
        rw [hL2] at hbj hlj
        by_cases hlt2 : j < x.n
        · obtain ⟨fb, fo, y, hA, hfb, hy, hcf⟩ := ((HF.out x (List.mem_of_getElem? HX.out)).sl.below hBj).at_ hlt2
          have hA' := HAX.out.symm.trans hA
          subst hA'
          clear hA
          have hyg := HG.out.fr y (List.mem_of_getElem? hy)
          have c0 : wr.cell? ⟨fb, fo + j * 6, none⟩ = some (.string y.mod) := by simpa using hcf 0 _ rfl
          have c1 : wr.cell? ⟨fb, fo + j * 6 + 1, none⟩ = some (.string y.fn) := hcf 1 _ rfl
          have c2 : wr.cell? ⟨fb, fo + j * 6 + 2, none⟩ = some (.string y.file) := hcf 2 _ rfl
          have c3 : wr.cell? ⟨fb, fo + j * 6 + 3, none⟩ = some (.int .i64 y.line) := hcf 3 _ rfl
          have c4 : wr.cell? ⟨fb, fo + j * 6 + 4, none⟩ = some (.int .i64 y.addr) := hcf 4 _ rfl
          have c5 : wr.cell? ⟨fb, fo + j * 6 + 5, none⟩ = some (.bool y.own) := hcf 5 _ rfl
          obtain ⟨pb, hpb⟩ : ∃ pb : ByteArray, ⟨(placeL y).toArray⟩ = pb := ⟨_, rfl⟩
          obtain ⟨rb, hrb⟩ : ∃ rb : ByteArray, ⟨(restL y).toArray⟩ = rb := ⟨_, rfl⟩
          have HCA := hide (fun W => call_any y W hyg.m hyg.f)
          have HPL := hide (fun W (h : Tabs W) => place_any y W hyg h)
          rw [hpb] at HPL
          have HTR := hide (fun W => trim_any y W)
          rw [hpb, hrb] at HTR
          have hcl := call_len y hyg
          have hxn := HG.out.n
          have hrs : rb.size ≤ 1000 := by rw [size_of (x := rb) (l := restL y) (by rw [← hrb])]; exact rest_len y hyg
          obtain ⟨cb, hcb⟩ : ∃ cb, callB y = cb := ⟨_, rfl⟩
          rw [hcb] at HCA hcl
          have HWL := hide (fun W (h : Bld B b (Lib.byteCells L2) W) (hs : B ≤ W.heap.size) => WriteString_any B b (Lib.byteCells L2) (cb ++ ⟨#[10, 9]⟩ ++ rb ++ ⟨#[10]⟩) W h (by rw [bytes_len]; have h10 : (⟨#[10]⟩ : ByteArray).size = 1 := rfl; have h109 : (⟨#[10, 9]⟩ : ByteArray).size = 2 := rfl; rw [ByteArray.size_append, ByteArray.size_append, ByteArray.size_append]; have := HG.out.n; omega) hs)
          have HST := hide (show L1 ++ (x.frs.take (j + 1)).flatMap frPair = L2 ++ (cb ++ ⟨#[10, 9]⟩ ++ rb ++ ⟨#[10]⟩).data.toList by rw [flat_take_succ frPair hy, ← List.append_assoc, hL2]; unfold frPair; rw [hcb, ← hrb]; simp [ByteArray.data_append])
          have HLS := hide (show (L2 ++ (cb ++ ⟨#[10, 9]⟩ ++ rb ++ ⟨#[10]⟩).data.toList).length ≤ k * 1000000 + 4000 + (j + 1) * 3000 by have h10 : (⟨#[10]⟩ : ByteArray).size = 1 := rfl; have h109 : (⟨#[10, 9]⟩ : ByteArray).size = 2 := rfl; rw [List.length_append, ← size_of rfl, ByteArray.size_append, ByteArray.size_append, ByteArray.size_append]; omega)
          have hLA0 : LineAt B b L2 w wr.heap.size y (wr.alloc (.cells #[.string y.mod, .string y.fn, .string y.file, .int .i64 y.line, .int .i64 y.addr, .bool y.own] 38)) := ⟨bld_below hbj ((Below.refl _ _).alloc (Nat.le_refl _) _), hBj.alloc hzj _, heap_alloc_new wr _, (HT.out.below hBj).below ((Below.refl _ _).alloc hzj _)⟩
          have HLA0 := hide hLA0
          clear hLA0 hcf hy hpb hrb hcb hbj hL2 HHD HWS HL0 HX0 HBA HL1 HHL
          go_wp2_with (fail)
          have hLA := HLA0.out
          generalize (wr.alloc (.cells #[.string y.mod, .string y.fn, .string y.file, .int .i64 y.line, .int .i64 y.addr, .bool y.own] 38)) = wx at hLA ⊢
          clear c0 c1 c2 c3 c4 c5 HLA0
          obtain ⟨I1, F1, hi1, hLF, hZF, hJ1⟩ := lfam hLA hBw; have HLF := hide hLF; have HZF := hide hZF; have hJ1 := hide hJ1; have k0 := fun i => (HLF.out i).bx.cells.1; have k1 := fun i => (HLF.out i).bx.cells.2.1; have k2 := fun i => (HLF.out i).bx.cells.2.2.1; have k3 := fun i => (HLF.out i).bx.cells.2.2.2.1; have k4 := fun i => (HLF.out i).bx.cells.2.2.2.2.1; have k5 := fun i => (HLF.out i).bx.cells.2.2.2.2.2; haveI : Nonempty I1 := ⟨hi1.choose⟩; clear hLA hLF hZF
          refine wp_region_fam_tail F1 9 hi1 (by kernel_rfl) (by kernel_rfl) ?_; simp only [List.take_succ_cons, List.take_zero, List.drop_succ_cons, List.drop_zero]; (repeat (go_big_quiet_step (first | (go_at_call 26; refine (HCA.out _).mono ?_; rintro e w' ⟨rfl, hw'⟩; exact ⟨rfl, hJ1.out _ _ hw'⟩) | (go_at_call 27; refine (HPL.out _ (HLF.out _).tb.t).mono ?_; rintro e w' ⟨rfl, hw'⟩; exact ⟨rfl, hJ1.out _ _ hw'⟩) | (go_at_call 29; refine (HTR.out _).mono ?_; rintro e w' ⟨rfl, rfl⟩; exact ⟨rfl, _, rfl⟩)))); refine wpQuiet_nil ?_; rintro _ ⟨i1, rfl⟩
          go_wp2_with (fail)
          refine (HWL.out _ (HLF.out i1).bl (HZF.out i1)).mono ?_
          rintro e w' ⟨rfl, hb9, hw9, _⟩
          have hB9 : Below B w _ := (HLF.out i1).be.trans hw9
          have HB9 := hide (show Bld B b (Lib.byteCells (L1 ++ (x.frs.take (j + 1)).flatMap frPair)) _ from by rw [HST.out, ← bytes_app, ← strCells_eq]; exact hb9)
          clear hb9 hw9
          go_wp2_with (fail)
          go_roundw
          case rel => exact ⟨j + 1, by omega, by go_num, HB9.out, hB9, by rw [HST.out]; exact HLS.out⟩
          case measure => simp [intOf]; omega
        · obtain rfl : j = x.n := by omega
          have hfl : x.frs.length = x.n := HG.out.sl.len
          have hpa : (List.range (k + 1)).flatMap (pairAt l) = L2 := by
            rw [flat_range_succ, HL0.out, ← hL2, ← HL1.out, take_len _ (by omega)]
            have : pairAt l k = faultL ++ headL x ++ x.frs.flatMap frPair := by unfold pairAt; rw [HX.out]
            rw [this]; simp [faultL]
          have HPA := hide hpa
          have HBJ := hide hbj
          have hx2 := HG.out.n
          clear hpa hbj hL2
          go_wp2_with (fail)
          go_roundw
          case rel => exact ⟨k + 1, by omega, by go_num, by rw [HPA.out]; exact HBJ.out, hBj, by rw [HPA.out]; omega⟩
          case measure => simp [intOf]; omega
    · obtain rfl : k = n := by omega
      have HLN := hide HL.out
      go_wp2_with (fail)
      go_end0
      exact ⟨rfl, by rw [HLN.out]; exact HBL.out, hB⟩
end Go.Proofs.YtncpeokniffafaaGreatDoor
