/- Walk of writeInner. -/
import Derived.Test.YtnlliddfljogjaaDoorStWOut
import Derived.Test.YtnlliddfljogjaaDoorStNum
namespace Go.Proofs.YtnlliddfljogjaaDoor
open Go.RowKit
set_option linter.unusedVariables false
theorem sharedFrom_le {a b : List Frame} : ∀ (f k : Nat), k ≤ b.length → sharedFrom a b f k ≤ b.length
  | 0, k, h => h
  | f + 1, k, h => by
    unfold sharedFrom
    split
    · rename_i h1; exact sharedFrom_le f (k + 1) h1.2.1
    · exact h
theorem sharedN_le (a b : List Frame) : sharedN a b ≤ b.length := sharedFrom_le _ _ (Nat.zero_le _)
theorem map_add_zero (A : Option Addr) : A.map (fun a => a.add 0) = A := by
  cases A with
  | none => rfl
  | some a => simp [Addr.add]
/-- What stays in the worlds that a call leaves: the builder's text, what lies below B, a block. -/
structure BoxAt (B b : Nat) (L : List UInt8) (w0 : World) (g : Nat) (o : Obj) (w : World) : Prop where
  bl : Bld B b (Lib.byteCells L) w
  be : Below B w0 w
  bx : w.heap[g]? = some o
theorem BoxAt.below {B b g : Nat} {L : List UInt8} {w0 w w' : World} {o : Obj} (h : BoxAt B b L w0 g o w) (hB : B ≤ w0.heap.size) (hw : Below w.heap.size w w') : BoxAt B b L w0 g o w' :=
  ⟨bld_below h.bl hw, h.be.trans (hw.mono (Nat.le_trans hB h.be.size)), block_below h.bx hw⟩
theorem bfam {B b g : Nat} {L : List UInt8} {w0 w : World} {o : Obj} (h : BoxAt B b L w0 g o w) (hB : B ≤ w0.heap.size) : ∃ (I : Type) (F : I → World),
    (∃ i, w.drew = F i) ∧ (∀ i, BoxAt B b L w0 g o (F i)) ∧ ∀ i w', Below (F i).heap.size (F i) w' → ∃ j, w' = F j :=
  ⟨{ w' : World // BoxAt B b L w0 g o w' }, Subtype.val, ⟨⟨w.drew, h.below hB ((Below.refl _ _).drew)⟩, rfl⟩, fun i => i.2, fun i w' hw => ⟨⟨w', i.2.below hB hw⟩, rfl⟩⟩
theorem more_len (g : Nat) (hg : g ≤ 200) : (toldL (g : Int)).length ≤ 3 := by
  unfold toldL
  exact digs_len 10 (by decide) 3 _ (by simp; omega) (by decide)
set_option maxRecDepth 100000 in
set_option maxHeartbeats 16000000 in
theorem writeInner_any (B b : Nat) (A : Option Addr) (n c : Nat) (l : List FaultT) (w : World) (hb : Bld B b [] w) (hBw : B ≤ w.heap.size) (hn : n ≤ 10) (hnc : n ≤ c) (hl : Sl w B FaultT.cs 3 A n l) (hf : ∀ x ∈ l, FGood B w x) (ht : TabsB B w) :
    Calls Tryd.prog 10 #[.pointer (some ⟨b, 0, none⟩), .slice A n c] w fun e w' => e = .returned (.tuple #[]) ∧ Bld B b (Lib.byteCells ((List.range l.length).flatMap (innerAt l))) w' ∧ Below B w w' := by
  have HL := hide hl.len
  have HSL := hide hl
  have HF := hide hf
  have HT := hide ht
  have HB := hide hb
  clear hl hf ht hb
  go_enter Tryd.func10, Tryd.ntmps10
  go_wp2_with (fail)
  go_loopw [11] (fun i wr => ∃ k : Nat, k ≤ n ∧ i = .int .i64 k ∧ Bld B b (Lib.byteCells ((List.range k).flatMap (innerAt l))) wr ∧ Below B w wr ∧ ((List.range k).flatMap (innerAt l)).length ≤ k * 1000000) (fun i _ => n - (intOf i).toNat)
  case atStart => exact ⟨0, Nat.zero_le _, rfl, HB.out, Below.refl _ _, by simp⟩
  case round =>
    obtain ⟨k, hk, rfl, hbl, hB, hlen⟩ := hrel
    have HBL := hide hbl
    have hz := hB.size
    clear hbl
    by_cases hlt : k < n
    · obtain ⟨bb, oo, x, rfl, hbb, hx, hc⟩ := (HSL.out.below hB).at_ hlt
      have hg := (HF.out x (List.mem_of_getElem? hx)).below hB
      have hc0 : wr.cell? ⟨bb, oo + k * 3, none⟩ = some (.string x.kind) := by simpa using hc 0 _ rfl
      have hc1 : wr.cell? ⟨bb, oo + k * 3 + 1, none⟩ = some (.string x.text) := hc 1 _ rfl
      obtain ⟨AX, hAX⟩ : ∃ AX, x.A = AX := ⟨_, rfl⟩
      have hc2 : wr.cell? ⟨bb, oo + k * 3 + 2, none⟩ = some (.slice AX x.n x.cap) := hAX ▸ hc 2 _ rfl
      have HG := hide hg
      have HX := hide hx
      obtain ⟨hv, hhv⟩ : ∃ hv : ByteArray, ⟨(headL x).toArray⟩ = hv := ⟨_, rfl⟩
      have hhl : hv.data.toList = headL x := by rw [← hhv]
      have hhs : hv.size ≤ 3000 := by
        rw [size_of hhl]
        have h1 := hg.k
        have h2 := hg.t
        have e1 := size_of (x := x.kind) rfl
        have e2 := size_of (x := x.text) rfl
        unfold headL
        split <;> simp only [List.length_append, List.length_cons, List.length_nil] <;> omega
      have HHD := hide (fun W => head_any x W hg.k hg.t)
      rw [hhv, hAX] at HHD
      have HAX := hide hAX
      have HHL := hide hhl
      obtain ⟨L0, hL0⟩ : ∃ L0, (List.range k).flatMap (innerAt l) = L0 := ⟨_, rfl⟩
      rw [hL0] at HBL hlen
      have HL0 := hide hL0
      have HX0 := hide (heap_alloc_new wr (.cells #[.string x.kind, .string x.text, .slice AX x.n x.cap] 33))
      have HBA := hide (fun o : Obj => bld_below HBL.out ((Below.refl _ _).alloc (Nat.le_refl _) o))
      have hBB : B ≤ wr.heap.size := by omega
      have hbx := bld_lt0 HBL.out
      have hxn0 := hg.nc
      have hxn := hg.n
      have HMZ := hide (map_add_zero AX)
      clear hc hg hx hhv hhl hL0 hAX
      by_cases hkz : k = 0
      · have hk1 : ¬ (0 < k) := by omega
        have hk2 : decide (0 < k) = false := by simp; omega
        have hk3 : decide ((0 : Int) < (k : Int)) = false := by simp; omega
        have hgone : goneN l k = 0 := by unfold goneN; rw [if_pos hkz]
        have HGO := hide hgone
        have HCA0 := hide (show (if k = 0 then [] else causedL) = ([] : List UInt8) from if_pos hkz)
        clear hkz hgone
        obtain ⟨L1, hL1⟩ : ∃ L1, L0 ++ ([] : List UInt8) = L1 := ⟨_, rfl⟩
        have hl1 : L1.length ≤ L0.length + 11 := by rw [← hL1]; simp
        have HL1 := hide hL1
        have HB1 : Hid (∀ o : Obj, Bld B b (Lib.byteCells L1) (wr.alloc o)) := hide (fun o => by rw [← HL1.out, List.append_nil]; exact HBA.out o)
        clear hL1
        go_wp2_with (fail)
        refine (HHD.out _).mono ?_
        rintro e w2 ⟨rfl, hw2⟩
        have hB2 : Below B w w2 := hB.trans (((Below.refl _ _).alloc (Nat.le_refl _) _).trans (hw2.mono (by simp)) |>.mono hBB)
        have HB2 := hide (bld_below (HB1.out _) hw2)
        have hX2 := block_below HX0.out hw2
        have HX2 := hide hX2
        have HWH := hide (fun W (h : Bld B b (Lib.byteCells L1) W) (hs : B ≤ W.heap.size) => WriteString_any B b (Lib.byteCells L1) hv W h (by rw [bytes_len]; omega) hs)
        clear hw2 hX2
        go_wp2_with (fail)
        refine (HWH.out _ HB2.out (by have := hB2.size; omega)).mono ?_
        rintro e w3 ⟨rfl, hb3, hw3, hk3w⟩
        have hB3 := hB2.trans hw3
        have hX3 := hk3w _ _ _ _ HX2.out (by decide) (by omega)
        rw [strCells_eq, bytes_app, HHL.out] at hb3
        obtain ⟨L3, hL3⟩ : ∃ L3, L1 ++ headL x = L3 := ⟨_, rfl⟩
        rw [hL3] at hb3
        have HB3 := hide hb3
        have hl3 : L3.length ≤ L1.length + 3000 := by rw [← hL3, List.length_append, ← HHL.out, ← size_of rfl]; omega
        have HL3 := hide hL3
        have q2 : w3.cell? ⟨wr.heap.size, 2, none⟩ = some (.slice AX x.n x.cap) := (block_cell hX3 2).trans rfl
        have hmz := HMZ.out
        obtain ⟨m, hm⟩ : ∃ m : Nat, m + 0 = x.n := ⟨x.n - 0, by omega⟩
        have hmc : (m : Int) ≤ (x.cap : Int) := by omega
        have hm0 : (0 : Int) ≤ (m : Int) := by omega
        have hsub : (x.n : Int) - (0 : Int) = (m : Int) := by omega
        clear hb3 hw3 hk3w hX3 hL3
        go_wp2_with (fail)
        clear q2 hmz
        obtain ⟨wo, rfl⟩ : ∃ wo : World, wo = wr := ⟨_, rfl⟩
        go_loopw [44] (fun a wr => ∃ j : Nat, j ≤ m ∧ a = .int .i64 j ∧ Bld B b (Lib.byteCells (L3 ++ (x.frs.take j).flatMap frInner)) wr ∧ Below B w wr ∧ (L3 ++ (x.frs.take j).flatMap frInner).length ≤ L3.length + j * 3000) (fun a _ => m - (intOf a).toNat)
        case atStart => exact ⟨0, Nat.zero_le _, rfl, by simpa using HB3.out, hB3, by simp⟩
        case round =>
          obtain ⟨j, hj, rfl, hbj, hBj, hlj⟩ := hrel
          have hzj : B ≤ wr.heap.size := Nat.le_trans hBw hBj.size
          have hbl0 := bld_lt0 hbj
          obtain ⟨L2, hL2⟩ : ∃ L2, L3 ++ (x.frs.take j).flatMap frInner = L2 := ⟨_, rfl⟩
          rw [hL2] at hbj hlj
          by_cases hlt2 : j < m
          · obtain ⟨fb, fo, y, hA, hfb, hy, hcf⟩ := ((HF.out x (List.mem_of_getElem? HX.out)).sl.below hBj).at_ (show j < x.n by omega)
            have hA' := HAX.out.symm.trans hA
            subst hA'
            clear hA
            have hyg := HG.out.fr y (List.mem_of_getElem? hy)
            have c0 : wr.cell? ⟨fb, fo + j * 6, none⟩ = some (.string y.mod) := by simpa using hcf 0 _ rfl
            have c1 : wr.cell? ⟨fb, fo + j * 6 + 1, none⟩ = some (.string y.fn) := hcf 1 _ rfl
            have c2 : wr.cell? ⟨fb, fo + j * 6 + 2, none⟩ = some (.string y.file) := hcf 2 _ rfl
            have c3 : wr.cell? ⟨fb, fo + j * 6 + 3, none⟩ = some (.int .i64 y.line) := hcf 3 _ rfl
            have c4 : wr.cell? ⟨fb, fo + j * 6 + 4, none⟩ = some (.int .i64 y.addr) := hcf 4 _ rfl
            have c5 : wr.cell? ⟨fb, fo + j * 6 + 5, none⟩ = some (.bool y.own) := hcf 5 _ rfl
            obtain ⟨pb, hpb⟩ : ∃ pb : ByteArray, ⟨(placeL y).toArray⟩ = pb := ⟨_, rfl⟩
            have HCA := hide (fun W => call_any y W hyg.m hyg.f)
            have HPL := hide (fun W (h : Tabs W) => place_any y W hyg h)
            rw [hpb] at HPL
            have hcl := call_len y hyg
            have hps : pb.size ≤ 1001 := by rw [size_of (x := pb) (l := placeL y) (by rw [← hpb])]; exact place_len y hyg
            obtain ⟨cb, hcb⟩ : ∃ cb, callB y = cb := ⟨_, rfl⟩
            rw [hcb] at HCA hcl
            have h10 : (⟨#[10]⟩ : ByteArray).size = 1 := rfl
            have h32 : (⟨#[32, 32, 32, 32, 97, 116, 32]⟩ : ByteArray).size = 7 := rfl
            have HWL := hide (fun W (h : Bld B b (Lib.byteCells L2) W) (hs : B ≤ W.heap.size) => WriteString_any B b (Lib.byteCells L2) (⟨#[32, 32, 32, 32, 97, 116, 32]⟩ ++ cb ++ pb ++ ⟨#[10]⟩) W h (by rw [bytes_len, ByteArray.size_append, ByteArray.size_append, ByteArray.size_append]; omega) hs)
            have HST := hide (show L3 ++ (x.frs.take (j + 1)).flatMap frInner = L2 ++ (⟨#[32, 32, 32, 32, 97, 116, 32]⟩ ++ cb ++ pb ++ ⟨#[10]⟩ : ByteArray).data.toList by rw [flat_take_succ frInner hy, ← List.append_assoc, hL2]; unfold frInner lineL; rw [hcb, ← hpb]; simp [ByteArray.data_append])
            have HLS := hide (show (L2 ++ (⟨#[32, 32, 32, 32, 97, 116, 32]⟩ ++ cb ++ pb ++ ⟨#[10]⟩ : ByteArray).data.toList).length ≤ L3.length + (j + 1) * 3000 by rw [List.length_append, ← size_of rfl, ByteArray.size_append, ByteArray.size_append, ByteArray.size_append]; omega)
            clear h10 h32
            have hLA0 : LineAt B b L2 w wr.heap.size y (wr.alloc (.cells #[.string y.mod, .string y.fn, .string y.file, .int .i64 y.line, .int .i64 y.addr, .bool y.own] 35)) := ⟨bld_below hbj ((Below.refl _ _).alloc (Nat.le_refl _) _), hBj.alloc hzj _, heap_alloc_new wr _, (HT.out.below hBj).below ((Below.refl _ _).alloc hzj _)⟩
            have HLA0 := hide hLA0
            clear hLA0 hcf hy hpb hcb hbj hL2
            go_wp2_with (fail)
            have hLA := HLA0.out
            generalize (wr.alloc (.cells #[.string y.mod, .string y.fn, .string y.file, .int .i64 y.line, .int .i64 y.addr, .bool y.own] 35)) = wx at hLA ⊢
            clear c0 c1 c2 c3 c4 c5 HLA0
            obtain ⟨I1, F1, hi1, hLF, hZF, hJ1⟩ := lfam hLA hBw; have HLF := hide hLF; have HZF := hide hZF; have hJ1 := hide hJ1; have k0 := fun i => (HLF.out i).bx.cells.1; have k1 := fun i => (HLF.out i).bx.cells.2.1; have k2 := fun i => (HLF.out i).bx.cells.2.2.1; have k3 := fun i => (HLF.out i).bx.cells.2.2.2.1; have k4 := fun i => (HLF.out i).bx.cells.2.2.2.2.1; have k5 := fun i => (HLF.out i).bx.cells.2.2.2.2.2; haveI : Nonempty I1 := ⟨hi1.choose⟩; clear hLA hLF hZF
            refine wp_region_fam_tail F1 8 hi1 (by kernel_rfl) (by kernel_rfl) ?_; simp only [List.take_succ_cons, List.take_zero, List.drop_succ_cons, List.drop_zero]; (repeat (go_big_quiet_step (first | (go_at_call 28; refine (HCA.out _).mono ?_; rintro e w' ⟨rfl, hw'⟩; exact ⟨rfl, hJ1.out _ _ hw'⟩) | (go_at_call 29; refine (HPL.out _ (HLF.out _).tb.t).mono ?_; rintro e w' ⟨rfl, hw'⟩; exact ⟨rfl, hJ1.out _ _ hw'⟩)))); refine wpQuiet_nil ?_; rintro _ ⟨i1, rfl⟩
            go_wp2_with (fail)
            refine (HWL.out _ (HLF.out i1).bl (HZF.out i1)).mono ?_
            rintro e w' ⟨rfl, hb9, hw9, _⟩
            have hB9 : Below B w _ := (HLF.out i1).be.trans hw9
            have HB9 := hide (show Bld B b (Lib.byteCells (L3 ++ (x.frs.take (j + 1)).flatMap frInner)) _ from by rw [HST.out, ← bytes_app, ← strCells_eq]; exact hb9)
            clear hb9 hw9
            go_wp2_with (fail)
            go_roundw
            case rel => exact ⟨j + 1, by omega, by go_num, HB9.out, hB9, by rw [HST.out]; exact HLS.out⟩
            case measure => simp [intOf]; omega
          · obtain rfl : j = m := by omega
            have hpa : (List.range (k + 1)).flatMap (innerAt l) = L2 ++ moreL 0 := by
              rw [flat_range_succ, HL0.out, ← hL2, ← HL3.out, ← HL1.out]
              have hat : innerAt l k = (if k = 0 then [] else causedL) ++ headL x ++ (x.frs.take (x.frs.length - goneN l k)).flatMap frInner ++ moreL (goneN l k) := by unfold innerAt; rw [HX.out]
              rw [hat, HCA0.out, HGO.out, show x.frs.length - 0 = j by rw [HG.out.sl.len]; omega]
              simp [List.append_assoc]
            have HPA := hide hpa
            have HBJ := hide hbj
            clear hpa hbj hL2
            have HPB := hide (show (List.range (k + 1)).flatMap (innerAt l) = L2 by rw [HPA.out]; simp [moreL])
            go_wp2_with (fail)
            go_roundw
            case rel => exact ⟨k + 1, by omega, by go_num, by rw [HPB.out]; exact HBJ.out, hBj, by rw [HPB.out]; omega⟩
            case measure => simp [intOf]; omega
      · have hk1 : 0 < k := by omega
        have hk3 : (0 : Int) < (k : Int) := by omega
        obtain ⟨k', hk'⟩ : ∃ k', k = k' + 1 := ⟨k - 1, by omega⟩
        have hkm : (k : Int) - 1 = (k' : Int) := by omega
        have hk'n : k' < n := by omega
        have hk'i : (k' : Int) < (n : Int) := by omega
        have hk'0 : (0 : Int) ≤ (k' : Int) := by omega
        obtain ⟨b3, o3, x', hA3, hb3, hx', hc'⟩ := (HSL.out.below hB).at_ hk'n
        simp only [Option.some.injEq, Addr.mk.injEq, and_true] at hA3
        obtain ⟨rfl, rfl⟩ := hA3
        have hg' := (HF.out x' (List.mem_of_getElem? hx')).below hB
        have hcp : wr.cell? ⟨bb, oo + k' * 3 + 2, none⟩ = some (.slice x'.A x'.n x'.cap) := hc' 2 _ rfl
        obtain ⟨SH, hSH⟩ : ∃ SH, sharedN x'.frs x.frs = SH := ⟨_, rfl⟩
        have hshl : SH ≤ x.n := by rw [← hSH, ← HG.out.sl.len]; exact sharedN_le _ _
        have HSHR := hide (fun (W : World) (h : Below B w W) => by
          have hs := h.size
          have h1 := ((HF.out x' (List.mem_of_getElem? hx')).sl.below h).more (Nat.le_trans hBw hs)
          have h2 := ((HF.out x (List.mem_of_getElem? HX.out)).sl.below h).more (Nat.le_trans hBw hs)
          have h3 := Shared_any x'.A x'.n x'.cap x.A x.n x.cap x'.frs x.frs W (by have := hg'.n; unfold maxLen; omega) (by have := HG.out.n; unfold maxLen; omega) h1 h2
          rw [hSH, HAX.out] at h3
          exact h3)
        have hgone : goneN l k = if SH < 2 then 0 else SH := by unfold goneN; rw [if_neg hkz, hk', Nat.add_sub_cancel, hx', ← hk', HX.out]; simp only [hSH]
        have HGN := hide hgone
        have HCA0 := hide (show (if k = 0 then [] else causedL) = causedL from if_neg hkz)
        have HCP := hide hcp
        have hxn' := hg'.nc
        have HWS := hide (fun W (h : Bld B b (Lib.byteCells L0) W) (hs : B ≤ W.heap.size) => WriteString_any B b (Lib.byteCells L0) ⟨#[67, 97, 117, 115, 101, 100, 32, 98, 121, 58, 32]⟩ W h (by rw [bytes_len]; have : (⟨#[67, 97, 117, 115, 101, 100, 32, 98, 121, 58, 32]⟩ : ByteArray).size = 11 := rfl; omega) hs)
        obtain ⟨L1, hL1⟩ : ∃ L1, L0 ++ causedL = L1 := ⟨_, rfl⟩
        have hl1 : L1.length ≤ L0.length + 11 := by rw [← hL1, List.length_append]; exact Nat.le_refl _
        have HL1 := hide hL1
        clear hc' hkz hk' hg' hx' hgone hL1 hSH hcp
        go_wp2_with (fail)
        refine (HWS.out _ (HBA.out _) (by simp; omega)).mono ?_
        rintro e w1 ⟨rfl, hb1, hw1, hk1w⟩
        have hX1 := hk1w _ _ _ _ HX0.out (by decide) (by omega)
        rw [strCells_eq, bytes_app] at hb1
        have hBX : BoxAt B b L1 w wr.heap.size (.cells #[.string x.kind, .string x.text, .slice AX x.n x.cap] 33 (0, 0)) w1 := ⟨by rw [← HL1.out]; exact hb1, hB.trans (((Below.refl _ _).alloc (Nat.le_refl _) _).mono hBB |>.trans hw1), hX1⟩
        clear hb1 hk1w hX1
        obtain ⟨I1, F1, hi1, hLF, hJ1⟩ := bfam hBX hBw
        have HLF := hide hLF
        have hJ1 := hide hJ1
        have HCE := hide (fun i => ((HLF.out i).be.cell (p := ⟨bb, oo + k' * 3 + 2, none⟩) hbb).trans ((hB.cell (p := ⟨bb, oo + k' * 3 + 2, none⟩) hbb).symm.trans HCP.out))
        have e2 := fun i => HCE.out i
        have e3 : ∀ i, (F1 i).cell? ⟨wr.heap.size, 2, none⟩ = some (.slice AX x.n x.cap) := fun i => (block_cell (HLF.out i).bx 2).trans rfl
        haveI : Nonempty I1 := ⟨hi1.choose⟩
        clear hBX hLF hw1
        go_wp2_with (fail)
        refine wp_region_fam F1 hi1 (by kernel_rfl) (by kernel_rfl) ?_
        (repeat (go_big_quiet_step ((go_at_call 26; refine (HSHR.out _ (HLF.out _).be).mono ?_; rintro e w' ⟨rfl, hw'⟩; exact ⟨rfl, hJ1.out _ _ hw'⟩))))
        refine wpQuiet_nil ?_
        rintro _ ⟨i1, rfl⟩
        have hX1 := (HLF.out i1).bx
        have hB1 := (HLF.out i1).be
        have HB1 := hide (HLF.out i1).bl
        clear e2 e3
        obtain ⟨w1', hw1'⟩ : ∃ w1', F1 i1 = w1' := ⟨_, rfl⟩
        rw [hw1'] at hX1 hB1 HB1 ⊢
        clear hw1'
        have q0 : w1'.cell? ⟨wr.heap.size, 0, none⟩ = some (.string x.kind) := (block_cell hX1 0).trans rfl
        have q1 : w1'.cell? ⟨wr.heap.size, 1, none⟩ = some (.string x.text) := (block_cell hX1 1).trans rfl
        have q2 : w1'.cell? ⟨wr.heap.size, 2, none⟩ = some (.slice AX x.n x.cap) := (block_cell hX1 2).trans rfl
        have HX1 := hide hX1
        clear hX1
        go_wp2_with (fail)
        refine (HHD.out _).mono ?_
        rintro e w2 ⟨rfl, hw2⟩
        have hB2 : Below B w w2 := hB1.trans (hw2.mono (Nat.le_trans hBw hB1.size))
        have HB2 := hide (bld_below HB1.out hw2)
        have hX2 := block_below HX1.out hw2
        clear q0 q1 q2
        by_cases hsh : SH < 2
        · have hs2 : ((SH : Nat) : Int) < 2 := by omega
          have HGO := hide (show goneN l k = 0 by rw [HGN.out, if_pos hsh])
          have HX2 := hide hX2
          have HWH := hide (fun W (h : Bld B b (Lib.byteCells L1) W) (hs : B ≤ W.heap.size) => WriteString_any B b (Lib.byteCells L1) hv W h (by rw [bytes_len]; omega) hs)
          clear hw2 hX2
          go_wp2_with (fail)
          refine (HWH.out _ HB2.out (by have := hB2.size; omega)).mono ?_
          rintro e w3 ⟨rfl, hb3, hw3, hk3w⟩
          have hB3 := hB2.trans hw3
          have hX3 := hk3w _ _ _ _ HX2.out (by decide) (by omega)
          rw [strCells_eq, bytes_app, HHL.out] at hb3
          obtain ⟨L3, hL3⟩ : ∃ L3, L1 ++ headL x = L3 := ⟨_, rfl⟩
          rw [hL3] at hb3
          have HB3 := hide hb3
          have hl3 : L3.length ≤ L1.length + 3000 := by rw [← hL3, List.length_append, ← HHL.out, ← size_of rfl]; omega
          have HL3 := hide hL3
          have q2 : w3.cell? ⟨wr.heap.size, 2, none⟩ = some (.slice AX x.n x.cap) := (block_cell hX3 2).trans rfl
          have hmz := HMZ.out
          obtain ⟨m, hm⟩ : ∃ m : Nat, m + 0 = x.n := ⟨x.n - 0, by omega⟩
          have hmc : (m : Int) ≤ (x.cap : Int) := by omega
          have hm0 : (0 : Int) ≤ (m : Int) := by omega
          have hsub : (x.n : Int) - (0 : Int) = (m : Int) := by omega
          clear hb3 hw3 hk3w hX3 hL3
          go_wp2_with (fail)
          clear q2 hmz
          obtain ⟨wo, rfl⟩ : ∃ wo : World, wo = wr := ⟨_, rfl⟩
          go_loopw [44] (fun a wr => ∃ j : Nat, j ≤ m ∧ a = .int .i64 j ∧ Bld B b (Lib.byteCells (L3 ++ (x.frs.take j).flatMap frInner)) wr ∧ Below B w wr ∧ (L3 ++ (x.frs.take j).flatMap frInner).length ≤ L3.length + j * 3000) (fun a _ => m - (intOf a).toNat)
          case atStart => exact ⟨0, Nat.zero_le _, rfl, by simpa using HB3.out, hB3, by simp⟩
          case round =>
            obtain ⟨j, hj, rfl, hbj, hBj, hlj⟩ := hrel
            have hzj : B ≤ wr.heap.size := Nat.le_trans hBw hBj.size
            have hbl0 := bld_lt0 hbj
            obtain ⟨L2, hL2⟩ : ∃ L2, L3 ++ (x.frs.take j).flatMap frInner = L2 := ⟨_, rfl⟩
            rw [hL2] at hbj hlj
            by_cases hlt2 : j < m
            · obtain ⟨fb, fo, y, hA, hfb, hy, hcf⟩ := ((HF.out x (List.mem_of_getElem? HX.out)).sl.below hBj).at_ (show j < x.n by omega)
              have hA' := HAX.out.symm.trans hA
              subst hA'
              clear hA
              have hyg := HG.out.fr y (List.mem_of_getElem? hy)
              have c0 : wr.cell? ⟨fb, fo + j * 6, none⟩ = some (.string y.mod) := by simpa using hcf 0 _ rfl
              have c1 : wr.cell? ⟨fb, fo + j * 6 + 1, none⟩ = some (.string y.fn) := hcf 1 _ rfl
              have c2 : wr.cell? ⟨fb, fo + j * 6 + 2, none⟩ = some (.string y.file) := hcf 2 _ rfl
              have c3 : wr.cell? ⟨fb, fo + j * 6 + 3, none⟩ = some (.int .i64 y.line) := hcf 3 _ rfl
              have c4 : wr.cell? ⟨fb, fo + j * 6 + 4, none⟩ = some (.int .i64 y.addr) := hcf 4 _ rfl
              have c5 : wr.cell? ⟨fb, fo + j * 6 + 5, none⟩ = some (.bool y.own) := hcf 5 _ rfl
              obtain ⟨pb, hpb⟩ : ∃ pb : ByteArray, ⟨(placeL y).toArray⟩ = pb := ⟨_, rfl⟩
              have HCA := hide (fun W => call_any y W hyg.m hyg.f)
              have HPL := hide (fun W (h : Tabs W) => place_any y W hyg h)
              rw [hpb] at HPL
              have hcl := call_len y hyg
              have hps : pb.size ≤ 1001 := by rw [size_of (x := pb) (l := placeL y) (by rw [← hpb])]; exact place_len y hyg
              obtain ⟨cb, hcb⟩ : ∃ cb, callB y = cb := ⟨_, rfl⟩
              rw [hcb] at HCA hcl
              have h10 : (⟨#[10]⟩ : ByteArray).size = 1 := rfl
              have h32 : (⟨#[32, 32, 32, 32, 97, 116, 32]⟩ : ByteArray).size = 7 := rfl
              have HWL := hide (fun W (h : Bld B b (Lib.byteCells L2) W) (hs : B ≤ W.heap.size) => WriteString_any B b (Lib.byteCells L2) (⟨#[32, 32, 32, 32, 97, 116, 32]⟩ ++ cb ++ pb ++ ⟨#[10]⟩) W h (by rw [bytes_len, ByteArray.size_append, ByteArray.size_append, ByteArray.size_append]; omega) hs)
              have HST := hide (show L3 ++ (x.frs.take (j + 1)).flatMap frInner = L2 ++ (⟨#[32, 32, 32, 32, 97, 116, 32]⟩ ++ cb ++ pb ++ ⟨#[10]⟩ : ByteArray).data.toList by rw [flat_take_succ frInner hy, ← List.append_assoc, hL2]; unfold frInner lineL; rw [hcb, ← hpb]; simp [ByteArray.data_append])
              have HLS := hide (show (L2 ++ (⟨#[32, 32, 32, 32, 97, 116, 32]⟩ ++ cb ++ pb ++ ⟨#[10]⟩ : ByteArray).data.toList).length ≤ L3.length + (j + 1) * 3000 by rw [List.length_append, ← size_of rfl, ByteArray.size_append, ByteArray.size_append, ByteArray.size_append]; omega)
              clear h10 h32
              have hLA0 : LineAt B b L2 w wr.heap.size y (wr.alloc (.cells #[.string y.mod, .string y.fn, .string y.file, .int .i64 y.line, .int .i64 y.addr, .bool y.own] 35)) := ⟨bld_below hbj ((Below.refl _ _).alloc (Nat.le_refl _) _), hBj.alloc hzj _, heap_alloc_new wr _, (HT.out.below hBj).below ((Below.refl _ _).alloc hzj _)⟩
              have HLA0 := hide hLA0
              clear hLA0 hcf hy hpb hcb hbj hL2
              go_wp2_with (fail)
              have hLA := HLA0.out
              generalize (wr.alloc (.cells #[.string y.mod, .string y.fn, .string y.file, .int .i64 y.line, .int .i64 y.addr, .bool y.own] 35)) = wx at hLA ⊢
              clear c0 c1 c2 c3 c4 c5 HLA0
              obtain ⟨I1, F1, hi1, hLF, hZF, hJ1⟩ := lfam hLA hBw; have HLF := hide hLF; have HZF := hide hZF; have hJ1 := hide hJ1; have k0 := fun i => (HLF.out i).bx.cells.1; have k1 := fun i => (HLF.out i).bx.cells.2.1; have k2 := fun i => (HLF.out i).bx.cells.2.2.1; have k3 := fun i => (HLF.out i).bx.cells.2.2.2.1; have k4 := fun i => (HLF.out i).bx.cells.2.2.2.2.1; have k5 := fun i => (HLF.out i).bx.cells.2.2.2.2.2; haveI : Nonempty I1 := ⟨hi1.choose⟩; clear hLA hLF hZF
              refine wp_region_fam_tail F1 8 hi1 (by kernel_rfl) (by kernel_rfl) ?_; simp only [List.take_succ_cons, List.take_zero, List.drop_succ_cons, List.drop_zero]; (repeat (go_big_quiet_step (first | (go_at_call 28; refine (HCA.out _).mono ?_; rintro e w' ⟨rfl, hw'⟩; exact ⟨rfl, hJ1.out _ _ hw'⟩) | (go_at_call 29; refine (HPL.out _ (HLF.out _).tb.t).mono ?_; rintro e w' ⟨rfl, hw'⟩; exact ⟨rfl, hJ1.out _ _ hw'⟩)))); refine wpQuiet_nil ?_; rintro _ ⟨i1, rfl⟩
              go_wp2_with (fail)
              refine (HWL.out _ (HLF.out i1).bl (HZF.out i1)).mono ?_
              rintro e w' ⟨rfl, hb9, hw9, _⟩
              have hB9 : Below B w _ := (HLF.out i1).be.trans hw9
              have HB9 := hide (show Bld B b (Lib.byteCells (L3 ++ (x.frs.take (j + 1)).flatMap frInner)) _ from by rw [HST.out, ← bytes_app, ← strCells_eq]; exact hb9)
              clear hb9 hw9
              go_wp2_with (fail)
              go_roundw
              case rel => exact ⟨j + 1, by omega, by go_num, HB9.out, hB9, by rw [HST.out]; exact HLS.out⟩
              case measure => simp [intOf]; omega
            · obtain rfl : j = m := by omega
              have hpa : (List.range (k + 1)).flatMap (innerAt l) = L2 ++ moreL 0 := by
                rw [flat_range_succ, HL0.out, ← hL2, ← HL3.out, ← HL1.out]
                have hat : innerAt l k = (if k = 0 then [] else causedL) ++ headL x ++ (x.frs.take (x.frs.length - goneN l k)).flatMap frInner ++ moreL (goneN l k) := by unfold innerAt; rw [HX.out]
                rw [hat, HCA0.out, HGO.out, show x.frs.length - 0 = j by rw [HG.out.sl.len]; omega]
                simp [List.append_assoc]
              have HPA := hide hpa
              have HBJ := hide hbj
              clear hpa hbj hL2
              have HPB := hide (show (List.range (k + 1)).flatMap (innerAt l) = L2 by rw [HPA.out]; simp [moreL])
              go_wp2_with (fail)
              go_roundw
              case rel => exact ⟨k + 1, by omega, by go_num, by rw [HPB.out]; exact HBJ.out, hBj, by rw [HPB.out]; omega⟩
              case measure => simp [intOf]; omega
        · have hs2 : ¬ (((SH : Nat) : Int) < 2) := by omega
          have hs3 : decide (((SH : Nat) : Int) < 2) = false := by simp; omega
          have hs4 : decide (SH < 2) = false := by simp; omega
          have HGO := hide (show goneN l k = SH by rw [HGN.out, if_neg hsh])
          have HX2 := hide hX2
          have HWH := hide (fun W (h : Bld B b (Lib.byteCells L1) W) (hs : B ≤ W.heap.size) => WriteString_any B b (Lib.byteCells L1) hv W h (by rw [bytes_len]; omega) hs)
          clear hw2 hX2
          go_wp2_with (fail)
          refine (HWH.out _ HB2.out (by have := hB2.size; omega)).mono ?_
          rintro e w3 ⟨rfl, hb3, hw3, hk3w⟩
          have hB3 := hB2.trans hw3
          have hX3 := hk3w _ _ _ _ HX2.out (by decide) (by omega)
          rw [strCells_eq, bytes_app, HHL.out] at hb3
          obtain ⟨L3, hL3⟩ : ∃ L3, L1 ++ headL x = L3 := ⟨_, rfl⟩
          rw [hL3] at hb3
          have HB3 := hide hb3
          have hl3 : L3.length ≤ L1.length + 3000 := by rw [← hL3, List.length_append, ← HHL.out, ← size_of rfl]; omega
          have HL3 := hide hL3
          have q2 : w3.cell? ⟨wr.heap.size, 2, none⟩ = some (.slice AX x.n x.cap) := (block_cell hX3 2).trans rfl
          have hmz := HMZ.out
          obtain ⟨m, hm⟩ : ∃ m : Nat, m + SH = x.n := ⟨x.n - SH, by omega⟩
          have hmc : (m : Int) ≤ (x.cap : Int) := by omega
          have hm0 : (0 : Int) ≤ (m : Int) := by omega
          have hsub : (x.n : Int) - (SH : Int) = (m : Int) := by omega
          clear hb3 hw3 hk3w hX3 hL3
          go_wp2_with (fail)
          clear q2 hmz
          obtain ⟨wo, rfl⟩ : ∃ wo : World, wo = wr := ⟨_, rfl⟩
          go_loopw [44] (fun a wr => ∃ j : Nat, j ≤ m ∧ a = .int .i64 j ∧ Bld B b (Lib.byteCells (L3 ++ (x.frs.take j).flatMap frInner)) wr ∧ Below B w wr ∧ (L3 ++ (x.frs.take j).flatMap frInner).length ≤ L3.length + j * 3000) (fun a _ => m - (intOf a).toNat)
          case atStart => exact ⟨0, Nat.zero_le _, rfl, by simpa using HB3.out, hB3, by simp⟩
          case round =>
            obtain ⟨j, hj, rfl, hbj, hBj, hlj⟩ := hrel
            have hzj : B ≤ wr.heap.size := Nat.le_trans hBw hBj.size
            have hbl0 := bld_lt0 hbj
            obtain ⟨L2, hL2⟩ : ∃ L2, L3 ++ (x.frs.take j).flatMap frInner = L2 := ⟨_, rfl⟩
            rw [hL2] at hbj hlj
            by_cases hlt2 : j < m
            · obtain ⟨fb, fo, y, hA, hfb, hy, hcf⟩ := ((HF.out x (List.mem_of_getElem? HX.out)).sl.below hBj).at_ (show j < x.n by omega)
              have hA' := HAX.out.symm.trans hA
              subst hA'
              clear hA
              have hyg := HG.out.fr y (List.mem_of_getElem? hy)
              have c0 : wr.cell? ⟨fb, fo + j * 6, none⟩ = some (.string y.mod) := by simpa using hcf 0 _ rfl
              have c1 : wr.cell? ⟨fb, fo + j * 6 + 1, none⟩ = some (.string y.fn) := hcf 1 _ rfl
              have c2 : wr.cell? ⟨fb, fo + j * 6 + 2, none⟩ = some (.string y.file) := hcf 2 _ rfl
              have c3 : wr.cell? ⟨fb, fo + j * 6 + 3, none⟩ = some (.int .i64 y.line) := hcf 3 _ rfl
              have c4 : wr.cell? ⟨fb, fo + j * 6 + 4, none⟩ = some (.int .i64 y.addr) := hcf 4 _ rfl
              have c5 : wr.cell? ⟨fb, fo + j * 6 + 5, none⟩ = some (.bool y.own) := hcf 5 _ rfl
              obtain ⟨pb, hpb⟩ : ∃ pb : ByteArray, ⟨(placeL y).toArray⟩ = pb := ⟨_, rfl⟩
              have HCA := hide (fun W => call_any y W hyg.m hyg.f)
              have HPL := hide (fun W (h : Tabs W) => place_any y W hyg h)
              rw [hpb] at HPL
              have hcl := call_len y hyg
              have hps : pb.size ≤ 1001 := by rw [size_of (x := pb) (l := placeL y) (by rw [← hpb])]; exact place_len y hyg
              obtain ⟨cb, hcb⟩ : ∃ cb, callB y = cb := ⟨_, rfl⟩
              rw [hcb] at HCA hcl
              have h10 : (⟨#[10]⟩ : ByteArray).size = 1 := rfl
              have h32 : (⟨#[32, 32, 32, 32, 97, 116, 32]⟩ : ByteArray).size = 7 := rfl
              have HWL := hide (fun W (h : Bld B b (Lib.byteCells L2) W) (hs : B ≤ W.heap.size) => WriteString_any B b (Lib.byteCells L2) (⟨#[32, 32, 32, 32, 97, 116, 32]⟩ ++ cb ++ pb ++ ⟨#[10]⟩) W h (by rw [bytes_len, ByteArray.size_append, ByteArray.size_append, ByteArray.size_append]; omega) hs)
              have HST := hide (show L3 ++ (x.frs.take (j + 1)).flatMap frInner = L2 ++ (⟨#[32, 32, 32, 32, 97, 116, 32]⟩ ++ cb ++ pb ++ ⟨#[10]⟩ : ByteArray).data.toList by rw [flat_take_succ frInner hy, ← List.append_assoc, hL2]; unfold frInner lineL; rw [hcb, ← hpb]; simp [ByteArray.data_append])
              have HLS := hide (show (L2 ++ (⟨#[32, 32, 32, 32, 97, 116, 32]⟩ ++ cb ++ pb ++ ⟨#[10]⟩ : ByteArray).data.toList).length ≤ L3.length + (j + 1) * 3000 by rw [List.length_append, ← size_of rfl, ByteArray.size_append, ByteArray.size_append, ByteArray.size_append]; omega)
              clear h10 h32
              have hLA0 : LineAt B b L2 w wr.heap.size y (wr.alloc (.cells #[.string y.mod, .string y.fn, .string y.file, .int .i64 y.line, .int .i64 y.addr, .bool y.own] 35)) := ⟨bld_below hbj ((Below.refl _ _).alloc (Nat.le_refl _) _), hBj.alloc hzj _, heap_alloc_new wr _, (HT.out.below hBj).below ((Below.refl _ _).alloc hzj _)⟩
              have HLA0 := hide hLA0
              clear hLA0 hcf hy hpb hcb hbj hL2
              go_wp2_with (fail)
              have hLA := HLA0.out
              generalize (wr.alloc (.cells #[.string y.mod, .string y.fn, .string y.file, .int .i64 y.line, .int .i64 y.addr, .bool y.own] 35)) = wx at hLA ⊢
              clear c0 c1 c2 c3 c4 c5 HLA0
              obtain ⟨I1, F1, hi1, hLF, hZF, hJ1⟩ := lfam hLA hBw; have HLF := hide hLF; have HZF := hide hZF; have hJ1 := hide hJ1; have k0 := fun i => (HLF.out i).bx.cells.1; have k1 := fun i => (HLF.out i).bx.cells.2.1; have k2 := fun i => (HLF.out i).bx.cells.2.2.1; have k3 := fun i => (HLF.out i).bx.cells.2.2.2.1; have k4 := fun i => (HLF.out i).bx.cells.2.2.2.2.1; have k5 := fun i => (HLF.out i).bx.cells.2.2.2.2.2; haveI : Nonempty I1 := ⟨hi1.choose⟩; clear hLA hLF hZF
              refine wp_region_fam_tail F1 8 hi1 (by kernel_rfl) (by kernel_rfl) ?_; simp only [List.take_succ_cons, List.take_zero, List.drop_succ_cons, List.drop_zero]; (repeat (go_big_quiet_step (first | (go_at_call 28; refine (HCA.out _).mono ?_; rintro e w' ⟨rfl, hw'⟩; exact ⟨rfl, hJ1.out _ _ hw'⟩) | (go_at_call 29; refine (HPL.out _ (HLF.out _).tb.t).mono ?_; rintro e w' ⟨rfl, hw'⟩; exact ⟨rfl, hJ1.out _ _ hw'⟩)))); refine wpQuiet_nil ?_; rintro _ ⟨i1, rfl⟩
              go_wp2_with (fail)
              refine (HWL.out _ (HLF.out i1).bl (HZF.out i1)).mono ?_
              rintro e w' ⟨rfl, hb9, hw9, _⟩
              have hB9 : Below B w _ := (HLF.out i1).be.trans hw9
              have HB9 := hide (show Bld B b (Lib.byteCells (L3 ++ (x.frs.take (j + 1)).flatMap frInner)) _ from by rw [HST.out, ← bytes_app, ← strCells_eq]; exact hb9)
              clear hb9 hw9
              go_wp2_with (fail)
              go_roundw
              case rel => exact ⟨j + 1, by omega, by go_num, HB9.out, hB9, by rw [HST.out]; exact HLS.out⟩
              case measure => simp [intOf]; omega
            · obtain rfl : j = m := by omega
              have hpa : (List.range (k + 1)).flatMap (innerAt l) = L2 ++ moreL SH := by
                rw [flat_range_succ, HL0.out, ← hL2, ← HL3.out, ← HL1.out]
                have hat : innerAt l k = (if k = 0 then [] else causedL) ++ headL x ++ (x.frs.take (x.frs.length - goneN l k)).flatMap frInner ++ moreL (goneN l k) := by unfold innerAt; rw [HX.out]
                rw [hat, HCA0.out, HGO.out, show x.frs.length - SH = j by rw [HG.out.sl.len]; omega]
                simp [List.append_assoc]
              have HPA := hide hpa
              have HBJ := hide hbj
              clear hpa hbj hL2
              obtain ⟨tb, htb⟩ : ∃ tb : ByteArray, ⟨(toldL (SH : Int)).toArray⟩ = tb := ⟨_, rfl⟩
              have htl : tb.data.toList = toldL (SH : Int) := by rw [← htb]
              have hts : tb.size ≤ 3 := by rw [size_of htl]; exact more_len SH (by omega)
              have HIT := hide (fun W (h : Tabs W) => Itoa_any (SH : Int) W (by omega) (by omega) h.pow)
              rw [htb] at HIT
              have h8 : (⟨#[32, 32, 32, 32, 46, 46, 46, 32]⟩ : ByteArray).size = 8 := rfl
              have h6 : (⟨#[32, 109, 111, 114, 101, 10]⟩ : ByteArray).size = 6 := rfl
              have HWM := hide (fun W (h : Bld B b (Lib.byteCells L2) W) (hs : B ≤ W.heap.size) => WriteString_any B b (Lib.byteCells L2) (⟨#[32, 32, 32, 32, 46, 46, 46, 32]⟩ ++ tb ++ ⟨#[32, 109, 111, 114, 101, 10]⟩) W h (by rw [bytes_len, ByteArray.size_append, ByteArray.size_append]; omega) hs)
              have HPB := hide (show (List.range (k + 1)).flatMap (innerAt l) = L2 ++ (⟨#[32, 32, 32, 32, 46, 46, 46, 32]⟩ ++ tb ++ ⟨#[32, 109, 111, 114, 101, 10]⟩ : ByteArray).data.toList by rw [HPA.out]; unfold moreL; rw [if_neg (by omega), ← htl]; simp [ByteArray.data_append])
              have HLE := hide (show (L2 ++ (⟨#[32, 32, 32, 32, 46, 46, 46, 32]⟩ ++ tb ++ ⟨#[32, 109, 111, 114, 101, 10]⟩ : ByteArray).data.toList).length ≤ (k + 1) * 1000000 by rw [List.length_append, ← size_of rfl, ByteArray.size_append, ByteArray.size_append]; omega)
              have HTJ := hide (HT.out.below hBj)
              have hs0 : (0 : Int) < (SH : Int) := by omega
              have hs1 : 0 < SH := by omega
              clear htb htl h8 h6
              go_wp2_with (fail)
              refine (HIT.out _ HTJ.out.t).mono ?_
              rintro e w5 ⟨rfl, hw5⟩
              have hB5 := hBj.trans (hw5.mono hzj)
              have HB5 := hide (bld_below HBJ.out hw5)
              clear hw5
              go_wp2_with (fail)
              refine (HWM.out _ HB5.out (by have := hB5.size; omega)).mono ?_
              rintro e w6 ⟨rfl, hb6, hw6, _⟩
              have hB6 := hB5.trans hw6
              rw [strCells_eq, bytes_app] at hb6
              have HB6 := hide hb6
              clear hb6 hw6
              go_wp2_with (fail)
              go_roundw
              case rel => exact ⟨k + 1, by omega, by go_num, by rw [HPB.out]; exact HB6.out, hB6, by rw [HPB.out]; exact HLE.out⟩
              case measure => simp [intOf]; omega
    · obtain rfl : k = n := by omega
      have HLN := hide HL.out
      go_wp2_with (fail)
      go_end0
      exact ⟨rfl, by rw [HLN.out]; exact HBL.out, hB⟩
end Go.Proofs.YtnlliddfljogjaaDoor
