/- The law NamePrints: walks of Print and Printed, and the law. -/
import Derived.Test.YthlhiegbiapllaaNmPrX
import Derived.Test.YthlhiegbiapllaaNmHas
import Derived.Test.YthlhiegbiapllaaNmOpen
import Derived.Test.YthlhiegbiapllaaRows
namespace Go.Proofs.Ythlhiegbiapllaa
open Go.RowKit
set_option linter.unusedVariables false
set_option linter.unusedSimpArgs false
def symW (s : Sym) : Bool := wdParts 12 s.name || wdTys 12 s.takes
theorem symE_500 {s : Sym} (h : (symE s).1 = 0) : (symE s).2 ≤ 500 := by
  have h0 := h
  unfold symE at h0
  by_cases h1 : (chkName (chkTy 12) s.name 0).1 = 0
  · rw [if_neg (by simpa using h1)] at h0
    have a := chkName_le (chkTy_le 12) s.name 0 (by decide) h1
    have b := chkList_le (chkTy_le 12) 20 s.takes _ a h0
    have hs : (symE s).2 = (chkList (chkTy 12) 20 s.takes (chkName (chkTy 12) s.name 0).2).2 := by unfold symE; rw [if_neg (by simpa using h1)]
    omega
  · rw [if_pos h1] at h0; exact absurd h0 h1
set_option maxRecDepth 100000 in
set_option maxHeartbeats 4000000 in
theorem Printed_any (k : Nat) (s : Sym) (cs : List Value) (w : World) (hin : SymIn w k s cs) (h0 : (symE s).1 = 0) :
    Calls Try.prog 17 #[.agg cs.toArray] w fun e w' => (∃ x : ByteArray, e = .returned (.tuple #[.string x, .bool (!symW s)]) ∧ x.size ≤ 2000000 ∧ (symW s = false → x = ⟨(prSym s).toArray⟩)) ∧ Below w.heap.size w w' := by
  obtain ⟨g1, g2, g3, g4, g5, g6⟩ := sym_good h0
  have h500 := symE_500 h0
  obtain ⟨A, n, c, A2, n2, c2, rfl, hn, hm, hn2, hm2, hl, hl2⟩ := hin
  have hnl := hl.len
  have hnl2 := hl2.len
  have HA := hide (fun ob : Obj => show Below w.heap.size w (w.alloc ob) from (Below.refl _ _).alloc (Nat.le_refl _) ob)
  have HP := hide (fun ob : Obj => rName_of (rTys_of (rAllP 12)) k A n c s.name (w.alloc ob) hn hm (by omega) (parts_up hl (HA.out ob)) g1 (by omega))
  have HT := hide (fun (W : World) (h : Below w.heap.size w W) => rTys_of (rAllP 12) k A2 n2 c2 s.takes W hn2 hm2 (by omega) (tys_up hl2 h) g4 (by omega))
  have HX := hide (heap_alloc_new w (.cells #[.slice A n c, .slice A2 n2 c2] 25))
  have hc1 : cntParts 12 s.name ≤ 500 := by omega
  have hc2 : cntTys 12 s.takes ≤ 500 := by omega
  unfold maxLen at hm hm2
  have HW := hide (show symW s = (wdParts 12 s.name || wdTys 12 s.takes) from rfl)
  rw [HW.out]
  have HE := hide (show prSym s = prName (prT 12) s.name ++ [40] ++ prTys (prT 12) s.takes ++ [41] from rfl)
  clear hl hl2 g1 g2 g3 g4 g5 g6 h0 h500
  obtain ⟨va, hva⟩ : ∃ va, wdParts 12 s.name = va := ⟨_, rfl⟩
  obtain ⟨vb, hvb⟩ : ∃ vb, wdTys 12 s.takes = vb := ⟨_, rfl⟩
  rw [hva] at HP ⊢
  rw [hvb] at HT ⊢
  clear hva hvb
  cases va
  · go_enter Try.func17, Try.ntmps17
    go_wp2_with (first | (go_at_call 44; refine (HP.out _).mono ?_; rintro e w2 ⟨⟨x, rfl, hsz, hs⟩, hw2⟩; have hB2 : Below w.heap.size w w2 := (HA.out _).trans (hw2.mono (by simp)); have HS := hide hs; have hss : x.size ≤ 800000 := (by omega); have x1 : w2.cell? ⟨w.heap.size, 1, none⟩ = some (.slice A2 n2 c2) := (block_cell (block_below HX.out hw2) 1).trans rfl; clear hs hw2) | (go_at_call 45; refine (HT.out _ hB2).mono ?_; rintro e w3 ⟨⟨y, rfl, hsy, hs2⟩, hw3⟩; have hB3 := hB2.trans (hw3.mono hB2.size); have HS2 := hide hs2; have hss2 : y.size ≤ 800000 := (by omega); clear hs2 hw3))
    go_ret2
    exact ⟨⟨x ++ ⟨#[40]⟩ ++ y ++ ⟨#[41]⟩, rfl, by rw [ByteArray.size_append, ByteArray.size_append, ByteArray.size_append]; have h0 : (⟨#[40]⟩ : ByteArray).size = 1 := rfl; have h9 : (⟨#[41]⟩ : ByteArray).size = 1 := rfl; omega, fun h => by rw [HS.out (by first | trivial | rfl), HS2.out (by simpa using h)]; rw [HE.out]; exact bytes_eq (by simp [ByteArray.data_append])⟩, hB3⟩
  · go_enter Try.func17, Try.ntmps17
    go_wp2_with (first | (go_at_call 44; refine (HP.out _).mono ?_; rintro e w2 ⟨⟨x, rfl, hsz, hs⟩, hw2⟩; have hB2 : Below w.heap.size w w2 := (HA.out _).trans (hw2.mono (by simp)); have hss : x.size ≤ 800000 := (by omega); have x1 : w2.cell? ⟨w.heap.size, 1, none⟩ = some (.slice A2 n2 c2) := (block_cell (block_below HX.out hw2) 1).trans rfl; clear hs hw2) | (go_at_call 45; refine (HT.out _ hB2).mono ?_; rintro e w3 ⟨⟨y, rfl, hsy, hs2⟩, hw3⟩; have hB3 := hB2.trans (hw3.mono hB2.size); have hss2 : y.size ≤ 800000 := (by omega); clear hs2 hw3))
    go_ret2
    exact ⟨⟨x ++ ⟨#[40]⟩ ++ y ++ ⟨#[41]⟩, by simp, by rw [ByteArray.size_append, ByteArray.size_append, ByteArray.size_append]; have h0 : (⟨#[40]⟩ : ByteArray).size = 1 := rfl; have h9 : (⟨#[41]⟩ : ByteArray).size = 1 := rfl; omega, fun h => by simp at h⟩, hB3⟩
set_option maxHeartbeats 1000000 in
theorem Print_err (k : Nat) (s : Sym) (cs : List Value) (w : World) (hin : SymIn w k s cs) (E : Int) (hE : (symE s).1 = E) (h0 : E ≠ 0) :
    Calls Try.prog 16 #[.agg cs.toArray] w fun e w' => e = .returned (.tuple #[.string ⟨#[]⟩, .int .i64 E]) ∧ Below w.heap.size w w' := by
  have HA := hide (fun ob : Obj => show Below w.heap.size w (w.alloc ob) from (Below.refl _ _).alloc (Nat.le_refl _) ob)
  have HC := hide (fun ob : Obj => hE ▸ Check_any k s cs (w.alloc ob) (hin.up (HA.out ob)))
  obtain ⟨A, n, c, A2, n2, c2, rfl, hn, hm, hn2, hm2, hl, hl2⟩ := hin
  have h0' : (E == 0) = false := by simpa using h0
  clear hl hl2 hE
  go_enter Try.func16, Try.ntmps16
  go_wp2_with (go_at_call 9; refine (HC.out _).mono ?_; rintro e w2 ⟨rfl, hw2⟩; have hB2 := (HA.out _).trans (hw2.mono (by simp)))
  go_ret2
  exact ⟨rfl, hB2⟩
set_option maxHeartbeats 1000000 in
theorem Print_word (k : Nat) (s : Sym) (cs : List Value) (w : World) (hin : SymIn w k s cs) (h0 : (symE s).1 = 0) (hW : symW s = true) :
    Calls Try.prog 16 #[.agg cs.toArray] w fun e w' => e = .returned (.tuple #[.string ⟨#[]⟩, .int .i64 3]) ∧ Below w.heap.size w w' := by
  have HA := hide (fun ob : Obj => show Below w.heap.size w (w.alloc ob) from (Below.refl _ _).alloc (Nat.le_refl _) ob)
  have HC := hide (fun ob : Obj => h0 ▸ Check_any k s cs (w.alloc ob) (hin.up (HA.out ob)))
  have HH := hide (fun (W : World) (h : Below w.heap.size w W) => show Calls Try.prog 38 #[.agg cs.toArray] W fun e w' => e = .returned (.bool true) ∧ Below W.heap.size W w' from hW ▸ hasWord_any k s cs W (hin.up h) h0)
  obtain ⟨A, n, c, A2, n2, c2, rfl, hn, hm, hn2, hm2, hl, hl2⟩ := hin
  have HX := hide (heap_alloc_new w (.cells #[.slice A n c, .slice A2 n2 c2] 25))
  clear hl hl2 h0 hW
  go_enter Try.func16, Try.ntmps16
  go_wp2_with (first | (go_at_call 9; refine (HC.out _).mono ?_; rintro e w2 ⟨rfl, hw2⟩; have hB2 := (HA.out _).trans (hw2.mono (by simp)); have x0 : w2.cell? ⟨w.heap.size, 0, none⟩ = some (.slice A n c) := (block_cell (block_below HX.out hw2) 0).trans rfl; have x1 : w2.cell? ⟨w.heap.size, 1, none⟩ = some (.slice A2 n2 c2) := (block_cell (block_below HX.out hw2) 1).trans rfl) | (go_at_call 38; refine (HH.out _ hB2).mono ?_; rintro e w3 ⟨rfl, hw3⟩; have hB3 := hB2.trans (hw3.mono hB2.size)))
  go_ret2
  exact ⟨rfl, hB3⟩
set_option maxRecDepth 100000 in
set_option maxHeartbeats 8000000 in
theorem Print_ok (k : Nat) (s : Sym) (cs : List Value) (w : World) (hin : SymIn w k s cs) (h0 : (symE s).1 = 0) (hW : symW s = false) :
    Calls Try.prog 16 #[.agg cs.toArray] w fun e w' => e = .returned (if 8000 < (prSym s).length then .tuple #[.string ⟨#[]⟩, .int .i64 4] else .tuple #[.string ⟨(prSym s).toArray⟩, .int .i64 0]) ∧ Below w.heap.size w w' := by
  have HA := hide (fun ob : Obj => show Below w.heap.size w (w.alloc ob) from (Below.refl _ _).alloc (Nat.le_refl _) ob)
  have HC := hide (fun ob : Obj => h0 ▸ Check_any k s cs (w.alloc ob) (hin.up (HA.out ob)))
  have HH := hide (fun (W : World) (h : Below w.heap.size w W) => show Calls Try.prog 38 #[.agg cs.toArray] W fun e w' => e = .returned (.bool false) ∧ Below W.heap.size W w' from hW ▸ hasWord_any k s cs W (hin.up h) h0)
  obtain ⟨g1, g2, g3, g4, g5, g6⟩ := sym_good h0
  have h500 := symE_500 h0
  obtain ⟨A, n, c, A2, n2, c2, rfl, hn, hm, hn2, hm2, hl, hl2⟩ := hin
  have hnl := hl.len
  have hnl2 := hl2.len
  have hpl := prName_len (f := 12) (l := s.name) (fun p hp => ⟨(g1 p hp).1, fun x hx => prT_len 12 x ((g1 p hp).2.2 x hx)⟩) g3
  have htl := prTys_len (f := 12) (l := s.takes) (fun x hx => prT_len 12 x (g4 x hx))
  obtain ⟨L1, hL1⟩ : ∃ L1, prName (prT 12) s.name = L1 := ⟨_, rfl⟩
  obtain ⟨L2, hL2⟩ : ∃ L2, prTys (prT 12) s.takes = L2 := ⟨_, rfl⟩
  have hs : prSym s = L1 ++ [40] ++ L2 ++ [41] := by unfold prSym; rw [hL1, hL2]
  rw [hL1] at hpl
  rw [hL2] at htl
  have hl1 : L1.length ≤ 710000 := by omega
  have hl2' : L2.length ≤ 710000 := by omega
  have HP := hide (fun (b : Nat) (W : World) (h : Below w.heap.size w W) h2 h3 => hL1 ▸ pParts_of (pTys_of (pAllP 12)) k A n c s.name w.heap.size b [] W hn hm (by omega) (parts_below hl h) g1 (by omega) h2 h3 (by rw [List.length_nil]; omega))
  have HT := hide (fun (b : Nat) (W : World) (h : Below w.heap.size w W) h2 h3 => hL2 ▸ pTys_of (pAllP 12) k A2 n2 c2 s.takes w.heap.size b (L1 ++ [40]) W hn2 hm2 (by omega) (tys_below hl2 h) g4 (by omega) h2 h3 (by rw [List.length_append, List.length_singleton]; omega))
  have HX := hide (heap_alloc_new w (.cells #[.slice A n c, .slice A2 n2 c2] 25))
  rw [hs]
  obtain ⟨RB, hRB⟩ : ∃ RB : List UInt8, L1 ++ [40] ++ L2 ++ [41] = RB := ⟨_, rfl⟩
  rw [hRB]
  have HRB := hide hRB
  obtain ⟨NL, hNL⟩ : ∃ NL, RB.length = NL := ⟨_, rfl⟩
  rw [hNL]
  have HNL := hide hNL
  obtain ⟨RV, hRV⟩ : ∃ RV : Value, (if 8000 < NL then .tuple #[.string ⟨#[]⟩, .int .i64 4] else .tuple #[.string ⟨RB.toArray⟩, .int .i64 0]) = RV := ⟨_, rfl⟩
  rw [hRV]
  have HRV := hide hRV
  clear hRV
  unfold maxLen at hm hm2
  clear hl hl2 g1 g2 g3 g4 g5 g6 h0 hW hpl htl hL1 hL2 hs hRB hNL h500 hnl hnl2
  go_enter Try.func16, Try.ntmps16
  go_wp2_with (first | (go_at_call 9; refine (HC.out _).mono ?_; rintro e w2 ⟨rfl, hw2⟩; have hB2 := (HA.out _).trans (hw2.mono (by simp)); have HX2 := hide (block_below HX.out hw2); have x0 : w2.cell? ⟨w.heap.size, 0, none⟩ = some (.slice A n c) := (block_cell HX2.out 0).trans rfl; have x1 : w2.cell? ⟨w.heap.size, 1, none⟩ = some (.slice A2 n2 c2) := (block_cell HX2.out 1).trans rfl; clear hw2) | (go_at_call 38; refine (HH.out _ hB2).mono ?_; rintro e w3 ⟨rfl, hw3⟩; have hB3 := hB2.trans (hw3.mono hB2.size); have HX3 := hide (block_below HX2.out hw3); have y0 : w3.cell? ⟨w.heap.size, 0, none⟩ = some (.slice A n c) := (block_cell HX3.out 0).trans rfl; have y1 : w3.cell? ⟨w.heap.size, 1, none⟩ = some (.slice A2 n2 c2) := (block_cell HX3.out 1).trans rfl; have hz3 := hB3.size; clear hw3))
  clear x0 x1 y0 y1
  have HBL := hide (show Bld w.heap.size w3.heap.size [] (w3.alloc (.cells #[.pointer none, .slice none 0 0] 71)) from .inl ⟨hz3, .slice none 0 0, heap_alloc_new w3 _, World.ownsRow_nil _ _ _ _, by simp [Value.ownBlock]⟩)
  have HBA := hide (hB3.alloc hz3 (.cells #[.pointer none, .slice none 0 0] 71))
  have HXA := hide (block_below HX3.out ((Below.refl _ _).alloc (Nat.le_refl _) (.cells #[.pointer none, .slice none 0 0] 71)))
  have hlt3 := lt_of_block HX3.out
  refine (HP.out w3.heap.size _ HBA.out (by simpa [Lib.byteCells] using HBL.out) HBA.out.size).mono ?_
  rintro e w4 ⟨rfl, hb4, hw4, hk4⟩
  have hB4 := HBA.out.trans hw4
  have HB4 := hide hb4
  have HX4 := hide (hk4 _ _ _ _ HXA.out (by decide) (by omega))
  clear hb4 hw4 hk4
  go_wp2_with (fail)
  refine (write_bytes w.heap.size w3.heap.size ([] ++ L1) ⟨#[40]⟩ _ HB4.out hB4.size (by rw [List.nil_append]; have : (⟨#[40]⟩ : ByteArray).size = 1 := rfl; omega)).mono ?_
  rintro e w5 ⟨rfl, hb5, hw5, hk5⟩
  have hB5 := hB4.trans hw5
  have HB5 := hide (show Bld w.heap.size w3.heap.size (Lib.byteCells (L1 ++ [40])) w5 from hb5)
  have hx5 := hk5 _ _ _ _ HX4.out (by decide) (by omega)
  have x1 : w5.cell? ⟨w.heap.size, 1, none⟩ = some (.slice A2 n2 c2) := (block_cell hx5 1).trans rfl
  clear hb5 hw5 hk5 hx5
  go_wp2_with (fail)
  clear x1
  refine (HT.out w3.heap.size _ hB5 HB5.out hB5.size).mono ?_
  rintro e w6 ⟨rfl, hb6, hw6, hk6⟩
  have hB6 := hB5.trans hw6
  have HB6 := hide hb6
  clear hb6 hw6 hk6
  go_wp2_with (fail)
  refine (write_bytes w.heap.size w3.heap.size (L1 ++ [40] ++ L2) ⟨#[41]⟩ _ HB6.out hB6.size (by have : (⟨#[41]⟩ : ByteArray).size = 1 := rfl; simp only [List.length_append, List.length_cons, List.length_nil]; omega)).mono ?_
  rintro e w7 ⟨rfl, hb7, hw7, hk7⟩
  have hB7 := hB6.trans hw7
  have HB7 := hide (show Bld w.heap.size w3.heap.size (Lib.byteCells RB) w7 by rw [← HRB.out]; exact hb7)
  have HLE := hide (show Calls Try.prog 42 #[.pointer (some ⟨w3.heap.size, 0, none⟩)] w7 fun e w' => e = .returned (.int .i64 NL) ∧ w' = w7 by
    have h2 := Try.Builder_Len w.heap.size w3.heap.size _ w7 HB7.out
    rw [bytes_len, HNL.out] at h2
    exact h2)
  have HSTR := hide (Try.Builder_String_any w.heap.size w3.heap.size RB w7 HB7.out hB7.size)
  clear hb7 hw7 hk7
  by_cases hbig : 8000 < NL
  · have hbi : (8000 : Int) < (NL : Int) := by omega
    have HE := hide (HRV.out.symm.trans (if_pos hbig))
    go_wp2_with (go_at_call 42; refine HLE.out.mono ?_; rintro e w' ⟨rfl, rfl⟩)
    go_ret2
    exact ⟨by rw [HE.out]; rfl, hB7⟩
  · have hbi : decide ((8000 : Int) < (NL : Int)) = false := by simp; omega
    have hbj : decide (8000 < NL) = false := by simp; omega
    have HE := hide (HRV.out.symm.trans (if_neg hbig))
    go_wp2_with (first | (go_at_call 42; refine HLE.out.mono ?_; rintro e w' ⟨rfl, rfl⟩) | (go_at_call 43; refine HSTR.out.mono ?_; rintro e w8 ⟨rfl, hw8⟩; have hB8 := hB7.trans hw8))
    go_ret2
    exact ⟨by rw [HE.out]; rfl, hB8⟩
set_option maxHeartbeats 4000000 in
theorem NamePrints_all (k : Nat) (s : Sym) (cs : List Value) (w : World) (hin : SymIn w k s cs) :
    Calls Try.prog 5 #[.agg cs.toArray] w fun e w' => e = .returned (.bool true) ∧ Below w.heap.size w w' := by
  have HIN := hide hin
  have HA := hide (fun ob : Obj => show Below w.heap.size w (w.alloc ob) from (Below.refl _ _).alloc (Nat.le_refl _) ob)
  by_cases h0 : (symE s).1 = 0
  · have HSE := hide (fun W h => h0 ▸ SymbolError_any k s cs W h)
    have HPD := hide (fun W h => Printed_any k s cs W h h0)
    cases hW : symW s
    · have HPR0 := hide (fun ob : Obj => Print_ok k s cs (w.alloc ob) (hin.up (HA.out ob)) h0 hW)
      rw [hW] at HPD
      have hlen := prSym_len h0 (symE_500 h0)
      obtain ⟨RB, hRB⟩ : ∃ RB : ByteArray, ⟨(prSym s).toArray⟩ = RB := ⟨_, rfl⟩
      have hsz : (prSym s).length = RB.size := by rw [← hRB, str_size (l := prSym s) rfl]
      rw [hRB, hsz] at HPR0
      rw [hRB] at HPD
      rw [hsz] at hlen
      obtain ⟨A, n, c, A2, n2, c2, rfl, hn, hm, hn2, hm2, hl, hl2⟩ := hin
      have HX := hide (heap_alloc_new w (.cells #[.slice A n c, .slice A2 n2 c2] 25))
      clear hl hl2 h0 hW hRB hsz
      by_cases hbig : 8000 < RB.size
      · rw [if_pos hbig] at HPR0
        have HPR := HPR0
        have hbi : (8000 : Int) < (RB.size : Int) := by omega
        go_enter Try.func5, Try.ntmps5
        go_wp2_with (first | (go_at_call 16; refine (HPR.out _).mono ?_; rintro e w2 ⟨rfl, hw2⟩; have hB2 := (HA.out _).trans (hw2.mono (by simp)); have x0 : w2.cell? ⟨w.heap.size, 0, none⟩ = some (.slice A n c) := (block_cell (block_below HX.out hw2) 0).trans rfl; have x1 : w2.cell? ⟨w.heap.size, 1, none⟩ = some (.slice A2 n2 c2) := (block_cell (block_below HX.out hw2) 1).trans rfl; have HX2 := hide (block_below HX.out hw2); clear hw2) | (go_at_call 8; refine (HSE.out _ (HIN.out.up hB2)).mono ?_; rintro e w3 ⟨rfl, hw3⟩; have hB3 := hB2.trans (hw3.mono hB2.size); have y0 : w3.cell? ⟨w.heap.size, 0, none⟩ = some (.slice A n c) := (block_cell (block_below HX2.out hw3) 0).trans rfl; have y1 : w3.cell? ⟨w.heap.size, 1, none⟩ = some (.slice A2 n2 c2) := (block_cell (block_below HX2.out hw3) 1).trans rfl; clear hw3) | (go_at_call 17; refine (HPD.out _ (HIN.out.up hB3)).mono ?_; rintro e w4 ⟨⟨x, rfl, hxs, hx⟩, hw4⟩; obtain rfl : RB = x := (hx (by first | trivial | rfl)).symm; have hB4 := hB3.trans (hw4.mono hB3.size); clear hx hw4))
        go_ret
        exact ⟨rfl, hB4⟩
      · rw [if_neg hbig] at HPR0
        have HPR := HPR0
        have hbi : ¬ (8000 : Int) < (RB.size : Int) := by omega
        have hbi2 : decide ((8000 : Int) < (RB.size : Int)) = false := by simp; omega
        have hbi3 : decide (8000 < RB.size) = false := by simp; omega
        go_enter Try.func5, Try.ntmps5
        go_wp2_with (first | (go_at_call 16; refine (HPR.out _).mono ?_; rintro e w2 ⟨rfl, hw2⟩; have hB2 := (HA.out _).trans (hw2.mono (by simp)); have x0 : w2.cell? ⟨w.heap.size, 0, none⟩ = some (.slice A n c) := (block_cell (block_below HX.out hw2) 0).trans rfl; have x1 : w2.cell? ⟨w.heap.size, 1, none⟩ = some (.slice A2 n2 c2) := (block_cell (block_below HX.out hw2) 1).trans rfl; have HX2 := hide (block_below HX.out hw2); clear hw2) | (go_at_call 8; refine (HSE.out _ (HIN.out.up hB2)).mono ?_; rintro e w3 ⟨rfl, hw3⟩; have hB3 := hB2.trans (hw3.mono hB2.size); have y0 : w3.cell? ⟨w.heap.size, 0, none⟩ = some (.slice A n c) := (block_cell (block_below HX2.out hw3) 0).trans rfl; have y1 : w3.cell? ⟨w.heap.size, 1, none⟩ = some (.slice A2 n2 c2) := (block_cell (block_below HX2.out hw3) 1).trans rfl; clear hw3) | (go_at_call 17; refine (HPD.out _ (HIN.out.up hB3)).mono ?_; rintro e w4 ⟨⟨x, rfl, hxs, hx⟩, hw4⟩; obtain rfl : RB = x := (hx (by first | trivial | rfl)).symm; have hB4 := hB3.trans (hw4.mono hB3.size); clear hx hw4))
        go_ret
        exact ⟨rfl, hB4⟩
    · have HPR := hide (fun ob : Obj => Print_word k s cs (w.alloc ob) (hin.up (HA.out ob)) h0 hW)
      rw [hW] at HPD
      obtain ⟨A, n, c, A2, n2, c2, rfl, hn, hm, hn2, hm2, hl, hl2⟩ := hin
      have HX := hide (heap_alloc_new w (.cells #[.slice A n c, .slice A2 n2 c2] 25))
      clear hl hl2 h0 hW
      go_enter Try.func5, Try.ntmps5
      go_wp2_with (first | (go_at_call 16; refine (HPR.out _).mono ?_; rintro e w2 ⟨rfl, hw2⟩; have hB2 := (HA.out _).trans (hw2.mono (by simp)); have x0 : w2.cell? ⟨w.heap.size, 0, none⟩ = some (.slice A n c) := (block_cell (block_below HX.out hw2) 0).trans rfl; have x1 : w2.cell? ⟨w.heap.size, 1, none⟩ = some (.slice A2 n2 c2) := (block_cell (block_below HX.out hw2) 1).trans rfl; have HX2 := hide (block_below HX.out hw2); clear hw2) | (go_at_call 8; refine (HSE.out _ (HIN.out.up hB2)).mono ?_; rintro e w3 ⟨rfl, hw3⟩; have hB3 := hB2.trans (hw3.mono hB2.size); have y0 : w3.cell? ⟨w.heap.size, 0, none⟩ = some (.slice A n c) := (block_cell (block_below HX2.out hw3) 0).trans rfl; have y1 : w3.cell? ⟨w.heap.size, 1, none⟩ = some (.slice A2 n2 c2) := (block_cell (block_below HX2.out hw3) 1).trans rfl; clear hw3) | (go_at_call 17; refine (HPD.out _ (HIN.out.up hB3)).mono ?_; rintro e w4 ⟨⟨x, rfl, hxs, hx⟩, hw4⟩; have hB4 := hB3.trans (hw4.mono hB3.size); clear hx hw4))
      go_ret
      exact ⟨rfl, hB4⟩
  · obtain ⟨E, hE⟩ : ∃ E, (symE s).1 = E := ⟨_, rfl⟩
    have HSE := hide (fun W h => hE ▸ SymbolError_any k s cs W h)
    rw [hE] at h0
    have HPR := hide (fun ob : Obj => Print_err k s cs (w.alloc ob) (hin.up (HA.out ob)) E hE h0)
    have h0' : (E == 0) = false := by simpa using h0
    obtain ⟨A, n, c, A2, n2, c2, rfl, hn, hm, hn2, hm2, hl, hl2⟩ := hin
    have HX := hide (heap_alloc_new w (.cells #[.slice A n c, .slice A2 n2 c2] 25))
    clear hl hl2 hE
    go_enter Try.func5, Try.ntmps5
    go_wp2_with (first | (go_at_call 16; refine (HPR.out _).mono ?_; rintro e w2 ⟨rfl, hw2⟩; have hB2 := (HA.out _).trans (hw2.mono (by simp)); have x0 : w2.cell? ⟨w.heap.size, 0, none⟩ = some (.slice A n c) := (block_cell (block_below HX.out hw2) 0).trans rfl; have x1 : w2.cell? ⟨w.heap.size, 1, none⟩ = some (.slice A2 n2 c2) := (block_cell (block_below HX.out hw2) 1).trans rfl; have HX2 := hide (block_below HX.out hw2); clear hw2) | (go_at_call 8; refine (HSE.out _ (HIN.out.up hB2)).mono ?_; rintro e w3 ⟨rfl, hw3⟩; have hB3 := hB2.trans (hw3.mono hB2.size); have y0 : w3.cell? ⟨w.heap.size, 0, none⟩ = some (.slice A n c) := (block_cell (block_below HX2.out hw3) 0).trans rfl; have y1 : w3.cell? ⟨w.heap.size, 1, none⟩ = some (.slice A2 n2 c2) := (block_cell (block_below HX2.out hw3) 1).trans rfl; clear hw3))
    go_ret
    exact ⟨rfl, hB3⟩
namespace namePrints
set_option maxRecDepth 100000 in
theorem walk {H : Type} {enc : TypeId × Value → H} {d0 : DataW H} {p0 : List MemPlace} {base : Nat} {W : World}
    (v0 : Value) (k0 : DataW.Trod enc Try.prog W 0 (fun _ => true) true 25 v0 d0 p0) (ok0 : Value.okWide Try.prog W .any base 25 v0) :
    Calls Try.prog 5 #[v0] W fun e w' => e = .returned (.bool true) ∧ Below W.heap.size W w' := by
  obtain ⟨ka, a, ca, rfl, ha⟩ := open_sym ok0 k0
  exact NamePrints_all _ a ca W ha
end namePrints
end Go.Proofs.Ythlhiegbiapllaa
