/- Walk of Write. -/
import Derived.Test.YtnlliddfljogjaaDoorStWInn
namespace Go.Proofs.YtnlliddfljogjaaDoor
open Go.RowKit
set_option linter.unusedVariables false
theorem index_has (l : List UInt8) (c : UInt8) : decide (0 ≤ Lib.indexByte l c) = l.contains c := by
  induction l with
  | nil => simp [Lib.indexByte]
  | cons b l ih =>
    have hge := Lib.indexByte_ge l c
    unfold Lib.indexByte
    by_cases hb : b = c
    · subst hb; simp
    · have hcb : ¬ c = b := fun e => hb e.symm
      rw [if_neg (by simpa using hb)]
      by_cases hn : Lib.indexByte l c = -1
      · rw [if_pos (by simpa using hn)]
        rw [hn] at ih
        simp [hcb] at ih ⊢
        exact ih
      · rw [if_neg (by simpa using hn)]
        have h0 : 0 ≤ Lib.indexByte l c := by omega
        have h1 : 0 ≤ Lib.indexByte l c + 1 := by omega
        simp only [h0, h1, decide_true] at ih ⊢
        simp [hcb] at ih ⊢
        exact ih
def bangS (s : ByteArray) : Bool := s.data.toList.contains 33
theorem Contains_bang (s : ByteArray) (W : World) : Calls Tryd.prog 9 #[.string s, .string ⟨#[33]⟩] W fun e w' => e = .returned (.bool (bangS s)) ∧ w' = W := by
  have h := Tryd.strings_Contains_one s 33 W
  rw [index_has] at h
  exact h
def bangX (x : Frame) : Bool := x.fn.data.toList.contains 33 || x.mod.data.toList.contains 33
def bangF (f : FaultT) : Bool := f.frs.any bangX
theorem banged_hit {l : List FaultT} {k j : Nat} {x : FaultT} {y : Frame} (hx : l[k]? = some x) (hy : x.frs[j]? = some y) (h : bangX y = true) : banged l = true :=
  List.any_eq_true.2 ⟨x, List.mem_of_getElem? hx, List.any_eq_true.2 ⟨y, List.mem_of_getElem? hy, h⟩⟩
theorem banged_none {l : List FaultT} (h : ∀ x ∈ l, bangF x = false) : banged l = false := by
  rw [banged, List.any_eq_false]
  intro x hx hx2
  have h1 : (x.frs.any fun x => x.fn.data.toList.contains 33 || x.mod.data.toList.contains 33) = false := h x hx
  rw [h1] at hx2
  cases hx2
theorem take_all_snoc {α : Type} {l : List α} {k : Nat} {a : α} {p : α → Bool} (h : ∀ x ∈ l.take k, p x = false) (ha : l[k]? = some a) (hp : p a = false) : ∀ x ∈ l.take (k + 1), p x = false := by
  intro x hx
  rw [take_succ_get ha, List.mem_append, List.mem_singleton] at hx
  rcases hx with hx | rfl
  · exact h x hx
  · exact hp
theorem bangF_none {x : FaultT} (h : ∀ y ∈ x.frs.take x.frs.length, bangX y = false) : bangF x = false := by
  rw [bangF, List.any_eq_false]
  intro y hy
  rw [h y (by rw [List.take_length]; exact hy)]
  simp
theorem frErr_good {y : Frame} (h : frErr y = 0) : y.good := by
  rw [frErr] at h
  split at h
  · cases h
  · rename_i hs
    split at h
    · rw [frTail] at h
      split at h; · cases h
      split at h; · cases h
      rename_i ho
      simp only [outsideB, Bool.or_eq_true, decide_eq_true_eq, not_or] at ho
      exact ⟨by omega, by omega, by omega, by omega, by omega, by omega, by omega⟩
    · cases h
theorem fltErr_good {x : FaultT} {w : World} (h : fltErr x = 0) (ho : x.ok w) : FGood w.heap.size w x := by
  rw [fltErr] at h
  split at h; · cases h
  split at h; · cases h
  split at h; · cases h
  split at h; · cases h
  split at h; · cases h
  have hlen := frsErr_len h
  have hn := ho.sl.len
  refine ⟨by omega, by omega, by omega, ho.nc, ho.sl, fun y hy => ?_⟩
  obtain ⟨i, hi, rfl⟩ := List.mem_iff_getElem.1 hy
  rw [frsErr, if_neg (by omega)] at h
  have h2 := firstErr_all h i hi
  rw [frAt_some (List.getElem?_eq_getElem hi)] at h2
  exact frErr_good h2
theorem fltsErr_good {l : List FaultT} {w : World} (h : fltsErr l = 0) (ho : FaultsOk w l) : l.length ≤ 10 ∧ ∀ x ∈ l, FGood w.heap.size w x := by
  rw [fltsErr] at h
  split at h; · cases h
  split at h; · cases h
  refine ⟨by omega, fun x hx => ?_⟩
  obtain ⟨i, hi, rfl⟩ := List.mem_iff_getElem.1 hx
  have h2 := firstErr_all h i hi
  rw [fltAt_some (List.getElem?_eq_getElem hi)] at h2
  exact fltErr_good h2 (ho _ hx)
/-- What Write answers for right faults and a right form. -/
def writeR (l : List FaultT) (form : Int) : List UInt8 × Int := if banged l then ([], 9) else if 1000000 < (writtenL l form).length then ([], 4) else (writtenL l form, 0)
set_option maxRecDepth 100000 in
set_option maxHeartbeats 16000000 in
theorem Write_good (A : Option Addr) (n c : Nat) (l : List FaultT) (form : Int) (w : World) (hnc : n ≤ c) (hl : Sl w w.heap.size FaultT.cs 3 A n l) (hf : FaultsOk w l) (hE : fltsErr l = 0) (hform : form = 1 ∨ form = 2 ∨ form = 3) (ht : TabsB w.heap.size w) :
    Calls Tryd.prog 4 #[.slice A n c, .int .i64 form] w fun e w' => e = .returned (.tuple #[.string ⟨(writeR l form).1.toArray⟩, .int .i64 (writeR l form).2]) ∧ Below w.heap.size w w' := by
  obtain ⟨hlen, hgood⟩ := fltsErr_good hE hf
  have HL := hide hl.len
  have hn : n ≤ 10 := by have := hl.len; omega
  have HSL := hide hl
  have HGD := hide hgood
  have HT := hide ht
  have HC := hide (show Calls Tryd.prog 7 #[.slice A n c] w fun e w' => e = .returned (.int .i64 0) ∧ Below w.heap.size w w' by
    have h := Check_any A n c l w (by unfold maxLen; omega) hl hf
    rw [hE] at h
    exact h)
  have HO := hide (fun W => show Calls Tryd.prog 8 #[.int .i64 form, .int .i64 1, .int .i64 3] W fun e w' => e = .returned (.bool false) ∧ W = w' by
    have h := outside_any form 1 3 W
    rw [show outsideB form 1 3 = false by rcases hform with rfl | rfl | rfl <;> decide] at h
    exact h)
  obtain ⟨RB, hRB⟩ : ∃ RB : ByteArray, ⟨(writeR l form).1.toArray⟩ = RB := ⟨_, rfl⟩
  obtain ⟨RI, hRI⟩ : ∃ RI : Int, (writeR l form).2 = RI := ⟨_, rfl⟩
  rw [hRB, hRI]
  have HRB := hide hRB
  have HRI := hide hRI
  have HFM := hide hform
  clear hl hf hgood ht hE hRB hRI hform
  go_enter Tryd.func4, Tryd.ntmps4
  go_wp2_with (first | (go_at_call 7; refine HC.out.mono ?_; rintro r w0 ⟨rfl, hB0⟩) | (go_at_call 8; refine (HO.out _).mono ?_; rintro e w' ⟨rfl, rfl⟩))
  go_loopw [21] (fun i wr => ∃ k : Nat, k ≤ n ∧ i = .int .i64 k ∧ (∀ x ∈ l.take k, bangF x = false) ∧ Below w.heap.size w wr) (fun i _ => n - (intOf i).toNat)
  case atStart => exact ⟨0, Nat.zero_le _, rfl, by simp, hB0⟩
  case round =>
    obtain ⟨k, hk, rfl, hno, hB⟩ := hrel
    have HNO := hide hno
    have hz := hB.size
    clear hno
    by_cases hlt : k < n
    · obtain ⟨bb, oo, x, rfl, hbb, hx, hc⟩ := (HSL.out.below hB).at_ hlt
      have hg := (HGD.out x (List.mem_of_getElem? hx)).below hB
      obtain ⟨AX, hAX⟩ : ∃ AX, x.A = AX := ⟨_, rfl⟩
      have c0 : wr.cell? ⟨bb, oo + k * 3, none⟩ = some (.string x.kind) := by simpa using hc 0 _ rfl
      have c1 : wr.cell? ⟨bb, oo + k * 3 + 1, none⟩ = some (.string x.text) := hc 1 _ rfl
      have c2 : wr.cell? ⟨bb, oo + k * 3 + 2, none⟩ = some (.slice AX x.n x.cap) := hAX ▸ hc 2 _ rfl
      have HG := hide hg
      have HX := hide hx
      have HAX := hide hAX
      have hxn := hg.n
      have hxc := hg.nc
      have hBA := hB.alloc hz (.cells #[.string x.kind, .string x.text, .slice AX x.n x.cap] 33)
      clear hc hg hx hAX
      go_wp2_with (fail)
      obtain ⟨wo, rfl⟩ : ∃ wo : World, wo = wr := ⟨_, rfl⟩
      go_loopw [28] (fun i wr => ∃ j : Nat, j ≤ x.n ∧ i = .int .i64 j ∧ (∀ y ∈ x.frs.take j, bangX y = false) ∧ Below w.heap.size w wr) (fun i _ => x.n - (intOf i).toNat)
      case atStart => exact ⟨0, Nat.zero_le _, rfl, by simp, hBA⟩
      case round =>
        obtain ⟨j, hj, rfl, hnj, hBj⟩ := hrel
        have HNJ := hide hnj
        have hzj := hBj.size
        clear hnj
        by_cases hlt2 : j < x.n
        · obtain ⟨fb, fo, y, hA, hfb, hy, hcf⟩ := ((HGD.out x (List.mem_of_getElem? HX.out)).sl.below hBj).at_ hlt2
          have hA' := HAX.out.symm.trans hA
          subst hA'
          clear hA
          have c0 : wr.cell? ⟨fb, fo + j * 6, none⟩ = some (.string y.mod) := by simpa using hcf 0 _ rfl
          have c1 : wr.cell? ⟨fb, fo + j * 6 + 1, none⟩ = some (.string y.fn) := hcf 1 _ rfl
          have c2 : wr.cell? ⟨fb, fo + j * 6 + 2, none⟩ = some (.string y.file) := hcf 2 _ rfl
          have c3 : wr.cell? ⟨fb, fo + j * 6 + 3, none⟩ = some (.int .i64 y.line) := hcf 3 _ rfl
          have c4 : wr.cell? ⟨fb, fo + j * 6 + 4, none⟩ = some (.int .i64 y.addr) := hcf 4 _ rfl
          have c5 : wr.cell? ⟨fb, fo + j * 6 + 5, none⟩ = some (.bool y.own) := hcf 5 _ rfl
          have HY := hide hy
          have hBC := hBj.alloc hzj (.cells #[.string y.mod, .string y.fn, .string y.file, .int .i64 y.line, .int .i64 y.addr, .bool y.own] 35)
          have HF := hide (fun W => Contains_bang y.fn W)
          have HM := hide (fun W => Contains_bang y.mod W)
          have hbx : bangX y = (bangS y.fn || bangS y.mod) := rfl
          have HBX := hide hbx
          clear hcf hy hbx
          cases h1 : bangS y.fn
          · cases h2 : bangS y.mod
            · have HNB := hide (show bangX y = false by rw [HBX.out, h1, h2]; rfl)
              rw [h1] at HF
              rw [h2] at HM
              clear h1 h2
              go_wp2_with (first | (go_at_call_of 9 (Value.string y.fn); refine (HF.out _).mono ?_; rintro e w' ⟨rfl, rfl⟩) | (go_at_call_of 9 (Value.string y.mod); refine (HM.out _).mono ?_; rintro e w' ⟨rfl, rfl⟩))
              go_roundw
              case rel => exact ⟨j + 1, by omega, by go_num, take_all_snoc HNJ.out HY.out HNB.out, hBC⟩
              case measure => simp [intOf]; omega
            · have HNB := hide (show banged l = true from banged_hit HX.out HY.out (by rw [HBX.out, h1, h2]; rfl))
              rw [h1] at HF
              rw [h2] at HM
              clear h1 h2
              have HE := hide (show writeR l form = ([], 9) by rw [writeR, if_pos HNB.out])
              go_wp2_with (first | (go_at_call_of 9 (Value.string y.fn); refine (HF.out _).mono ?_; rintro e w' ⟨rfl, rfl⟩) | (go_at_call_of 9 (Value.string y.mod); refine (HM.out _).mono ?_; rintro e w' ⟨rfl, rfl⟩))
              go_ret2
              exact ⟨by rw [← HRB.out, ← HRI.out, HE.out]; rfl, hBC⟩
          · have HNB := hide (show banged l = true from banged_hit HX.out HY.out (by rw [HBX.out, h1]; rfl))
            rw [h1] at HF
            clear h1
            have HE := hide (show writeR l form = ([], 9) by rw [writeR, if_pos HNB.out])
            go_wp2_with (go_at_call 9; refine (HF.out _).mono ?_; rintro e w' ⟨rfl, rfl⟩)
            go_ret2
            exact ⟨by rw [← HRB.out, ← HRI.out, HE.out]; rfl, hBC⟩
        · obtain rfl : j = x.n := by omega
          have HNB := hide (show bangF x = false from bangF_none (by rw [HG.out.sl.len]; exact HNJ.out))
          go_wp2_with (fail)
          go_roundw
          case rel => exact ⟨k + 1, by omega, by go_num, take_all_snoc HNO.out HX.out HNB.out, hBj⟩
          case measure => simp [intOf]; omega
    · obtain rfl : k = n := by omega
      have HBG := hide (show banged l = false from banged_none (fun x hx => HNO.out x (by rw [take_len l (by rw [HL.out]; exact Nat.le_refl _)]; exact hx)))
      obtain ⟨RL, hRL⟩ : ∃ RL, writtenL l form = RL := ⟨_, rfl⟩
      have HRL := hide hRL
      have hW : writeR l form = if 1000000 < RL.length then ([], 4) else (RL, 0) := by rw [writeR, if_neg (by rw [HBG.out]; decide), hRL]
      have HWR := hide hW
      have hnew : ∀ T, (wr.alloc (.cells #[.pointer none, .slice none 0 0] T)).heap[wr.heap.size]? = some (.cells #[.pointer none, .slice none 0 0] T (0, 0)) := fun T => heap_alloc_new wr _
      have HBL := hide (show Bld w.heap.size wr.heap.size [] (wr.alloc (.cells #[.pointer none, .slice none 0 0] 40)) from .inl ⟨hz, .slice none 0 0, hnew _, World.ownsRow_nil _ _ _ _, by simp [Value.ownBlock]⟩)
      have HBA := hide (hB.alloc hz (.cells #[.pointer none, .slice none 0 0] 40))
      have HLE := hide (show ∀ W, Bld w.heap.size wr.heap.size (Lib.byteCells RL) W → Calls Tryd.prog 13 #[.pointer (some ⟨wr.heap.size, 0, none⟩)] W fun e w' => e = .returned (.int .i64 RL.length) ∧ w' = W from fun W h => by
        have h2 := Tryd.Builder_Len w.heap.size wr.heap.size _ W h
        rw [bytes_len] at h2
        exact h2)
      obtain ⟨NL, hNL⟩ : ∃ NL, RL.length = NL := ⟨_, rfl⟩
      have HNL := hide hNL
      rw [hNL] at HLE HWR
      have HST := hide (fun W (h : Bld w.heap.size wr.heap.size (Lib.byteCells RL) W) => Tryd.Builder_String_any w.heap.size wr.heap.size RL W h)
      have HTS := hide (HT.out.below HBA.out)
      have HSS := hide (HSL.out.below HBA.out)
      have HGG := hide (fun x hx => (HGD.out x hx).below HBA.out)
      have HWI := hide (fun W h h2 h3 h4 h5 => writeInner_any w.heap.size wr.heap.size A k c l W h h2 hn hnc h3 h4 h5)
      have HWO := hide (fun W h h2 h3 h4 h5 => writeOuter_any w.heap.size wr.heap.size A k c l W h h2 hn hnc h3 h4 h5)
      have HWP := hide (fun W h h2 h3 h4 h5 => writePairs_any w.heap.size wr.heap.size A k c l W h h2 hn hnc h3 h4 h5)
      clear hnew hRL hNL hW
      rcases HFM.out with rfl | rfl | rfl
      · go_wp2_with (fail)
        refine (HWI.out _ HBL.out HBA.out.size HSS.out HGG.out HTS.out).mono ?_
        rintro r w1 ⟨rfl, hb1, hw1⟩
        rw [show (List.range l.length).flatMap (innerAt l) = RL from HRL.out] at hb1
        have HB1 := hide hb1; have hB1 : Below w.heap.size w w1 := HBA.out.trans hw1; clear hb1 hw1; by_cases hbig : 1000000 < NL
        · have HE := hide (HWR.out.trans (if_pos hbig)); have hbi : (1000000 : Int) < (NL : Int) := by omega
          go_wp2_with (go_at_call 13; refine (HLE.out _ HB1.out).mono ?_; rintro r w2 ⟨rfl, rfl⟩)
          go_ret2
          exact ⟨by rw [← HRB.out, ← HRI.out, HE.out]; rfl, hB1⟩
        · have HE := hide (HWR.out.trans (if_neg hbig)); have hbi : decide ((1000000 : Int) < (NL : Int)) = false := by simp; omega
          have hbj : decide (1000000 < NL) = false := by simp; omega
          go_wp2_with (first | (go_at_call 13; refine (HLE.out _ HB1.out).mono ?_; rintro r w2 ⟨rfl, rfl⟩) | (go_at_call 14; refine (HST.out _ HB1.out hB1.size).mono ?_; rintro r w3 ⟨rfl, hw3⟩; have hB3 : Below w.heap.size w w3 := hB1.trans hw3))
          go_ret2
          exact ⟨by rw [← HRB.out, ← HRI.out, HE.out]; rfl, hB3⟩
      · go_wp2_with (fail)
        refine (HWO.out _ HBL.out HBA.out.size HSS.out HGG.out HTS.out).mono ?_
        rintro r w1 ⟨rfl, hb1, hw1⟩
        rw [show (List.range l.length).reverse.flatMap (outerAt l) = RL from HRL.out] at hb1
        have HB1 := hide hb1; have hB1 : Below w.heap.size w w1 := HBA.out.trans hw1; clear hb1 hw1; by_cases hbig : 1000000 < NL
        · have HE := hide (HWR.out.trans (if_pos hbig)); have hbi : (1000000 : Int) < (NL : Int) := by omega
          go_wp2_with (go_at_call 13; refine (HLE.out _ HB1.out).mono ?_; rintro r w2 ⟨rfl, rfl⟩)
          go_ret2
          exact ⟨by rw [← HRB.out, ← HRI.out, HE.out]; rfl, hB1⟩
        · have HE := hide (HWR.out.trans (if_neg hbig)); have hbi : decide ((1000000 : Int) < (NL : Int)) = false := by simp; omega
          have hbj : decide (1000000 < NL) = false := by simp; omega
          go_wp2_with (first | (go_at_call 13; refine (HLE.out _ HB1.out).mono ?_; rintro r w2 ⟨rfl, rfl⟩) | (go_at_call 14; refine (HST.out _ HB1.out hB1.size).mono ?_; rintro r w3 ⟨rfl, hw3⟩; have hB3 : Below w.heap.size w w3 := hB1.trans hw3))
          go_ret2
          exact ⟨by rw [← HRB.out, ← HRI.out, HE.out]; rfl, hB3⟩
      · go_wp2_with (fail)
        refine (HWP.out _ HBL.out HBA.out.size HSS.out HGG.out HTS.out).mono ?_
        rintro r w1 ⟨rfl, hb1, hw1⟩
        rw [show (List.range l.length).flatMap (pairAt l) = RL from HRL.out] at hb1
        have HB1 := hide hb1; have hB1 : Below w.heap.size w w1 := HBA.out.trans hw1; clear hb1 hw1; by_cases hbig : 1000000 < NL
        · have HE := hide (HWR.out.trans (if_pos hbig)); have hbi : (1000000 : Int) < (NL : Int) := by omega
          go_wp2_with (go_at_call 13; refine (HLE.out _ HB1.out).mono ?_; rintro r w2 ⟨rfl, rfl⟩)
          go_ret2
          exact ⟨by rw [← HRB.out, ← HRI.out, HE.out]; rfl, hB1⟩
        · have HE := hide (HWR.out.trans (if_neg hbig)); have hbi : decide ((1000000 : Int) < (NL : Int)) = false := by simp; omega
          have hbj : decide (1000000 < NL) = false := by simp; omega
          go_wp2_with (first | (go_at_call 13; refine (HLE.out _ HB1.out).mono ?_; rintro r w2 ⟨rfl, rfl⟩) | (go_at_call 14; refine (HST.out _ HB1.out hB1.size).mono ?_; rintro r w3 ⟨rfl, hw3⟩; have hB3 : Below w.heap.size w w3 := hB1.trans hw3))
          go_ret2
          exact ⟨by rw [← HRB.out, ← HRI.out, HE.out]; rfl, hB3⟩
set_option maxHeartbeats 1000000 in
theorem Write_err (A : Option Addr) (n c : Nat) (l : List FaultT) (form : Int) (w : World) (E : Int) (hE : fltsErr l = E) (h0 : E ≠ 0) (hn : n ≤ maxLen) (hl : Sl w w.heap.size FaultT.cs 3 A n l) (hf : FaultsOk w l) :
    Calls Tryd.prog 4 #[.slice A n c, .int .i64 form] w fun e w' => e = .returned (.tuple #[.string ⟨#[]⟩, .int .i64 E]) ∧ Below w.heap.size w w' := by
  subst hE
  have C := hide (Check_any A n c l w hn hl hf)
  obtain ⟨E, hE⟩ : ∃ E, fltsErr l = E := ⟨_, rfl⟩
  rw [hE] at C h0 ⊢
  have h0' : (E == 0) = false := by simpa using h0
  clear hn hE
  go_enter Tryd.func4, Tryd.ntmps4
  go_wp2_with (go_at_call 7; refine C.out.mono ?_; rintro r w0 ⟨rfl, hB0⟩)
  go_ret2
  exact ⟨rfl, hB0⟩
set_option maxHeartbeats 1000000 in
theorem Write_kind (A : Option Addr) (n c : Nat) (l : List FaultT) (form : Int) (w : World) (hE : fltsErr l = 0) (ho : outsideB form 1 3 = true) (hn : n ≤ maxLen) (hl : Sl w w.heap.size FaultT.cs 3 A n l) (hf : FaultsOk w l) :
    Calls Tryd.prog 4 #[.slice A n c, .int .i64 form] w fun e w' => e = .returned (.tuple #[.string ⟨#[]⟩, .int .i64 10]) ∧ Below w.heap.size w w' := by
  have C := hide (Check_any A n c l w hn hl hf)
  rw [hE] at C
  have O := hide (fun W => outside_any form 1 3 W)
  rw [ho] at O
  clear hn hE ho
  go_enter Tryd.func4, Tryd.ntmps4
  go_wp2_with (first | (go_at_call 7; refine C.out.mono ?_; rintro r w0 ⟨rfl, hB0⟩) | (go_at_call 8; refine (O.out _).mono ?_; rintro e w' ⟨rfl, rfl⟩))
  go_ret2
  exact ⟨rfl, hB0⟩
end Go.Proofs.YtnlliddfljogjaaDoor
