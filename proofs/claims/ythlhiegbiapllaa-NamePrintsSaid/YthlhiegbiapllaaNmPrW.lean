/- Walks of the program's printTypes, printParts, printType (printed by gen_nw.py). -/
import Derived.Test.YthlhiegbiapllaaNmPrT
namespace Go.Proofs.Ythlhiegbiapllaa
open Go.RowKit
set_option linter.unusedVariables false
set_option linter.unusedSimpArgs false
def pTyOk (f : Nat) : Prop := ∀ (k : Nat) (t : Ty) (cs : List Value) (B b : Nat) (L : List UInt8) (w : World), TyIn w B k t cs → Good f t → cnt f t ≤ 500 → Bld B b (Lib.byteCells L) w → B ≤ w.heap.size → L.length + 4000000 * f ≤ 100000000 →
  Calls Try.prog 68 #[.pointer (some ⟨b, 0, none⟩), .agg cs.toArray] w fun e w' => e = .returned (.tuple #[]) ∧ Bld B b (Lib.byteCells (L ++ prT f t)) w' ∧ Below B w w' ∧ KeptBut b w w'
def pTysOk (f : Nat) : Prop := ∀ (k : Nat) (A : Option Addr) (n cap : Nat) (l : List Ty) (B b : Nat) (L : List UInt8) (w : World), n ≤ cap → cap ≤ maxLen → n ≤ 21 → Tys w B k A n l → GoodTys f l → cntTys f l ≤ 500 → Bld B b (Lib.byteCells L) w → B ≤ w.heap.size → L.length + 4000000 * f + 1000000 ≤ 100000000 →
  Calls Try.prog 41 #[.pointer (some ⟨b, 0, none⟩), .slice A n cap] w fun e w' => e = .returned (.tuple #[]) ∧ Bld B b (Lib.byteCells (L ++ prTys (prT f) l)) w' ∧ Below B w w' ∧ KeptBut b w w'
def pPartsOk (f : Nat) : Prop := ∀ (k : Nat) (A : Option Addr) (n cap : Nat) (l : List Part) (B b : Nat) (L : List UInt8) (w : World), n ≤ cap → cap ≤ maxLen → n ≤ 20 → Parts w B k A n l → GoodParts f l → cntParts f l ≤ 500 → Bld B b (Lib.byteCells L) w → B ≤ w.heap.size → L.length + 4000000 * f + 2000000 ≤ 100000000 →
  Calls Try.prog 39 #[.pointer (some ⟨b, 0, none⟩), .slice A n cap] w fun e w' => e = .returned (.tuple #[]) ∧ Bld B b (Lib.byteCells (L ++ prName (prT f) l)) w' ∧ Below B w w' ∧ KeptBut b w w'
theorem bld_lt {B b : Nat} {l : List Value} {w : World} (h : Bld B b l w) : b < w.heap.size := by
  rcases h with h | h
  · exact h.lt
  · exact h.lt
theorem sepL_snoc (c : List UInt8) (l : List (List UInt8)) (x : List UInt8) : sepL c (l ++ [x]) = sepL c l ++ (if l.length = 0 then [] else c) ++ x := by
  cases l with
  | nil => simp [sepL]
  | cons y r => simp [sepL]
theorem prTys_snoc {f : Nat} {l : List Ty} {j : Nat} {t : Ty} (h : l[j]? = some t) : prTys (prT f) (l.take (j + 1)) = prTys (prT f) (l.take j) ++ (if j = 0 then [] else [44, 32]) ++ prT f t := by
  have hj : j < l.length := (List.getElem?_eq_some_iff.1 h).1
  unfold prTys
  rw [take_succ_get h, List.map_append, List.map_singleton, sepL_snoc]
  rw [List.length_map, List.length_take, Nat.min_eq_left (by omega)]
theorem prName_snoc {f : Nat} {l : List Part} {j : Nat} {p : Part} (h : l[j]? = some p) : prName (prT f) (l.take (j + 1)) = prName (prT f) (l.take j) ++ (if j = 0 then [] else [46]) ++ prPart (prT f) p := by
  have hj : j < l.length := (List.getElem?_eq_some_iff.1 h).1
  unfold prName
  rw [take_succ_get h, List.map_append, List.map_singleton, sepL_snoc]
  rw [List.length_map, List.length_take, Nat.min_eq_left (by omega)]
theorem cntTys_take (f : Nat) (l : List Ty) (j : Nat) : cntTys f (l.take j) ≤ cntTys f l := by
  conv => rhs; rw [← List.take_append_drop j l]
  rw [cntTys_append]; omega
theorem cntParts_take (f : Nat) (l : List Part) (j : Nat) : cntParts f (l.take j) ≤ cntParts f l := by
  have h : ∀ a b : List Part, cntParts f (a ++ b) = cntParts f a + cntParts f b := fun a b => by simp [cntParts, sumN]
  conv => rhs; rw [← List.take_append_drop j l]
  rw [h]; omega
theorem goodTys_take {f : Nat} {l : List Ty} (h : GoodTys f l) (j : Nat) : GoodTys f (l.take j) := fun x hx => h x (List.mem_of_mem_take hx)
theorem goodParts_take {f : Nat} {l : List Part} (h : GoodParts f l) (j : Nat) : GoodParts f (l.take j) := fun x hx => h x (List.mem_of_mem_take hx)

theorem write_bytes (B b : Nat) (L : List UInt8) (s : ByteArray) (w : World) (h : Bld B b (Lib.byteCells L) w) (hB : B ≤ w.heap.size) (hl : L.length + s.size ≤ 140737488355328) :
    Calls Try.prog 40 #[.pointer (some ⟨b, 0, none⟩), .string s] w fun e w' => e = .returned (.tuple #[.int .i64 s.size, .nilIface]) ∧ Bld B b (Lib.byteCells (L ++ s.data.toList)) w' ∧ Below B w w' ∧ KeptBut b w w' := by
  have := WriteString_any B b (Lib.byteCells L) s w h (by rw [bytes_len]; exact hl) hB
  rw [strCells_eq, bytes_app] at this
  exact this

set_option maxRecDepth 100000 in
set_option maxHeartbeats 8000000 in
theorem pTys_of {f : Nat} (H : pTyOk f) : pTysOk f := by
  intro k A n cap l B b L w hnc hcm hn hl hg hc5 hb hBw hLL
  unfold maxLen at hcm
  have HL := hide hl.len
  have HSL := hide hl
  have HG := hide hg
  have HH := hide H
  have HB := hide hb
  have HCM := hide (fun t (ht : t ∈ l) => Nat.le_trans (cnt_mem (f := f) ht) hc5)
  have HLN := hide (fun j => Nat.le_trans (prTys_len (f := f) (l := l.take j) (fun x hx => prT_len f x (goodTys_take hg j x hx))) (Nat.mul_le_mul_left 1400 (Nat.le_trans (cntTys_take f l j) hc5)))
  clear hl hg H hb hc5
  go_enter Try.func41, Try.ntmps41
  go_wp2_with (fail)
  go_loopw [8] (fun i wr => ∃ j : Nat, j ≤ n ∧ i = .int .i64 j ∧ Bld B b (Lib.byteCells (L ++ prTys (prT f) (l.take j))) wr ∧ Below B w wr ∧ KeptBut b w wr) (fun i _ => n - (intOf i).toNat)
  case atStart => exact ⟨0, Nat.zero_le _, rfl, by simpa [prTys, sepL] using HB.out, Below.refl _ _, KeptBut.refl _ _⟩
  case round =>
    obtain ⟨j, hj, rfl, hbl, hB, hkp⟩ := hrel
    have hz := Nat.le_trans hBw hB.size
    have hbw := bld_lt hbl
    have HKP := hide hkp
    clear hkp
    by_cases hlt : j < n
    · obtain ⟨o, q, t, cs, rfl, hq, ht, hin, hcs⟩ := (tys_below HSL.out hB).at_ hlt
      have HT := hide ht
      have hm := List.mem_of_getElem? ht
      have hlj := HLN.out j
      obtain ⟨L1, hL1⟩ : ∃ L1, L ++ prTys (prT f) (l.take j) = L1 := ⟨_, rfl⟩
      have hl1 : L1.length ≤ L.length + 700000 := by rw [← hL1, List.length_append]; omega
      rw [hL1] at hbl
      have HL1 := hide hL1
      have HBL := hide hbl
      have HO := hide (fun (L' : List UInt8) (W : World) (h : Below B wr W) h2 (h3 : B ≤ W.heap.size) h4 => HH.out k t cs B b L' W (hin.below h) (HG.out t hm) (HCM.out t hm) h2 h3 h4)
      cases k with
      | zero => exact hin.elim
      | succ k =>
      obtain ⟨A1, n1, cap1, A2, n2, cap2, rfl, _⟩ := hin
      have c0 : wr.cell? ⟨o, q + j * 3, none⟩ = some (.int .i64 t.kind) := by simpa using hcs 0 _ rfl
      have c1 : wr.cell? ⟨o, q + j * 3 + 1, none⟩ = some (.slice A1 n1 cap1) := hcs 1 _ rfl
      have c2 : wr.cell? ⟨o, q + j * 3 + 2, none⟩ = some (.slice A2 n2 cap2) := hcs 2 _ rfl
      have HX := hide (heap_alloc_new wr (.cells #[.int .i64 t.kind, .slice A1 n1 cap1, .slice A2 n2 cap2] 52))
      have HA := hide (fun ob : Obj => show Below wr.heap.size wr (wr.alloc ob) from (Below.refl _ _).alloc (Nat.le_refl _) ob)
      clear hcs ht hm hL1 hbl hlj
      by_cases hj0 : j = 0
      · have hk1 : ¬ (0 < j) := by omega
        have hk2 : decide (0 < j) = false := by simp; omega
        have hk3 : decide ((0 : Int) < (j : Int)) = false := by simp; omega
        have HST := hide (show L ++ prTys (prT f) (l.take (j + 1)) = L1 ++ prT f t by rw [prTys_snoc HT.out, if_pos hj0, ← HL1.out]; simp)
        clear hj0
        go_wp2_with (go_at_call 68; refine (HO.out L1 _ ((HA.out _).mono hz) (bld_below HBL.out (HA.out _)) (by simp; omega) (by omega)).mono ?_; rintro e w2 ⟨rfl, hb2, hw2, hk2w⟩; have HB2 := hide hb2; have hB2 : Below B w w2 := hB.trans (((HA.out _).mono hz).trans hw2); have HK2 := hide (HKP.out.trans ((KeptBut.of_below (HA.out _)).trans hk2w)); clear hb2 hw2 hk2w)
        go_roundw
        case rel => exact ⟨j + 1, by omega, by go_num, by rw [HST.out]; exact HB2.out, hB2, HK2.out⟩
        case measure => simp [intOf]; omega
      · have hk1 : 0 < j := by omega
        have hk3 : (0 : Int) < (j : Int) := by omega
        have HST := hide (show L ++ prTys (prT f) (l.take (j + 1)) = L1 ++ [44, 32] ++ prT f t by rw [prTys_snoc HT.out, if_neg hj0, ← HL1.out]; simp)
        have h2 : (⟨#[44, 32]⟩ : ByteArray).size = 2 := rfl
        clear hj0
        go_wp2_with (first | (go_at_call 40; refine (write_bytes B b L1 _ _ (bld_below HBL.out (HA.out _)) (by simp; omega) (by omega)).mono ?_; rintro e w1 ⟨rfl, hb1, hw1, hk1w⟩; have HB1 := hide hb1; have hB1 : Below B wr w1 := ((HA.out _).mono hz).trans hw1; have HK1 := hide ((KeptBut.of_below (HA.out _)).trans hk1w); have hx1 := hk1w _ _ _ _ HX.out (by decide) (by omega); have x0 : w1.cell? ⟨wr.heap.size, 0, none⟩ = some (.int .i64 t.kind) := (block_cell hx1 0).trans rfl; have x1 : w1.cell? ⟨wr.heap.size, 1, none⟩ = some (.slice A1 n1 cap1) := (block_cell hx1 1).trans rfl; have x2 : w1.cell? ⟨wr.heap.size, 2, none⟩ = some (.slice A2 n2 cap2) := (block_cell hx1 2).trans rfl; clear hb1 hw1 hk1w hx1) | (go_at_call 68; refine (HO.out (L1 ++ [44, 32]) _ hB1 HB1.out (Nat.le_trans hz hB1.size) (by rw [List.length_append]; simp only [List.length_cons, List.length_nil]; omega)).mono ?_; rintro e w2 ⟨rfl, hb2, hw2, hk2w⟩; have HB2 := hide hb2; have hB2 : Below B w w2 := hB.trans (hB1.trans hw2); have HK2 := hide (HKP.out.trans (HK1.out.trans hk2w)); clear hb2 hw2 hk2w))
        go_roundw
        case rel => exact ⟨j + 1, by omega, by go_num, by rw [HST.out]; exact HB2.out, hB2, HK2.out⟩
        case measure => simp [intOf]; omega
    · obtain rfl : j = n := by omega
      have htk : l.take j = l := take_len l (by rw [HL.out]; exact Nat.le_refl _)
      rw [htk] at hbl
      have HBL := hide hbl
      clear hbl htk
      go_wp2_with (fail)
      go_end0
      exact ⟨rfl, HBL.out, hB, HKP.out⟩

set_option maxRecDepth 100000 in
set_option maxHeartbeats 16000000 in
theorem pParts_of {f : Nat} (H : pTysOk f) : pPartsOk f := by
  intro k A n cap l B b L w hnc hcm hn hl hg hc5 hb hBw hLL
  unfold maxLen at hcm
  have HL := hide hl.len
  have HSL := hide hl
  have HG := hide hg
  have HH := hide H
  have HB := hide hb
  have HCM := hide (fun p (hp : p ∈ l) => Nat.le_trans (cntTys_mem (f := f) hp) hc5)
  have HLN := hide (fun j (hj : j ≤ n) => show (prName (prT f) (l.take j)).length ≤ 1280 + 1400 * 500 from Nat.le_trans (prName_len (f := f) (l := l.take j) (fun p hp => ⟨(goodParts_take hg j p hp).1, fun x hx => prT_len f x ((goodParts_take hg j p hp).2.2 x hx)⟩) (by rw [List.length_take]; omega)) (Nat.add_le_add_left (Nat.mul_le_mul_left 1400 (Nat.le_trans (cntParts_take f l j) hc5)) _))
  clear hl hg H hb hc5
  go_enter Try.func39, Try.ntmps39
  go_wp2_with (fail)
  go_loopw [8] (fun i wr => ∃ j : Nat, j ≤ n ∧ i = .int .i64 j ∧ Bld B b (Lib.byteCells (L ++ prName (prT f) (l.take j))) wr ∧ Below B w wr ∧ KeptBut b w wr) (fun i _ => n - (intOf i).toNat)
  case atStart => exact ⟨0, Nat.zero_le _, rfl, by simpa [prName, sepL] using HB.out, Below.refl _ _, KeptBut.refl _ _⟩
  case round =>
    obtain ⟨j, hj, rfl, hbl, hB, hkp⟩ := hrel
    have hz := Nat.le_trans hBw hB.size
    have hbw := bld_lt hbl
    have HKP := hide hkp
    clear hkp
    by_cases hlt : j < n
    · obtain ⟨o, q, p, cs, rfl, hq, hp, hin, hcs⟩ := (parts_below HSL.out hB).at_ hlt
      have HP := hide hp
      have hm := List.mem_of_getElem? hp
      obtain ⟨g1, g2, g3⟩ := HG.out p hm
      have hcp := HCM.out p hm
      have hlj := HLN.out j hj
      obtain ⟨A1, n1, cap1, rfl, hps, hn1, hc1, hts⟩ := hin
      obtain ⟨tx, ar⟩ := p
      simp only at g1 g2 g3 hcp hts
      obtain ⟨L1, hL1⟩ : ∃ L1, L ++ prName (prT f) (l.take j) = L1 := ⟨_, rfl⟩
      have hl1 : L1.length ≤ L.length + 710000 := by rw [← hL1, List.length_append]; omega
      rw [hL1] at hbl
      have HL1 := hide hL1
      have HBL := hide hbl
      have hal := hts.len
      have HO := hide (fun (L' : List UInt8) (W : World) (h : Below B wr W) h2 (h3 : B ≤ W.heap.size) h4 => HH.out k A1 n1 cap1 ar B b L' W hn1 hc1 (by omega) (tys_below hts h) g3 hcp h2 h3 h4)
      have HPL := hide (Nat.le_trans (prTys_len (f := f) (l := ar) (fun x hx => prT_len f x (g3 x hx))) (Nat.mul_le_mul_left 1400 hcp))
      have c0 : wr.cell? ⟨o, q + j * 2, none⟩ = some (.string tx) := by simpa using hcs 0 _ rfl
      have c1 : wr.cell? ⟨o, q + j * 2 + 1, none⟩ = some (.slice A1 n1 cap1) := hcs 1 _ rfl
      have HX := hide (heap_alloc_new wr (.cells #[.string tx, .slice A1 n1 cap1] 55))
      have HA := hide (fun ob : Obj => show Below wr.heap.size wr (wr.alloc ob) from (Below.refl _ _).alloc (Nat.le_refl _) ob)
      have HAL := hide hal
      unfold maxLen at hps hc1
      clear hcs hp hm hL1 hbl hlj hts hal g3
      obtain ⟨J, hJ⟩ : ∃ J : List UInt8, (if j = 0 then [] else [46]) = J := ⟨_, rfl⟩
      have hJl : J.length ≤ 1 := by rw [← hJ]; split <;> simp
      have HJJ := hide hJ
      have HST0 := hide (show L ++ prName (prT f) (l.take (j + 1)) = L1 ++ J ++ prPart (prT f) (tx, ar) by rw [prName_snoc HP.out, hJ, ← HL1.out]; simp)
      clear hJ
      by_cases hj0 : j = 0
      · by_cases hn0 : n1 = 0
        · have hk1 : ¬ (0 < j) := by omega
          have hk2 : decide (0 < j) = false := by simp; omega
          have hk3 : decide ((0 : Int) < (j : Int)) = false := by simp; omega
          have HJ0 := hide (show J = [] by rw [← HJJ.out, if_pos hj0])
          have HBX := hide (fun ob : Obj => bld_below (HBL.out) (HA.out ob))
          have h1 : (⟨#[46]⟩ : ByteArray).size = 1 := rfl
          have h60 : (⟨#[60]⟩ : ByteArray).size = 1 := rfl
          have h62 : (⟨#[62]⟩ : ByteArray).size = 1 := rfl
          have har : ar = [] := List.length_eq_zero_iff.1 (by rw [HAL.out]; exact hn0)
          have HST := hide (show L ++ prName (prT f) (l.take (j + 1)) = L1 ++ J ++ tx.data.toList by rw [HST0.out]; unfold prPart; rw [if_pos (by show ar.length = 0; rw [har]; rfl)]; simp)
          subst hn0
          clear har hj0
          go_wp2_with (fail)
          refine (write_bytes B b (L1) tx _ (bld_below HBL.out (HA.out _)) (by simp; omega) (by (try simp only [List.length_append, List.length_cons, List.length_nil]); (try simp only [Array.length_toList]); (try have hts : tx.data.size = tx.size := rfl); omega)).mono ?_
          rintro e w1 ⟨rfl, hb1, hw1, hk1w⟩
          have HB1 := hide hb1
          have hB1 : Below B wr w1 := ((HA.out _).mono hz).trans hw1
          have HK1 := hide ((KeptBut.of_below (HA.out _)).trans hk1w)
          have hx1 := hk1w _ _ _ _ HX.out (by decide) (by omega)
          have HX1 := hide hx1
          have x0_1 : w1.cell? ⟨wr.heap.size, 0, none⟩ = some (.string tx) := (block_cell hx1 0).trans rfl
          have x1_1 : w1.cell? ⟨wr.heap.size, 1, none⟩ = some (.slice A1 0 cap1) := (block_cell hx1 1).trans rfl
          clear hb1 hw1 hk1w hx1
          go_wp2_with (fail)
          go_roundw
          case rel => exact ⟨j + 1, by omega, by go_num, by rw [HST.out, HJ0.out]; (try rw [List.append_nil]); exact HB1.out, hB.trans hB1, HKP.out.trans HK1.out⟩
          case measure => simp [intOf]; omega
        · have hk1 : ¬ (0 < j) := by omega
          have hk2 : decide (0 < j) = false := by simp; omega
          have hk3 : decide ((0 : Int) < (j : Int)) = false := by simp; omega
          have HJ0 := hide (show J = [] by rw [← HJJ.out, if_pos hj0])
          have HBX := hide (fun ob : Obj => bld_below (HBL.out) (HA.out ob))
          have h1 : (⟨#[46]⟩ : ByteArray).size = 1 := rfl
          have h60 : (⟨#[60]⟩ : ByteArray).size = 1 := rfl
          have h62 : (⟨#[62]⟩ : ByteArray).size = 1 := rfl
          have HST := hide (show L ++ prName (prT f) (l.take (j + 1)) = L1 ++ J ++ tx.data.toList ++ [60] ++ prTys (prT f) ar ++ [62] by rw [HST0.out]; unfold prPart prTys; rw [if_neg (by show ¬ ar.length = 0; rw [HAL.out]; exact hn0)]; simp)
          have hnp : 0 < n1 := by omega
          have hnp1 : (0 : Int) < (n1 : Int) := by omega
          clear hn0 hj0
          go_wp2_with (fail)
          refine (write_bytes B b (L1) tx _ (bld_below HBL.out (HA.out _)) (by simp; omega) (by (try simp only [List.length_append, List.length_cons, List.length_nil]); (try simp only [Array.length_toList]); (try have hts : tx.data.size = tx.size := rfl); omega)).mono ?_
          rintro e w1 ⟨rfl, hb1, hw1, hk1w⟩
          have HB1 := hide hb1
          have hB1 : Below B wr w1 := ((HA.out _).mono hz).trans hw1
          have HK1 := hide ((KeptBut.of_below (HA.out _)).trans hk1w)
          have hx1 := hk1w _ _ _ _ HX.out (by decide) (by omega)
          have HX1 := hide hx1
          have x0_1 : w1.cell? ⟨wr.heap.size, 0, none⟩ = some (.string tx) := (block_cell hx1 0).trans rfl
          have x1_1 : w1.cell? ⟨wr.heap.size, 1, none⟩ = some (.slice A1 n1 cap1) := (block_cell hx1 1).trans rfl
          clear hb1 hw1 hk1w hx1
          go_wp2_with (fail)
          clear x0_1 x1_1
          refine (write_bytes B b (L1 ++ tx.data.toList) ⟨#[60]⟩ _ HB1.out (Nat.le_trans hz hB1.size) (by (try simp only [List.length_append, List.length_cons, List.length_nil]); (try simp only [Array.length_toList]); (try have hts : tx.data.size = tx.size := rfl); omega)).mono ?_
          rintro e w2 ⟨rfl, hb2, hw2, hk2w⟩
          have HB2 := hide hb2
          have hB2 : Below B wr w2 := hB1.trans hw2
          have HK2 := hide (HK1.out.trans hk2w)
          have hx2 := hk2w _ _ _ _ HX1.out (by decide) (by omega)
          have HX2 := hide hx2
          have x0_2 : w2.cell? ⟨wr.heap.size, 0, none⟩ = some (.string tx) := (block_cell hx2 0).trans rfl
          have x1_2 : w2.cell? ⟨wr.heap.size, 1, none⟩ = some (.slice A1 n1 cap1) := (block_cell hx2 1).trans rfl
          clear hb2 hw2 hk2w hx2
          go_wp2_with (fail)
          clear x0_2 x1_2
          have hpl := HPL.out
          refine (HO.out (L1 ++ tx.data.toList ++ (⟨#[60]⟩ : ByteArray).data.toList) _ hB2 HB2.out (Nat.le_trans hz hB2.size) (by (try simp only [List.length_append, List.length_cons, List.length_nil]); (try simp only [Array.length_toList]); (try have hts : tx.data.size = tx.size := rfl); omega)).mono ?_
          rintro e w3 ⟨rfl, hb3, hw3, hk3w⟩
          have HB3 := hide hb3
          have hB3 : Below B wr w3 := hB2.trans hw3
          have HK3 := hide (HK2.out.trans hk3w)
          have HX3 := hide (hk3w _ _ _ _ HX2.out (by decide) (by omega))
          clear hb3 hw3 hk3w
          go_wp2_with (fail)
          refine (write_bytes B b (L1 ++ tx.data.toList ++ (⟨#[60]⟩ : ByteArray).data.toList ++ prTys (prT f) ar) ⟨#[62]⟩ _ HB3.out (Nat.le_trans hz hB3.size) (by (try simp only [List.length_append, List.length_cons, List.length_nil]); (try simp only [Array.length_toList]); (try have hts : tx.data.size = tx.size := rfl); omega)).mono ?_
          rintro e w4 ⟨rfl, hb4, hw4, hk4w⟩
          have HB4 := hide hb4
          have hB4 : Below B wr w4 := hB3.trans hw4
          have HK4 := hide (HK3.out.trans hk4w)
          have hx4 := hk4w _ _ _ _ HX3.out (by decide) (by omega)
          have HX4 := hide hx4
          have x0_4 : w4.cell? ⟨wr.heap.size, 0, none⟩ = some (.string tx) := (block_cell hx4 0).trans rfl
          have x1_4 : w4.cell? ⟨wr.heap.size, 1, none⟩ = some (.slice A1 n1 cap1) := (block_cell hx4 1).trans rfl
          clear hb4 hw4 hk4w hx4
          go_wp2_with (fail)
          go_roundw
          case rel => exact ⟨j + 1, by omega, by go_num, by rw [HST.out, HJ0.out]; (try rw [List.append_nil]); exact HB4.out, hB.trans hB4, HKP.out.trans HK4.out⟩
          case measure => simp [intOf]; omega
      · by_cases hn0 : n1 = 0
        · have hk1 : 0 < j := by omega
          have hk3 : (0 : Int) < (j : Int) := by omega
          have HJ0 := hide (show J = [46] by rw [← HJJ.out, if_neg hj0])
          have h1 : (⟨#[46]⟩ : ByteArray).size = 1 := rfl
          have h60 : (⟨#[60]⟩ : ByteArray).size = 1 := rfl
          have h62 : (⟨#[62]⟩ : ByteArray).size = 1 := rfl
          have har : ar = [] := List.length_eq_zero_iff.1 (by rw [HAL.out]; exact hn0)
          have HST := hide (show L ++ prName (prT f) (l.take (j + 1)) = L1 ++ J ++ tx.data.toList by rw [HST0.out]; unfold prPart; rw [if_pos (by show ar.length = 0; rw [har]; rfl)]; simp)
          subst hn0
          clear har hj0
          go_wp2_with (fail)
          refine (write_bytes B b (L1) ⟨#[46]⟩ _ (bld_below HBL.out (HA.out _)) (by simp; omega) (by (try simp only [List.length_append, List.length_cons, List.length_nil]); (try simp only [Array.length_toList]); (try have hts : tx.data.size = tx.size := rfl); omega)).mono ?_
          rintro e w1 ⟨rfl, hb1, hw1, hk1w⟩
          have HB1 := hide hb1
          have hB1 : Below B wr w1 := ((HA.out _).mono hz).trans hw1
          have HK1 := hide ((KeptBut.of_below (HA.out _)).trans hk1w)
          have hx1 := hk1w _ _ _ _ HX.out (by decide) (by omega)
          have HX1 := hide hx1
          have x0_1 : w1.cell? ⟨wr.heap.size, 0, none⟩ = some (.string tx) := (block_cell hx1 0).trans rfl
          have x1_1 : w1.cell? ⟨wr.heap.size, 1, none⟩ = some (.slice A1 0 cap1) := (block_cell hx1 1).trans rfl
          clear hb1 hw1 hk1w hx1
          go_wp2_with (fail)
          clear x0_1 x1_1
          refine (write_bytes B b (L1 ++ (⟨#[46]⟩ : ByteArray).data.toList) tx _ HB1.out (Nat.le_trans hz hB1.size) (by (try simp only [List.length_append, List.length_cons, List.length_nil]); (try simp only [Array.length_toList]); (try have hts : tx.data.size = tx.size := rfl); omega)).mono ?_
          rintro e w2 ⟨rfl, hb2, hw2, hk2w⟩
          have HB2 := hide hb2
          have hB2 : Below B wr w2 := hB1.trans hw2
          have HK2 := hide (HK1.out.trans hk2w)
          have hx2 := hk2w _ _ _ _ HX1.out (by decide) (by omega)
          have HX2 := hide hx2
          have x0_2 : w2.cell? ⟨wr.heap.size, 0, none⟩ = some (.string tx) := (block_cell hx2 0).trans rfl
          have x1_2 : w2.cell? ⟨wr.heap.size, 1, none⟩ = some (.slice A1 0 cap1) := (block_cell hx2 1).trans rfl
          clear hb2 hw2 hk2w hx2
          go_wp2_with (fail)
          go_roundw
          case rel => exact ⟨j + 1, by omega, by go_num, by rw [HST.out, HJ0.out]; (try rw [List.append_nil]); exact HB2.out, hB.trans hB2, HKP.out.trans HK2.out⟩
          case measure => simp [intOf]; omega
        · have hk1 : 0 < j := by omega
          have hk3 : (0 : Int) < (j : Int) := by omega
          have HJ0 := hide (show J = [46] by rw [← HJJ.out, if_neg hj0])
          have h1 : (⟨#[46]⟩ : ByteArray).size = 1 := rfl
          have h60 : (⟨#[60]⟩ : ByteArray).size = 1 := rfl
          have h62 : (⟨#[62]⟩ : ByteArray).size = 1 := rfl
          have HST := hide (show L ++ prName (prT f) (l.take (j + 1)) = L1 ++ J ++ tx.data.toList ++ [60] ++ prTys (prT f) ar ++ [62] by rw [HST0.out]; unfold prPart prTys; rw [if_neg (by show ¬ ar.length = 0; rw [HAL.out]; exact hn0)]; simp)
          have hnp : 0 < n1 := by omega
          have hnp1 : (0 : Int) < (n1 : Int) := by omega
          clear hn0 hj0
          go_wp2_with (fail)
          refine (write_bytes B b (L1) ⟨#[46]⟩ _ (bld_below HBL.out (HA.out _)) (by simp; omega) (by (try simp only [List.length_append, List.length_cons, List.length_nil]); (try simp only [Array.length_toList]); (try have hts : tx.data.size = tx.size := rfl); omega)).mono ?_
          rintro e w1 ⟨rfl, hb1, hw1, hk1w⟩
          have HB1 := hide hb1
          have hB1 : Below B wr w1 := ((HA.out _).mono hz).trans hw1
          have HK1 := hide ((KeptBut.of_below (HA.out _)).trans hk1w)
          have hx1 := hk1w _ _ _ _ HX.out (by decide) (by omega)
          have HX1 := hide hx1
          have x0_1 : w1.cell? ⟨wr.heap.size, 0, none⟩ = some (.string tx) := (block_cell hx1 0).trans rfl
          have x1_1 : w1.cell? ⟨wr.heap.size, 1, none⟩ = some (.slice A1 n1 cap1) := (block_cell hx1 1).trans rfl
          clear hb1 hw1 hk1w hx1
          go_wp2_with (fail)
          clear x0_1 x1_1
          refine (write_bytes B b (L1 ++ (⟨#[46]⟩ : ByteArray).data.toList) tx _ HB1.out (Nat.le_trans hz hB1.size) (by (try simp only [List.length_append, List.length_cons, List.length_nil]); (try simp only [Array.length_toList]); (try have hts : tx.data.size = tx.size := rfl); omega)).mono ?_
          rintro e w2 ⟨rfl, hb2, hw2, hk2w⟩
          have HB2 := hide hb2
          have hB2 : Below B wr w2 := hB1.trans hw2
          have HK2 := hide (HK1.out.trans hk2w)
          have hx2 := hk2w _ _ _ _ HX1.out (by decide) (by omega)
          have HX2 := hide hx2
          have x0_2 : w2.cell? ⟨wr.heap.size, 0, none⟩ = some (.string tx) := (block_cell hx2 0).trans rfl
          have x1_2 : w2.cell? ⟨wr.heap.size, 1, none⟩ = some (.slice A1 n1 cap1) := (block_cell hx2 1).trans rfl
          clear hb2 hw2 hk2w hx2
          go_wp2_with (fail)
          clear x0_2 x1_2
          refine (write_bytes B b (L1 ++ (⟨#[46]⟩ : ByteArray).data.toList ++ tx.data.toList) ⟨#[60]⟩ _ HB2.out (Nat.le_trans hz hB2.size) (by (try simp only [List.length_append, List.length_cons, List.length_nil]); (try simp only [Array.length_toList]); (try have hts : tx.data.size = tx.size := rfl); omega)).mono ?_
          rintro e w3 ⟨rfl, hb3, hw3, hk3w⟩
          have HB3 := hide hb3
          have hB3 : Below B wr w3 := hB2.trans hw3
          have HK3 := hide (HK2.out.trans hk3w)
          have hx3 := hk3w _ _ _ _ HX2.out (by decide) (by omega)
          have HX3 := hide hx3
          have x0_3 : w3.cell? ⟨wr.heap.size, 0, none⟩ = some (.string tx) := (block_cell hx3 0).trans rfl
          have x1_3 : w3.cell? ⟨wr.heap.size, 1, none⟩ = some (.slice A1 n1 cap1) := (block_cell hx3 1).trans rfl
          clear hb3 hw3 hk3w hx3
          go_wp2_with (fail)
          clear x0_3 x1_3
          have hpl := HPL.out
          refine (HO.out (L1 ++ (⟨#[46]⟩ : ByteArray).data.toList ++ tx.data.toList ++ (⟨#[60]⟩ : ByteArray).data.toList) _ hB3 HB3.out (Nat.le_trans hz hB3.size) (by (try simp only [List.length_append, List.length_cons, List.length_nil]); (try simp only [Array.length_toList]); (try have hts : tx.data.size = tx.size := rfl); omega)).mono ?_
          rintro e w4 ⟨rfl, hb4, hw4, hk4w⟩
          have HB4 := hide hb4
          have hB4 : Below B wr w4 := hB3.trans hw4
          have HK4 := hide (HK3.out.trans hk4w)
          have HX4 := hide (hk4w _ _ _ _ HX3.out (by decide) (by omega))
          clear hb4 hw4 hk4w
          go_wp2_with (fail)
          refine (write_bytes B b (L1 ++ (⟨#[46]⟩ : ByteArray).data.toList ++ tx.data.toList ++ (⟨#[60]⟩ : ByteArray).data.toList ++ prTys (prT f) ar) ⟨#[62]⟩ _ HB4.out (Nat.le_trans hz hB4.size) (by (try simp only [List.length_append, List.length_cons, List.length_nil]); (try simp only [Array.length_toList]); (try have hts : tx.data.size = tx.size := rfl); omega)).mono ?_
          rintro e w5 ⟨rfl, hb5, hw5, hk5w⟩
          have HB5 := hide hb5
          have hB5 : Below B wr w5 := hB4.trans hw5
          have HK5 := hide (HK4.out.trans hk5w)
          have hx5 := hk5w _ _ _ _ HX4.out (by decide) (by omega)
          have HX5 := hide hx5
          have x0_5 : w5.cell? ⟨wr.heap.size, 0, none⟩ = some (.string tx) := (block_cell hx5 0).trans rfl
          have x1_5 : w5.cell? ⟨wr.heap.size, 1, none⟩ = some (.slice A1 n1 cap1) := (block_cell hx5 1).trans rfl
          clear hb5 hw5 hk5w hx5
          go_wp2_with (fail)
          go_roundw
          case rel => exact ⟨j + 1, by omega, by go_num, by rw [HST.out, HJ0.out]; (try rw [List.append_nil]); exact HB5.out, hB.trans hB5, HKP.out.trans HK5.out⟩
          case measure => simp [intOf]; omega
    · obtain rfl : j = n := by omega
      have htk : l.take j = l := take_len l (by rw [HL.out]; exact Nat.le_refl _)
      rw [htk] at hbl
      have HBL := hide hbl
      clear hbl htk
      go_wp2_with (fail)
      go_end0
      exact ⟨rfl, HBL.out, hB, HKP.out⟩

end Go.Proofs.Ythlhiegbiapllaa
