/- NmJoin, NmPrR, NmPrT, NmPrW, NmPrX, NmHas, NmPrY: texts of one's own, in one file. -/
import Derived.Test.YtocpmbpckbjepaaDoorNmText
import Derived.Test.YtocpmbpckbjepaaDoorStBld
import Derived.Test.YtocpmbpckbjepaaDoorNmGA
import Derived.Test.YtocpmbpckbjepaaDoorNmGC
import Derived.Test.YtocpmbpckbjepaaDoorNmSame
import Derived.Test.YtocpmbpckbjepaaDoorNmSymE
import Derived.Laws.EntriesVeiled
/- Walks of strings.Join at separators of one and of two bytes (printed by gen_nj.py). -/
namespace Go.Proofs.YtocpmbpckbjepaaDoor
open Go.RowKit
set_option linter.unusedVariables false
/-- Strings joined by a byte. -/
def joinL (c : UInt8) : List ByteArray → List UInt8
  | [] => []
  | x :: r => x.data.toList ++ r.flatMap fun y => c :: y.data.toList
def sumL (xs : List ByteArray) : Nat := (xs.map ByteArray.size).sum
theorem sumL_snoc (xs : List ByteArray) (x : ByteArray) : sumL (xs ++ [x]) = sumL xs + x.size := by simp [sumL]
theorem sumL_take (xs : List ByteArray) (k : Nat) : sumL (xs.take k) ≤ sumL xs := by
  have h : sumL (xs.take k ++ xs.drop k) = sumL (xs.take k) + sumL (xs.drop k) := by simp only [sumL, List.map_append, List.sum_append]
  rw [List.take_append_drop] at h
  omega
theorem joinL_snoc (c : UInt8) (xs : List ByteArray) (x : ByteArray) (h : xs ≠ []) : joinL c (xs ++ [x]) = joinL c xs ++ (c :: x.data.toList) := by
  cases xs with
  | nil => exact absurd rfl h
  | cons y r => simp [joinL]
theorem joinL_len (c : UInt8) : ∀ xs : List ByteArray, (joinL c xs).length ≤ sumL xs + xs.length
  | [] => by simp [joinL, sumL]
  | x :: r => by
    have : (r.flatMap fun y => c :: y.data.toList).length = sumL r + r.length := by
      induction r with
      | nil => rfl
      | cons y r ih => simp [List.flatMap_cons, sumL] at ih ⊢; omega
    simp only [joinL, List.length_append, this]
    simp [sumL]; omega
theorem strCells_eqP (s : ByteArray) : Lib.strCells s = Lib.byteCells s.data.toList := rfl
theorem bytes_app (a b : List UInt8) : Lib.byteCells a ++ Lib.byteCells b = Lib.byteCells (a ++ b) := by simp [Lib.byteCells]
theorem bytes_len (a : List UInt8) : (Lib.byteCells a).length = a.length := by simp [Lib.byteCells]
/-- Strings joined by two bytes. -/
def joinTwo (s1 s2 : UInt8) : List ByteArray → List UInt8
  | [] => []
  | x :: r => x.data.toList ++ r.flatMap fun y => s1 :: s2 :: y.data.toList
theorem joinTwo_snoc (s1 s2 : UInt8) (xs : List ByteArray) (x : ByteArray) (h : xs ≠ []) : joinTwo s1 s2 (xs ++ [x]) = joinTwo s1 s2 xs ++ (s1 :: s2 :: x.data.toList) := by
  cases xs with
  | nil => exact absurd rfl h
  | cons y r => simp [joinTwo]
theorem joinTwo_len (s1 s2 : UInt8) : ∀ xs : List ByteArray, (joinTwo s1 s2 xs).length ≤ sumL xs + 2 * xs.length
  | [] => by simp [joinTwo, sumL]
  | x :: r => by
    have : (r.flatMap fun y => s1 :: s2 :: y.data.toList).length = sumL r + 2 * r.length := by
      induction r with
      | nil => rfl
      | cons y r ih => simp [List.flatMap_cons, sumL] at ih ⊢; omega
    simp only [joinTwo, List.length_append, this]
    simp [sumL]; omega
end Go.Proofs.YtocpmbpckbjepaaDoor

/- Walks of the reference's printTypes, printName, printType. -/
namespace Go.Proofs.YtocpmbpckbjepaaDoor
open Go.RowKit
set_option linter.unusedVariables false
theorem info_strS : (Tryd.prog.info? 9).map (fun i => (i.zero, i.size, i.bytes)) = some (some (.string ByteArray.empty), 1, 16) := by kernel_rfl
def prB (f : Nat) (t : Ty) : ByteArray := ⟨(prT f t).toArray⟩
def prP (f : Nat) (p : Part) : ByteArray := ⟨(prPart (prT f) p).toArray⟩
theorem bytes_eq {x : ByteArray} {l : List UInt8} (h : x.data.toList = l) : x = ⟨l.toArray⟩ := by
  obtain ⟨⟨a⟩⟩ := x
  simp at h
  rw [h]
theorem str_size {x : ByteArray} {l : List UInt8} (h : x.data.toList = l) : x.size = l.length := by rw [← h]; simp
theorem join_tys (f : Nat) (l : List Ty) : joinTwo 44 32 (l.map (prB f)) = prTys (prT f) l := by
  cases l with
  | nil => rfl
  | cons t r => simp [joinTwo, prTys, sepL, prB, List.flatMap_map]
theorem join_name (f : Nat) (l : List Part) : joinL 46 (l.map (prP f)) = prName (prT f) l := by
  cases l with
  | nil => rfl
  | cons t r => simp [joinL, prName, sepL, prP, List.flatMap_map]
theorem sumL_tys (f : Nat) (l : List Ty) (h : GoodTys f l) : sumL (l.map (prB f)) ≤ 1400 * cntTys f l := by
  have : sumL (l.map (prB f)) = sumN (fun t => (prT f t).length) l := by simp [sumL, sumN, prB, Function.comp_def, ByteArray.size]
  rw [this]
  unfold cntTys
  rw [← sumN_mul]
  exact sumN_le (fun t ht => by have := prT_len f t (h t ht); omega)
theorem prPart_len {f : Nat} {p : Part} (h1 : p.1.size ≤ 60) (h2 : GoodTys f p.2) : (prPart (prT f) p).length ≤ 62 + 1400 * cntTys f p.2 := by
  have h3 := prTys_len (l := p.2) (fun x hx => prT_len f x (h2 x hx))
  unfold prTys at h3
  unfold prPart
  have hs : p.1.data.toList.length = p.1.size := by simp
  split <;> simp only [List.length_append, List.length_cons, List.length_nil] <;> omega
theorem sumL_name (f : Nat) (l : List Part) (h : GoodParts f l) : sumL (l.map (prP f)) ≤ 62 * l.length + 1400 * cntParts f l := by
  have : sumL (l.map (prP f)) = sumN (fun t => (prPart (prT f) t).length) l := by simp [sumL, sumN, prP, Function.comp_def, ByteArray.size]
  rw [this]
  unfold cntParts
  rw [← sumN_mul, ← sumN_add]
  exact sumN_le (fun p hp => prPart_len (h p hp).1 (h p hp).2.2)
theorem SlP.first {α : Type} {w : World} {B sz n i : Nat} {R : α → List Value → Prop} {A : Option Addr} {l : List α} (h : SlP w B sz R A n l) (hi : i ≤ n) : SlP w B sz R A i (l.take i) := by
  refine ⟨by rw [List.length_take, h.len]; omega, fun h0 => ?_⟩
  obtain ⟨b, o, e, hlt, hc⟩ := h.cells (by omega)
  refine ⟨b, o, e, hlt, fun k a ha => hc k a ?_⟩
  rw [List.getElem?_take] at ha
  split at ha
  · exact ha
  · cases ha
theorem own_slice' {w : World} {base sz n : Nat} {e : TypeId} {v : Value} {xs : List Value} (h : w.ownsRow base e sz v n xs) : ∃ a c, v = .slice a n c := by
  rcases h.2 with ⟨rfl, rfl⟩ | ⟨g, cap, cur, rfl, _⟩
  · exact ⟨_, _, rfl⟩
  · exact ⟨_, _, rfl⟩
theorem own_cap {w : World} {base sz n c : Nat} {e : TypeId} {A : Option Addr} {xs : List Value} (h : w.ownsRow base e sz (.slice A n c) n xs) : c ≤ maxLen := by
  rcases h.2 with ⟨h1, _⟩ | ⟨g, cap, cur, h1, _, _, _, hm, _⟩
  · simp only [Value.slice.injEq] at h1
    rw [h1.2.2]; exact Nat.zero_le _
  · simp only [Value.slice.injEq] at h1
    rw [h1.2.2]; exact hm
theorem own_grow' {B sz n : Nat} {S : TypeId} {w0 wp w1 : World} {v : Value} {xs : List Value} {o : Obj} (HB : Below B w0 wp) (hB : B ≤ wp.heap.size) (HO : wp.ownsRow B S sz v n xs) (hg : (wp.alloc o).grownBy w1 v.ownBlock) : Below B w0 w1 :=
  (HB.alloc hB o).grown hg (by simp; omega) (fun j hj => (HO.lt j hj).1)
theorem wdTys_hit {f : Nat} {l : List Ty} {j : Nat} {t : Ty} (h : l[j]? = some t) (hw : wd f t = true) : wdTys f l = true := List.any_eq_true.2 ⟨t, List.mem_of_getElem? h, hw⟩
theorem wdTys_snoc {f : Nat} {l : List Ty} {j : Nat} {t : Ty} (h0 : wdTys f (l.take j) = false) (h : l[j]? = some t) (hw : wd f t = false) : wdTys f (l.take (j + 1)) = false := by
  rw [take_succ_get h]; unfold wdTys at h0 ⊢; rw [List.any_append, h0]; simp [hw]
theorem wdParts_hit {f : Nat} {l : List Part} {j : Nat} {p : Part} (h : l[j]? = some p) (hw : wdTys f p.2 = true) : wdParts f l = true := List.any_eq_true.2 ⟨p, List.mem_of_getElem? h, hw⟩
theorem wdParts_snoc {f : Nat} {l : List Part} {j : Nat} {p : Part} (h0 : wdParts f (l.take j) = false) (h : l[j]? = some p) (hw : wdTys f p.2 = false) : wdParts f (l.take (j + 1)) = false := by
  rw [take_succ_get h]; unfold wdParts at h0 ⊢; rw [List.any_append, h0]; simp [hw]
theorem cntTys_mem {f : Nat} {l : List Part} {p : Part} (h : p ∈ l) : cntTys f p.2 ≤ cntParts f l := by
  unfold cntParts
  induction l with
  | nil => cases h
  | cons a l ih =>
    rw [sumN_cons]
    rcases List.mem_cons.1 h with rfl | h
    · omega
    · have := ih h; omega
end Go.Proofs.YtocpmbpckbjepaaDoor

/- Walks of isWord, reserved, and of the reference's printType and Printed (printed by gen_np.py). -/
namespace Go.Proofs.YtocpmbpckbjepaaDoor
open Go.RowKit
set_option linter.unusedVariables false
theorem wordS_eq (s : ByteArray) : wordS s = (s.toList == [114, 101, 102] || s.toList == [108, 105, 115, 116] || s.toList == [102, 117, 110, 99]) := by
  unfold wordS refB listB funcB
  rw [ByteArray.toList_eq, Bool.eq_iff_iff]
  simp
theorem prT_succ (f : Nat) (t : Ty) : prT (f + 1) t = if t.kind = 1 then prName (prT f) t.name
    else if t.kind = 4 then funcB ++ [40] ++ prTys (prT f) t.of.dropLast ++ [41, 32] ++ lastT (prT f) t.of
    else (if t.kind = 2 then refB else listB) ++ [32] ++ headT (prT f) t.of := rfl

theorem isWord_any (s : ByteArray) (w : World) : Calls Tryd.prog 61 #[.string s] w fun e w' => e = .returned (.bool (wordS s)) ∧ w' = w := by
  rw [wordS_eq]
  go_enter Tryd.func61, Tryd.ntmps61
  go_wp2_with (fail)
  all_goals go_ret
  all_goals exact ⟨by simp [*], rfl⟩
theorem wd_plain {f : Nat} {t : Ty} (hk : t.kind = 1) (ho : t.of = []) : wd (f + 1) t = (headW t.name || wdParts f t.name) := by
  unfold wd wdParts wdTys; rw [ho, hk]; simp
theorem wd_other {f : Nat} {t : Ty} (hk : t.kind ≠ 1) (hn : t.name = []) : wd (f + 1) t = wdTys f t.of := by
  unfold wd wdTys; rw [hn]; simp [hk, headW]
theorem cnt_plain {f : Nat} {t : Ty} (ho : t.of = []) : cnt (f + 1) t = 1 + cntParts f t.name := by
  unfold cnt cntParts cntTys; rw [ho, sumN_nil]; (try omega)
theorem cnt_other {f : Nat} {t : Ty} (hn : t.name = []) : cnt (f + 1) t = 1 + cntTys f t.of := by
  unfold cnt cntTys; rw [hn, sumN_nil]; (try omega)
theorem cntTys_one (f : Nat) (x : Ty) : cntTys f [x] = cnt f x := by simp [cntTys, sumN]
end Go.Proofs.YtocpmbpckbjepaaDoor

/- Walks of the program's printTypes, printParts, printType (printed by gen_nw.py). -/
namespace Go.Proofs.YtocpmbpckbjepaaDoor
open Go.RowKit
set_option linter.unusedVariables false
set_option linter.unusedSimpArgs false
def pTyOk (f : Nat) : Prop := ∀ (k : Nat) (t : Ty) (cs : List Value) (B b : Nat) (L : List UInt8) (w : World), TyIn w B k t cs → Good f t → cnt f t ≤ 500 → Bld B b (Lib.byteCells L) w → B ≤ w.heap.size → L.length + 4000000 * f ≤ 100000000 →
  Calls Tryd.prog 62 #[.pointer (some ⟨b, 0, none⟩), .agg cs.toArray] w fun e w' => e = .returned (.tuple #[]) ∧ Bld B b (Lib.byteCells (L ++ prT f t)) w' ∧ Below B w w' ∧ KeptBut b w w'
def pTysOk (f : Nat) : Prop := ∀ (k : Nat) (A : Option Addr) (n cap : Nat) (l : List Ty) (B b : Nat) (L : List UInt8) (w : World), n ≤ cap → cap ≤ maxLen → n ≤ 21 → Tys w B k A n l → GoodTys f l → cntTys f l ≤ 500 → Bld B b (Lib.byteCells L) w → B ≤ w.heap.size → L.length + 4000000 * f + 1000000 ≤ 100000000 →
  Calls Tryd.prog 34 #[.pointer (some ⟨b, 0, none⟩), .slice A n cap] w fun e w' => e = .returned (.tuple #[]) ∧ Bld B b (Lib.byteCells (L ++ prTys (prT f) l)) w' ∧ Below B w w' ∧ KeptBut b w w'
def pPartsOk (f : Nat) : Prop := ∀ (k : Nat) (A : Option Addr) (n cap : Nat) (l : List Part) (B b : Nat) (L : List UInt8) (w : World), n ≤ cap → cap ≤ maxLen → n ≤ 20 → Parts w B k A n l → GoodParts f l → cntParts f l ≤ 500 → Bld B b (Lib.byteCells L) w → B ≤ w.heap.size → L.length + 4000000 * f + 2000000 ≤ 100000000 →
  Calls Tryd.prog 33 #[.pointer (some ⟨b, 0, none⟩), .slice A n cap] w fun e w' => e = .returned (.tuple #[]) ∧ Bld B b (Lib.byteCells (L ++ prName (prT f) l)) w' ∧ Below B w w' ∧ KeptBut b w w'
theorem bld_ltP {B b : Nat} {l : List Value} {w : World} (h : Bld B b l w) : b < w.heap.size := by
  rcases h with h | h
  · exact h.lt
  · exact h.lt
theorem sepL_snoc (c : List UInt8) (l : List (List UInt8)) (x : List UInt8) : sepL c (l ++ [x]) = sepL c l ++ (if l.length = 0 then [] else c) ++ x := by
  cases l with
  | nil => simp [sepL]
  | cons y r => simp [sepL]
theorem prTys_snoc {f : Nat} {l : List Ty} {j : Nat} {t : Ty} (h : l[j]? = some t) : prTys (prT f) (l.take (j + 1)) = prTys (prT f) (l.take j) ++ (if j = 0 then [] else [44, 32]) ++ prT f t := by
  have hj : j < l.length := (List.getElem?_eq_some_iff.1 h).1
  unfold prTys
  rw [take_succ_get h, List.map_append, List.map_singleton, sepL_snoc]
  rw [List.length_map, List.length_take, Nat.min_eq_left (by omega)]
theorem prName_snoc {f : Nat} {l : List Part} {j : Nat} {p : Part} (h : l[j]? = some p) : prName (prT f) (l.take (j + 1)) = prName (prT f) (l.take j) ++ (if j = 0 then [] else [46]) ++ prPart (prT f) p := by
  have hj : j < l.length := (List.getElem?_eq_some_iff.1 h).1
  unfold prName
  rw [take_succ_get h, List.map_append, List.map_singleton, sepL_snoc]
  rw [List.length_map, List.length_take, Nat.min_eq_left (by omega)]
theorem cntTys_takeP (f : Nat) (l : List Ty) (j : Nat) : cntTys f (l.take j) ≤ cntTys f l := by
  conv => rhs; rw [← List.take_append_drop j l]
  rw [cntTys_append]; omega
theorem cntParts_takeP (f : Nat) (l : List Part) (j : Nat) : cntParts f (l.take j) ≤ cntParts f l := by
  have h : ∀ a b : List Part, cntParts f (a ++ b) = cntParts f a + cntParts f b := fun a b => by simp [cntParts, sumN]
  conv => rhs; rw [← List.take_append_drop j l]
  rw [h]; omega
theorem goodTys_take {f : Nat} {l : List Ty} (h : GoodTys f l) (j : Nat) : GoodTys f (l.take j) := fun x hx => h x (List.mem_of_mem_take hx)
theorem goodParts_take {f : Nat} {l : List Part} (h : GoodParts f l) (j : Nat) : GoodParts f (l.take j) := fun x hx => h x (List.mem_of_mem_take hx)

theorem write_bytesP (B b : Nat) (L : List UInt8) (s : ByteArray) (w : World) (h : Bld B b (Lib.byteCells L) w) (hB : B ≤ w.heap.size) (hl : L.length + s.size ≤ 140737488355328) :
    Calls Tryd.prog 17 #[.pointer (some ⟨b, 0, none⟩), .string s] w fun e w' => e = .returned (.tuple #[.int .i64 s.size, .nilIface]) ∧ Bld B b (Lib.byteCells (L ++ s.data.toList)) w' ∧ Below B w w' ∧ KeptBut b w w' := by
  have := WriteString_any B b (Lib.byteCells L) s w h (by rw [bytes_len]; exact hl) hB
  rw [strCells_eqP, bytes_app] at this
  exact this

set_option maxRecDepth 100000 in
set_option maxHeartbeats 8000000 in
theorem pTys_of {f : Nat} (H : pTyOk f) : pTysOk f := by
  intro k A n cap l B b L w hnc hcm hn hl hg hc5 hb hBw hLL
  unfold maxLen at hcm
  have HL := hide hl.len
  have HSL := hide hl
  have HG := hide hg
  have HH := hide H
  have HB := hide hb
  have HCM := hide (fun t (ht : t ∈ l) => Nat.le_trans (cnt_mem (f := f) ht) hc5)
  have HLN := hide (fun j => Nat.le_trans (prTys_len (f := f) (l := l.take j) (fun x hx => prT_len f x (goodTys_take hg j x hx))) (Nat.mul_le_mul_left 1400 (Nat.le_trans (cntTys_takeP f l j) hc5)))
  clear hl hg H hb hc5
  go_enter Tryd.func34, Tryd.ntmps34
  go_wp2_with (fail)
  go_loopw [8] (fun i wr => ∃ j : Nat, j ≤ n ∧ i = .int .i64 j ∧ Bld B b (Lib.byteCells (L ++ prTys (prT f) (l.take j))) wr ∧ Below B w wr ∧ KeptBut b w wr) (fun i _ => n - (intOf i).toNat)
  case atStart => exact ⟨0, Nat.zero_le _, rfl, by simpa [prTys, sepL] using HB.out, Below.refl _ _, KeptBut.refl _ _⟩
  case round =>
    obtain ⟨j, hj, rfl, hbl, hB, hkp⟩ := hrel
    have hz := Nat.le_trans hBw hB.size
    have hbw := bld_ltP hbl
    have HKP := hide hkp
    clear hkp
    by_cases hlt : j < n
    · obtain ⟨o, q, t, cs, rfl, hq, ht, hin, hcs⟩ := (tys_below HSL.out hB).at_ hlt
      have HT := hide ht
      have hm := List.mem_of_getElem? ht
      have hlj := HLN.out j
      obtain ⟨L1, hL1⟩ : ∃ L1, L ++ prTys (prT f) (l.take j) = L1 := ⟨_, rfl⟩
      have hl1 : L1.length ≤ L.length + 700000 := by rw [← hL1, List.length_append]; omega
      rw [hL1] at hbl
      have HL1 := hide hL1
      have HBL := hide hbl
      have HO := hide (fun (L' : List UInt8) (W : World) (h : Below B wr W) h2 (h3 : B ≤ W.heap.size) h4 => HH.out k t cs B b L' W (hin.below h) (HG.out t hm) (HCM.out t hm) h2 h3 h4)
      cases k with
      | zero => exact hin.elim
      | succ k =>
      obtain ⟨A1, n1, cap1, A2, n2, cap2, rfl, _⟩ := hin
      have c0 : wr.cell? ⟨o, q + j * 3, none⟩ = some (.int .i64 t.kind) := by simpa using hcs 0 _ rfl
      have c1 : wr.cell? ⟨o, q + j * 3 + 1, none⟩ = some (.slice A1 n1 cap1) := hcs 1 _ rfl
      have c2 : wr.cell? ⟨o, q + j * 3 + 2, none⟩ = some (.slice A2 n2 cap2) := hcs 2 _ rfl
      have HX := hide (heap_alloc_new wr (.cells #[.int .i64 t.kind, .slice A1 n1 cap1, .slice A2 n2 cap2] 75))
      have HA := hide (fun ob : Obj => show Below wr.heap.size wr (wr.alloc ob) from (Below.refl _ _).alloc (Nat.le_refl _) ob)
      clear hcs ht hm hL1 hbl hlj
      by_cases hj0 : j = 0
      · have hk1 : ¬ (0 < j) := by omega
        have hk2 : decide (0 < j) = false := by simp; omega
        have hk3 : decide ((0 : Int) < (j : Int)) = false := by simp; omega
        have HST := hide (show L ++ prTys (prT f) (l.take (j + 1)) = L1 ++ prT f t by rw [prTys_snoc HT.out, if_pos hj0, ← HL1.out]; simp)
        clear hj0
        go_wp2_with (go_at_call 62; refine (HO.out L1 _ ((HA.out _).mono hz) (bld_below HBL.out (HA.out _)) (by simp; omega) (by omega)).mono ?_; rintro e w2 ⟨rfl, hb2, hw2, hk2w⟩; have HB2 := hide hb2; have hB2 : Below B w w2 := hB.trans (((HA.out _).mono hz).trans hw2); have HK2 := hide (HKP.out.trans ((KeptBut.of_below (HA.out _)).trans hk2w)); clear hb2 hw2 hk2w)
        go_roundw
        case rel => exact ⟨j + 1, by omega, by go_num, by rw [HST.out]; exact HB2.out, hB2, HK2.out⟩
        case measure => simp [intOf]; omega
      · have hk1 : 0 < j := by omega
        have hk3 : (0 : Int) < (j : Int) := by omega
        have HST := hide (show L ++ prTys (prT f) (l.take (j + 1)) = L1 ++ [44, 32] ++ prT f t by rw [prTys_snoc HT.out, if_neg hj0, ← HL1.out]; simp)
        have h2 : (⟨#[44, 32]⟩ : ByteArray).size = 2 := rfl
        clear hj0
        go_wp2_with (first | (go_at_call 17; refine (write_bytesP B b L1 _ _ (bld_below HBL.out (HA.out _)) (by simp; omega) (by omega)).mono ?_; rintro e w1 ⟨rfl, hb1, hw1, hk1w⟩; have HB1 := hide hb1; have hB1 : Below B wr w1 := ((HA.out _).mono hz).trans hw1; have HK1 := hide ((KeptBut.of_below (HA.out _)).trans hk1w); have hx1 := hk1w _ _ _ _ HX.out (by decide) (by omega); have x0 : w1.cell? ⟨wr.heap.size, 0, none⟩ = some (.int .i64 t.kind) := (block_cell hx1 0).trans rfl; have x1 : w1.cell? ⟨wr.heap.size, 1, none⟩ = some (.slice A1 n1 cap1) := (block_cell hx1 1).trans rfl; have x2 : w1.cell? ⟨wr.heap.size, 2, none⟩ = some (.slice A2 n2 cap2) := (block_cell hx1 2).trans rfl; clear hb1 hw1 hk1w hx1) | (go_at_call 62; refine (HO.out (L1 ++ [44, 32]) _ hB1 HB1.out (Nat.le_trans hz hB1.size) (by rw [List.length_append]; simp only [List.length_cons, List.length_nil]; omega)).mono ?_; rintro e w2 ⟨rfl, hb2, hw2, hk2w⟩; have HB2 := hide hb2; have hB2 : Below B w w2 := hB.trans (hB1.trans hw2); have HK2 := hide (HKP.out.trans (HK1.out.trans hk2w)); clear hb2 hw2 hk2w))
        go_roundw
        case rel => exact ⟨j + 1, by omega, by go_num, by rw [HST.out]; exact HB2.out, hB2, HK2.out⟩
        case measure => simp [intOf]; omega
    · obtain rfl : j = n := by omega
      have htk : l.take j = l := take_len l (by rw [HL.out]; exact Nat.le_refl _)
      rw [htk] at hbl
      have HBL := hide hbl
      clear hbl htk
      go_wp2_with (fail)
      go_end0
      exact ⟨rfl, HBL.out, hB, HKP.out⟩

set_option maxRecDepth 100000 in
set_option maxHeartbeats 16000000 in
theorem pParts_of {f : Nat} (H : pTysOk f) : pPartsOk f := by
  intro k A n cap l B b L w hnc hcm hn hl hg hc5 hb hBw hLL
  unfold maxLen at hcm
  have HL := hide hl.len
  have HSL := hide hl
  have HG := hide hg
  have HH := hide H
  have HB := hide hb
  have HCM := hide (fun p (hp : p ∈ l) => Nat.le_trans (cntTys_mem (f := f) hp) hc5)
  have HLN := hide (fun j (hj : j ≤ n) => show (prName (prT f) (l.take j)).length ≤ 1280 + 1400 * 500 from Nat.le_trans (prName_len (f := f) (l := l.take j) (fun p hp => ⟨(goodParts_take hg j p hp).1, fun x hx => prT_len f x ((goodParts_take hg j p hp).2.2 x hx)⟩) (by rw [List.length_take]; omega)) (Nat.add_le_add_left (Nat.mul_le_mul_left 1400 (Nat.le_trans (cntParts_takeP f l j) hc5)) _))
  clear hl hg H hb hc5
  go_enter Tryd.func33, Tryd.ntmps33
  go_wp2_with (fail)
  go_loopw [8] (fun i wr => ∃ j : Nat, j ≤ n ∧ i = .int .i64 j ∧ Bld B b (Lib.byteCells (L ++ prName (prT f) (l.take j))) wr ∧ Below B w wr ∧ KeptBut b w wr) (fun i _ => n - (intOf i).toNat)
  case atStart => exact ⟨0, Nat.zero_le _, rfl, by simpa [prName, sepL] using HB.out, Below.refl _ _, KeptBut.refl _ _⟩
  case round =>
    obtain ⟨j, hj, rfl, hbl, hB, hkp⟩ := hrel
    have hz := Nat.le_trans hBw hB.size
    have hbw := bld_ltP hbl
    have HKP := hide hkp
    clear hkp
    by_cases hlt : j < n
    · obtain ⟨o, q, p, cs, rfl, hq, hp, hin, hcs⟩ := (parts_below HSL.out hB).at_ hlt
      have HP := hide hp
      have hm := List.mem_of_getElem? hp
      obtain ⟨g1, g2, g3⟩ := HG.out p hm
      have hcp := HCM.out p hm
      have hlj := HLN.out j hj
      obtain ⟨A1, n1, cap1, rfl, hps, hn1, hc1, hts⟩ := hin
      obtain ⟨tx, ar⟩ := p
      simp only at g1 g2 g3 hcp hts
      obtain ⟨L1, hL1⟩ : ∃ L1, L ++ prName (prT f) (l.take j) = L1 := ⟨_, rfl⟩
      have hl1 : L1.length ≤ L.length + 710000 := by rw [← hL1, List.length_append]; omega
      rw [hL1] at hbl
      have HL1 := hide hL1
      have HBL := hide hbl
      have hal := hts.len
      have HO := hide (fun (L' : List UInt8) (W : World) (h : Below B wr W) h2 (h3 : B ≤ W.heap.size) h4 => HH.out k A1 n1 cap1 ar B b L' W hn1 hc1 (by omega) (tys_below hts h) g3 hcp h2 h3 h4)
      have HPL := hide (Nat.le_trans (prTys_len (f := f) (l := ar) (fun x hx => prT_len f x (g3 x hx))) (Nat.mul_le_mul_left 1400 hcp))
      have c0 : wr.cell? ⟨o, q + j * 2, none⟩ = some (.string tx) := by simpa using hcs 0 _ rfl
      have c1 : wr.cell? ⟨o, q + j * 2 + 1, none⟩ = some (.slice A1 n1 cap1) := hcs 1 _ rfl
      have HX := hide (heap_alloc_new wr (.cells #[.string tx, .slice A1 n1 cap1] 47))
      have HA := hide (fun ob : Obj => show Below wr.heap.size wr (wr.alloc ob) from (Below.refl _ _).alloc (Nat.le_refl _) ob)
      have HAL := hide hal
      unfold maxLen at hps hc1
      clear hcs hp hm hL1 hbl hlj hts hal g3
      obtain ⟨J, hJ⟩ : ∃ J : List UInt8, (if j = 0 then [] else [46]) = J := ⟨_, rfl⟩
      have hJl : J.length ≤ 1 := by rw [← hJ]; split <;> simp
      have HJJ := hide hJ
      have HST0 := hide (show L ++ prName (prT f) (l.take (j + 1)) = L1 ++ J ++ prPart (prT f) (tx, ar) by rw [prName_snoc HP.out, hJ, ← HL1.out]; simp)
      clear hJ
      by_cases hj0 : j = 0
      · by_cases hn0 : n1 = 0
        · have hk1 : ¬ (0 < j) := by omega
          have hk2 : decide (0 < j) = false := by simp; omega
          have hk3 : decide ((0 : Int) < (j : Int)) = false := by simp; omega
          have HJ0 := hide (show J = [] by rw [← HJJ.out, if_pos hj0])
          have HBX := hide (fun ob : Obj => bld_below (HBL.out) (HA.out ob))
          have h1 : (⟨#[46]⟩ : ByteArray).size = 1 := rfl
          have h60 : (⟨#[60]⟩ : ByteArray).size = 1 := rfl
          have h62 : (⟨#[62]⟩ : ByteArray).size = 1 := rfl
          have har : ar = [] := List.length_eq_zero_iff.1 (by rw [HAL.out]; exact hn0)
          have HST := hide (show L ++ prName (prT f) (l.take (j + 1)) = L1 ++ J ++ tx.data.toList by rw [HST0.out]; unfold prPart; rw [if_pos (by show ar.length = 0; rw [har]; rfl)]; simp)
          subst hn0
          clear har hj0
          go_wp2_with (fail)
          refine (write_bytesP B b (L1) tx _ (bld_below HBL.out (HA.out _)) (by simp; omega) (by (try simp only [List.length_append, List.length_cons, List.length_nil]); (try simp only [Array.length_toList]); (try have hts : tx.data.size = tx.size := rfl); omega)).mono ?_
          rintro e w1 ⟨rfl, hb1, hw1, hk1w⟩
          have HB1 := hide hb1
          have hB1 : Below B wr w1 := ((HA.out _).mono hz).trans hw1
          have HK1 := hide ((KeptBut.of_below (HA.out _)).trans hk1w)
          have hx1 := hk1w _ _ _ _ HX.out (by decide) (by omega)
          have HX1 := hide hx1
          have x0_1 : w1.cell? ⟨wr.heap.size, 0, none⟩ = some (.string tx) := (block_cell hx1 0).trans rfl
          have x1_1 : w1.cell? ⟨wr.heap.size, 1, none⟩ = some (.slice A1 0 cap1) := (block_cell hx1 1).trans rfl
          clear hb1 hw1 hk1w hx1
          go_wp2_with (fail)
          go_roundw
          case rel => exact ⟨j + 1, by omega, by go_num, by rw [HST.out, HJ0.out]; (try rw [List.append_nil]); exact HB1.out, hB.trans hB1, HKP.out.trans HK1.out⟩
          case measure => simp [intOf]; omega
        · have hk1 : ¬ (0 < j) := by omega
          have hk2 : decide (0 < j) = false := by simp; omega
          have hk3 : decide ((0 : Int) < (j : Int)) = false := by simp; omega
          have HJ0 := hide (show J = [] by rw [← HJJ.out, if_pos hj0])
          have HBX := hide (fun ob : Obj => bld_below (HBL.out) (HA.out ob))
          have h1 : (⟨#[46]⟩ : ByteArray).size = 1 := rfl
          have h60 : (⟨#[60]⟩ : ByteArray).size = 1 := rfl
          have h62 : (⟨#[62]⟩ : ByteArray).size = 1 := rfl
          have HST := hide (show L ++ prName (prT f) (l.take (j + 1)) = L1 ++ J ++ tx.data.toList ++ [60] ++ prTys (prT f) ar ++ [62] by rw [HST0.out]; unfold prPart prTys; rw [if_neg (by show ¬ ar.length = 0; rw [HAL.out]; exact hn0)]; simp)
          have hnp : 0 < n1 := by omega
          have hnp1 : (0 : Int) < (n1 : Int) := by omega
          clear hn0 hj0
          go_wp2_with (fail)
          refine (write_bytesP B b (L1) tx _ (bld_below HBL.out (HA.out _)) (by simp; omega) (by (try simp only [List.length_append, List.length_cons, List.length_nil]); (try simp only [Array.length_toList]); (try have hts : tx.data.size = tx.size := rfl); omega)).mono ?_
          rintro e w1 ⟨rfl, hb1, hw1, hk1w⟩
          have HB1 := hide hb1
          have hB1 : Below B wr w1 := ((HA.out _).mono hz).trans hw1
          have HK1 := hide ((KeptBut.of_below (HA.out _)).trans hk1w)
          have hx1 := hk1w _ _ _ _ HX.out (by decide) (by omega)
          have HX1 := hide hx1
          have x0_1 : w1.cell? ⟨wr.heap.size, 0, none⟩ = some (.string tx) := (block_cell hx1 0).trans rfl
          have x1_1 : w1.cell? ⟨wr.heap.size, 1, none⟩ = some (.slice A1 n1 cap1) := (block_cell hx1 1).trans rfl
          clear hb1 hw1 hk1w hx1
          go_wp2_with (fail)
          clear x0_1 x1_1
          refine (write_bytesP B b (L1 ++ tx.data.toList) ⟨#[60]⟩ _ HB1.out (Nat.le_trans hz hB1.size) (by (try simp only [List.length_append, List.length_cons, List.length_nil]); (try simp only [Array.length_toList]); (try have hts : tx.data.size = tx.size := rfl); omega)).mono ?_
          rintro e w2 ⟨rfl, hb2, hw2, hk2w⟩
          have HB2 := hide hb2
          have hB2 : Below B wr w2 := hB1.trans hw2
          have HK2 := hide (HK1.out.trans hk2w)
          have hx2 := hk2w _ _ _ _ HX1.out (by decide) (by omega)
          have HX2 := hide hx2
          have x0_2 : w2.cell? ⟨wr.heap.size, 0, none⟩ = some (.string tx) := (block_cell hx2 0).trans rfl
          have x1_2 : w2.cell? ⟨wr.heap.size, 1, none⟩ = some (.slice A1 n1 cap1) := (block_cell hx2 1).trans rfl
          clear hb2 hw2 hk2w hx2
          go_wp2_with (fail)
          clear x0_2 x1_2
          have hpl := HPL.out
          refine (HO.out (L1 ++ tx.data.toList ++ (⟨#[60]⟩ : ByteArray).data.toList) _ hB2 HB2.out (Nat.le_trans hz hB2.size) (by (try simp only [List.length_append, List.length_cons, List.length_nil]); (try simp only [Array.length_toList]); (try have hts : tx.data.size = tx.size := rfl); omega)).mono ?_
          rintro e w3 ⟨rfl, hb3, hw3, hk3w⟩
          have HB3 := hide hb3
          have hB3 : Below B wr w3 := hB2.trans hw3
          have HK3 := hide (HK2.out.trans hk3w)
          have HX3 := hide (hk3w _ _ _ _ HX2.out (by decide) (by omega))
          clear hb3 hw3 hk3w
          go_wp2_with (fail)
          refine (write_bytesP B b (L1 ++ tx.data.toList ++ (⟨#[60]⟩ : ByteArray).data.toList ++ prTys (prT f) ar) ⟨#[62]⟩ _ HB3.out (Nat.le_trans hz hB3.size) (by (try simp only [List.length_append, List.length_cons, List.length_nil]); (try simp only [Array.length_toList]); (try have hts : tx.data.size = tx.size := rfl); omega)).mono ?_
          rintro e w4 ⟨rfl, hb4, hw4, hk4w⟩
          have HB4 := hide hb4
          have hB4 : Below B wr w4 := hB3.trans hw4
          have HK4 := hide (HK3.out.trans hk4w)
          have hx4 := hk4w _ _ _ _ HX3.out (by decide) (by omega)
          have HX4 := hide hx4
          have x0_4 : w4.cell? ⟨wr.heap.size, 0, none⟩ = some (.string tx) := (block_cell hx4 0).trans rfl
          have x1_4 : w4.cell? ⟨wr.heap.size, 1, none⟩ = some (.slice A1 n1 cap1) := (block_cell hx4 1).trans rfl
          clear hb4 hw4 hk4w hx4
          go_wp2_with (fail)
          go_roundw
          case rel => exact ⟨j + 1, by omega, by go_num, by rw [HST.out, HJ0.out]; (try rw [List.append_nil]); exact HB4.out, hB.trans hB4, HKP.out.trans HK4.out⟩
          case measure => simp [intOf]; omega
      · by_cases hn0 : n1 = 0
        · have hk1 : 0 < j := by omega
          have hk3 : (0 : Int) < (j : Int) := by omega
          have HJ0 := hide (show J = [46] by rw [← HJJ.out, if_neg hj0])
          have h1 : (⟨#[46]⟩ : ByteArray).size = 1 := rfl
          have h60 : (⟨#[60]⟩ : ByteArray).size = 1 := rfl
          have h62 : (⟨#[62]⟩ : ByteArray).size = 1 := rfl
          have har : ar = [] := List.length_eq_zero_iff.1 (by rw [HAL.out]; exact hn0)
          have HST := hide (show L ++ prName (prT f) (l.take (j + 1)) = L1 ++ J ++ tx.data.toList by rw [HST0.out]; unfold prPart; rw [if_pos (by show ar.length = 0; rw [har]; rfl)]; simp)
          subst hn0
          clear har hj0
          go_wp2_with (fail)
          refine (write_bytesP B b (L1) ⟨#[46]⟩ _ (bld_below HBL.out (HA.out _)) (by simp; omega) (by (try simp only [List.length_append, List.length_cons, List.length_nil]); (try simp only [Array.length_toList]); (try have hts : tx.data.size = tx.size := rfl); omega)).mono ?_
          rintro e w1 ⟨rfl, hb1, hw1, hk1w⟩
          have HB1 := hide hb1
          have hB1 : Below B wr w1 := ((HA.out _).mono hz).trans hw1
          have HK1 := hide ((KeptBut.of_below (HA.out _)).trans hk1w)
          have hx1 := hk1w _ _ _ _ HX.out (by decide) (by omega)
          have HX1 := hide hx1
          have x0_1 : w1.cell? ⟨wr.heap.size, 0, none⟩ = some (.string tx) := (block_cell hx1 0).trans rfl
          have x1_1 : w1.cell? ⟨wr.heap.size, 1, none⟩ = some (.slice A1 0 cap1) := (block_cell hx1 1).trans rfl
          clear hb1 hw1 hk1w hx1
          go_wp2_with (fail)
          clear x0_1 x1_1
          refine (write_bytesP B b (L1 ++ (⟨#[46]⟩ : ByteArray).data.toList) tx _ HB1.out (Nat.le_trans hz hB1.size) (by (try simp only [List.length_append, List.length_cons, List.length_nil]); (try simp only [Array.length_toList]); (try have hts : tx.data.size = tx.size := rfl); omega)).mono ?_
          rintro e w2 ⟨rfl, hb2, hw2, hk2w⟩
          have HB2 := hide hb2
          have hB2 : Below B wr w2 := hB1.trans hw2
          have HK2 := hide (HK1.out.trans hk2w)
          have hx2 := hk2w _ _ _ _ HX1.out (by decide) (by omega)
          have HX2 := hide hx2
          have x0_2 : w2.cell? ⟨wr.heap.size, 0, none⟩ = some (.string tx) := (block_cell hx2 0).trans rfl
          have x1_2 : w2.cell? ⟨wr.heap.size, 1, none⟩ = some (.slice A1 0 cap1) := (block_cell hx2 1).trans rfl
          clear hb2 hw2 hk2w hx2
          go_wp2_with (fail)
          go_roundw
          case rel => exact ⟨j + 1, by omega, by go_num, by rw [HST.out, HJ0.out]; (try rw [List.append_nil]); exact HB2.out, hB.trans hB2, HKP.out.trans HK2.out⟩
          case measure => simp [intOf]; omega
        · have hk1 : 0 < j := by omega
          have hk3 : (0 : Int) < (j : Int) := by omega
          have HJ0 := hide (show J = [46] by rw [← HJJ.out, if_neg hj0])
          have h1 : (⟨#[46]⟩ : ByteArray).size = 1 := rfl
          have h60 : (⟨#[60]⟩ : ByteArray).size = 1 := rfl
          have h62 : (⟨#[62]⟩ : ByteArray).size = 1 := rfl
          have HST := hide (show L ++ prName (prT f) (l.take (j + 1)) = L1 ++ J ++ tx.data.toList ++ [60] ++ prTys (prT f) ar ++ [62] by rw [HST0.out]; unfold prPart prTys; rw [if_neg (by show ¬ ar.length = 0; rw [HAL.out]; exact hn0)]; simp)
          have hnp : 0 < n1 := by omega
          have hnp1 : (0 : Int) < (n1 : Int) := by omega
          clear hn0 hj0
          go_wp2_with (fail)
          refine (write_bytesP B b (L1) ⟨#[46]⟩ _ (bld_below HBL.out (HA.out _)) (by simp; omega) (by (try simp only [List.length_append, List.length_cons, List.length_nil]); (try simp only [Array.length_toList]); (try have hts : tx.data.size = tx.size := rfl); omega)).mono ?_
          rintro e w1 ⟨rfl, hb1, hw1, hk1w⟩
          have HB1 := hide hb1
          have hB1 : Below B wr w1 := ((HA.out _).mono hz).trans hw1
          have HK1 := hide ((KeptBut.of_below (HA.out _)).trans hk1w)
          have hx1 := hk1w _ _ _ _ HX.out (by decide) (by omega)
          have HX1 := hide hx1
          have x0_1 : w1.cell? ⟨wr.heap.size, 0, none⟩ = some (.string tx) := (block_cell hx1 0).trans rfl
          have x1_1 : w1.cell? ⟨wr.heap.size, 1, none⟩ = some (.slice A1 n1 cap1) := (block_cell hx1 1).trans rfl
          clear hb1 hw1 hk1w hx1
          go_wp2_with (fail)
          clear x0_1 x1_1
          refine (write_bytesP B b (L1 ++ (⟨#[46]⟩ : ByteArray).data.toList) tx _ HB1.out (Nat.le_trans hz hB1.size) (by (try simp only [List.length_append, List.length_cons, List.length_nil]); (try simp only [Array.length_toList]); (try have hts : tx.data.size = tx.size := rfl); omega)).mono ?_
          rintro e w2 ⟨rfl, hb2, hw2, hk2w⟩
          have HB2 := hide hb2
          have hB2 : Below B wr w2 := hB1.trans hw2
          have HK2 := hide (HK1.out.trans hk2w)
          have hx2 := hk2w _ _ _ _ HX1.out (by decide) (by omega)
          have HX2 := hide hx2
          have x0_2 : w2.cell? ⟨wr.heap.size, 0, none⟩ = some (.string tx) := (block_cell hx2 0).trans rfl
          have x1_2 : w2.cell? ⟨wr.heap.size, 1, none⟩ = some (.slice A1 n1 cap1) := (block_cell hx2 1).trans rfl
          clear hb2 hw2 hk2w hx2
          go_wp2_with (fail)
          clear x0_2 x1_2
          refine (write_bytesP B b (L1 ++ (⟨#[46]⟩ : ByteArray).data.toList ++ tx.data.toList) ⟨#[60]⟩ _ HB2.out (Nat.le_trans hz hB2.size) (by (try simp only [List.length_append, List.length_cons, List.length_nil]); (try simp only [Array.length_toList]); (try have hts : tx.data.size = tx.size := rfl); omega)).mono ?_
          rintro e w3 ⟨rfl, hb3, hw3, hk3w⟩
          have HB3 := hide hb3
          have hB3 : Below B wr w3 := hB2.trans hw3
          have HK3 := hide (HK2.out.trans hk3w)
          have hx3 := hk3w _ _ _ _ HX2.out (by decide) (by omega)
          have HX3 := hide hx3
          have x0_3 : w3.cell? ⟨wr.heap.size, 0, none⟩ = some (.string tx) := (block_cell hx3 0).trans rfl
          have x1_3 : w3.cell? ⟨wr.heap.size, 1, none⟩ = some (.slice A1 n1 cap1) := (block_cell hx3 1).trans rfl
          clear hb3 hw3 hk3w hx3
          go_wp2_with (fail)
          clear x0_3 x1_3
          have hpl := HPL.out
          refine (HO.out (L1 ++ (⟨#[46]⟩ : ByteArray).data.toList ++ tx.data.toList ++ (⟨#[60]⟩ : ByteArray).data.toList) _ hB3 HB3.out (Nat.le_trans hz hB3.size) (by (try simp only [List.length_append, List.length_cons, List.length_nil]); (try simp only [Array.length_toList]); (try have hts : tx.data.size = tx.size := rfl); omega)).mono ?_
          rintro e w4 ⟨rfl, hb4, hw4, hk4w⟩
          have HB4 := hide hb4
          have hB4 : Below B wr w4 := hB3.trans hw4
          have HK4 := hide (HK3.out.trans hk4w)
          have HX4 := hide (hk4w _ _ _ _ HX3.out (by decide) (by omega))
          clear hb4 hw4 hk4w
          go_wp2_with (fail)
          refine (write_bytesP B b (L1 ++ (⟨#[46]⟩ : ByteArray).data.toList ++ tx.data.toList ++ (⟨#[60]⟩ : ByteArray).data.toList ++ prTys (prT f) ar) ⟨#[62]⟩ _ HB4.out (Nat.le_trans hz hB4.size) (by (try simp only [List.length_append, List.length_cons, List.length_nil]); (try simp only [Array.length_toList]); (try have hts : tx.data.size = tx.size := rfl); omega)).mono ?_
          rintro e w5 ⟨rfl, hb5, hw5, hk5w⟩
          have HB5 := hide hb5
          have hB5 : Below B wr w5 := hB4.trans hw5
          have HK5 := hide (HK4.out.trans hk5w)
          have hx5 := hk5w _ _ _ _ HX4.out (by decide) (by omega)
          have HX5 := hide hx5
          have x0_5 : w5.cell? ⟨wr.heap.size, 0, none⟩ = some (.string tx) := (block_cell hx5 0).trans rfl
          have x1_5 : w5.cell? ⟨wr.heap.size, 1, none⟩ = some (.slice A1 n1 cap1) := (block_cell hx5 1).trans rfl
          clear hb5 hw5 hk5w hx5
          go_wp2_with (fail)
          go_roundw
          case rel => exact ⟨j + 1, by omega, by go_num, by rw [HST.out, HJ0.out]; (try rw [List.append_nil]); exact HB5.out, hB.trans hB5, HKP.out.trans HK5.out⟩
          case measure => simp [intOf]; omega
    · obtain rfl : j = n := by omega
      have htk : l.take j = l := take_len l (by rw [HL.out]; exact Nat.le_refl _)
      rw [htk] at hbl
      have HBL := hide hbl
      clear hbl htk
      go_wp2_with (fail)
      go_end0
      exact ⟨rfl, HBL.out, hB, HKP.out⟩

end Go.Proofs.YtocpmbpckbjepaaDoor

/- Walk of the program's printType (printed by gen_nx.py). -/
namespace Go.Proofs.YtocpmbpckbjepaaDoor
open Go.RowKit
set_option linter.unusedVariables false
set_option linter.unusedSimpArgs false
@[local go_sem] theorem pre_two (w : World) : (Instr.index 127 (.agg #[.string ⟨#[]⟩, .string ⟨#[]⟩, .string ⟨#[114, 101, 102, 32]⟩, .string ⟨#[108, 105, 115, 116, 32]⟩]) (.int .i64 2)).run Tryd.prog w = .ok (.string ⟨#[114, 101, 102, 32]⟩) w := by
  have h : Tryd.prog.underlying 127 = some (.array 4 9) := Tryd.underlying127
  simp [Instr.index, run_underlying h, asIntOf, go_sem]
@[local go_sem] theorem pre_three (w : World) : (Instr.index 127 (.agg #[.string ⟨#[]⟩, .string ⟨#[]⟩, .string ⟨#[114, 101, 102, 32]⟩, .string ⟨#[108, 105, 115, 116, 32]⟩]) (.int .i64 3)).run Tryd.prog w = .ok (.string ⟨#[108, 105, 115, 116, 32]⟩) w := by
  have h : Tryd.prog.underlying 127 = some (.array 4 9) := Tryd.underlying127
  simp [Instr.index, run_underlying h, asIntOf, go_sem]
theorem pTy_zero : pTyOk 0 := fun _ _ _ _ _ _ _ _ h => h.elim
set_option maxRecDepth 100000 in
set_option maxHeartbeats 16000000 in
theorem pTy_succ {f : Nat} (HPA : pPartsOk f) (HTS : pTysOk f) (H : pTyOk f) : pTyOk (f + 1) := by
  intro k t cs B b L w hin hg hc5 hb hBw hLL
  rw [Nat.mul_add_one, ← Nat.add_assoc] at hLL
  cases k with
  | zero => exact hin.elim
  | succ k =>
  obtain ⟨A, n, c, A2, n2, c2, rfl, hn, hm, hn2, hm2, hl, hl2⟩ := hin
  obtain ⟨⟨hk1, hk4⟩, h1, h2, h3, h4, h5⟩ := hg
  have HLN := hide hl.len
  have HLO := hide hl2.len
  have HSL := hide hl
  have HSO := hide hl2
  have HB := hide hb
  have hbw := bld_ltP hb
  have HA := hide (fun ob : Obj => show Below w.heap.size w (w.alloc ob) from (Below.refl _ _).alloc (Nat.le_refl _) ob)
  obtain ⟨K, hKd⟩ : ∃ K, t.kind = K := ⟨_, rfl⟩
  have HX := hide (heap_alloc_new w (.cells #[.int .i64 t.kind, .slice A n c, .slice A2 n2 c2] 75))
  rw [hKd] at HX hk1 hk4 h1 h2 h3
  rw [hKd]
  have HKD := hide hKd
  clear hl hl2 hKd hb
  rcases (show K = 1 ∨ K = 2 ∨ K = 3 ∨ K = 4 by omega) with rfl | rfl | rfl | rfl
  · obtain ⟨ho, hp1, hp2⟩ := h1 rfl
    have hcn := cnt_plain (f := f) ho
    have HPR := hide (show prT (f + 1) t = prName (prT f) t.name by rw [prT_succ, if_pos HKD.out])
    have hnn := HLN.out
    have hLA : L.length + 4000000 * f + 2000000 ≤ 100000000 := by omega
    have hn20 : n ≤ 20 := by omega
    have HNO := hide (fun (W : World) (h : Below B w W) h2 h3 => HPA k A n c t.name B b L W hn hm hn20 (parts_below HSL.out h) h4 (by omega) h2 h3 hLA)
    unfold maxLen at hm hm2
    clear h1 h2 h3 h4 h5 hcn ho hc5
    rw [HPR.out]
    go_enter Tryd.func62, Tryd.ntmps62
    go_wp2_with (go_at_call 33; refine (HNO.out _ ((HA.out _).mono hBw) (bld_below HB.out (HA.out _)) (by simp; omega)).mono ?_; rintro e w1 ⟨rfl, hb1, hw1, hk1w⟩)
    go_end0
    exact ⟨rfl, hb1, ((HA.out _).mono hBw).trans hw1, (KeptBut.of_below (HA.out _)).trans hk1w⟩

  · obtain ⟨hno, hp1, hp2⟩ := h2 (by decide)
    have hone := h3 (.inl rfl)
    obtain ⟨x, hx⟩ : ∃ x, t.of = [x] := by
      match t.of, hone with
      | [x], _ => exact ⟨x, rfl⟩
    have hcn := cnt_other (f := f) hno
    rw [hx, cntTys_one] at hcn
    have HPR := hide (show L ++ prT (f + 1) t = L ++ (⟨#[114, 101, 102, 32]⟩ : ByteArray).data.toList ++ prT f x by rw [prT_succ, if_neg (by rw [HKD.out]; decide), if_neg (by rw [HKD.out]; decide), if_pos HKD.out, hx]; simp [refB, headT])
    have hnn := HLO.out
    rw [hx] at hnn
    have hn21 : n2 = 1 := by simpa using hnn.symm
    subst hn21
    obtain ⟨o, q, x', cs', hA, hbb, hp, hpin, hpc⟩ := HSO.out.at_ (k := 0) (by omega)
    subst hA
    have hxx : x = x' := by rw [hx] at hp; simpa using hp
    subst hxx
    have hsz : (⟨#[114, 101, 102, 32]⟩ : ByteArray).size = 4 := rfl
    have HO := hide (fun (W : World) (h : Below B w W) h2 h3 => H k x cs' B b (L ++ (⟨#[114, 101, 102, 32]⟩ : ByteArray).data.toList) W (hpin.below h) (h5 x (by rw [hx]; simp)) (by omega) h2 h3 (by rw [List.length_append]; have : (⟨#[114, 101, 102, 32]⟩ : ByteArray).data.toList.length = 4 := rfl; omega))
    cases k with
    | zero => exact hpin.elim
    | succ k =>
    obtain ⟨A7, n7, c7, A8, n8, c8, hcs', _⟩ := hpin
    subst hcs'
    have hq0 : w.cell? ⟨o, q, none⟩ = some (.int .i64 x.kind) := by simpa using hpc 0 _ rfl
    have hq1 : w.cell? ⟨o, q + 1, none⟩ = some (.slice A7 n7 c7) := by simpa using hpc 1 _ rfl
    have hq2 : w.cell? ⟨o, q + 2, none⟩ = some (.slice A8 n8 c8) := by simpa using hpc 2 _ rfl
    have HQ := hide (And.intro hq0 (And.intro hq1 hq2))
    unfold maxLen at hm hm2
    clear h1 h2 h3 h4 h5 hcn hpc hp hc5 hx hone hnn hno hq0 hq1 hq2
    rw [HPR.out]
    go_enter Tryd.func62, Tryd.ntmps62
    go_wp2_with (first | (go_at_call 17; refine (write_bytesP B b L ⟨#[114, 101, 102, 32]⟩ _ (bld_below HB.out (HA.out _)) (by simp; omega) (by omega)).mono ?_; rintro e w1 ⟨rfl, hb1, hw1, hk1w⟩; have HB1 := hide hb1; have hB1 : Below B w w1 := ((HA.out _).mono hBw).trans hw1; have HK1 := hide ((KeptBut.of_below (HA.out _)).trans hk1w); have hx1 := hk1w _ _ _ _ HX.out (by decide) (by omega); have x2 : w1.cell? ⟨w.heap.size, 2, none⟩ = some (.slice (some ⟨o, q, none⟩) 1 c2) := (block_cell hx1 2).trans rfl; have q0 : w1.cell? ⟨o, q, none⟩ = some (.int .i64 x.kind) := (hB1.cell (p := ⟨o, q, none⟩) hbb).trans HQ.out.1; have q1 : w1.cell? ⟨o, q + 1, none⟩ = some (.slice A7 n7 c7) := (hB1.cell (p := ⟨o, q + 1, none⟩) hbb).trans HQ.out.2.1; have q2 : w1.cell? ⟨o, q + 2, none⟩ = some (.slice A8 n8 c8) := (hB1.cell (p := ⟨o, q + 2, none⟩) hbb).trans HQ.out.2.2; clear hb1 hw1 hk1w hx1) | (go_at_call 62; refine (HO.out _ hB1 HB1.out (Nat.le_trans hBw hB1.size)).mono ?_; rintro e w2 ⟨rfl, hb2, hw2, hk2w⟩))
    go_end0
    exact ⟨rfl, hb2, hB1.trans hw2, HK1.out.trans hk2w⟩

  · obtain ⟨hno, hp1, hp2⟩ := h2 (by decide)
    have hone := h3 (.inr rfl)
    obtain ⟨x, hx⟩ : ∃ x, t.of = [x] := by
      match t.of, hone with
      | [x], _ => exact ⟨x, rfl⟩
    have hcn := cnt_other (f := f) hno
    rw [hx, cntTys_one] at hcn
    have HPR := hide (show L ++ prT (f + 1) t = L ++ (⟨#[108, 105, 115, 116, 32]⟩ : ByteArray).data.toList ++ prT f x by rw [prT_succ, if_neg (by rw [HKD.out]; decide), if_neg (by rw [HKD.out]; decide), if_neg (by rw [HKD.out]; decide), hx]; simp [listB, headT])
    have hnn := HLO.out
    rw [hx] at hnn
    have hn21 : n2 = 1 := by simpa using hnn.symm
    subst hn21
    obtain ⟨o, q, x', cs', hA, hbb, hp, hpin, hpc⟩ := HSO.out.at_ (k := 0) (by omega)
    subst hA
    have hxx : x = x' := by rw [hx] at hp; simpa using hp
    subst hxx
    have hsz : (⟨#[108, 105, 115, 116, 32]⟩ : ByteArray).size = 5 := rfl
    have HO := hide (fun (W : World) (h : Below B w W) h2 h3 => H k x cs' B b (L ++ (⟨#[108, 105, 115, 116, 32]⟩ : ByteArray).data.toList) W (hpin.below h) (h5 x (by rw [hx]; simp)) (by omega) h2 h3 (by rw [List.length_append]; have : (⟨#[108, 105, 115, 116, 32]⟩ : ByteArray).data.toList.length = 5 := rfl; omega))
    cases k with
    | zero => exact hpin.elim
    | succ k =>
    obtain ⟨A7, n7, c7, A8, n8, c8, hcs', _⟩ := hpin
    subst hcs'
    have hq0 : w.cell? ⟨o, q, none⟩ = some (.int .i64 x.kind) := by simpa using hpc 0 _ rfl
    have hq1 : w.cell? ⟨o, q + 1, none⟩ = some (.slice A7 n7 c7) := by simpa using hpc 1 _ rfl
    have hq2 : w.cell? ⟨o, q + 2, none⟩ = some (.slice A8 n8 c8) := by simpa using hpc 2 _ rfl
    have HQ := hide (And.intro hq0 (And.intro hq1 hq2))
    unfold maxLen at hm hm2
    clear h1 h2 h3 h4 h5 hcn hpc hp hc5 hx hone hnn hno hq0 hq1 hq2
    rw [HPR.out]
    go_enter Tryd.func62, Tryd.ntmps62
    go_wp2_with (first | (go_at_call 17; refine (write_bytesP B b L ⟨#[108, 105, 115, 116, 32]⟩ _ (bld_below HB.out (HA.out _)) (by simp; omega) (by omega)).mono ?_; rintro e w1 ⟨rfl, hb1, hw1, hk1w⟩; have HB1 := hide hb1; have hB1 : Below B w w1 := ((HA.out _).mono hBw).trans hw1; have HK1 := hide ((KeptBut.of_below (HA.out _)).trans hk1w); have hx1 := hk1w _ _ _ _ HX.out (by decide) (by omega); have x2 : w1.cell? ⟨w.heap.size, 2, none⟩ = some (.slice (some ⟨o, q, none⟩) 1 c2) := (block_cell hx1 2).trans rfl; have q0 : w1.cell? ⟨o, q, none⟩ = some (.int .i64 x.kind) := (hB1.cell (p := ⟨o, q, none⟩) hbb).trans HQ.out.1; have q1 : w1.cell? ⟨o, q + 1, none⟩ = some (.slice A7 n7 c7) := (hB1.cell (p := ⟨o, q + 1, none⟩) hbb).trans HQ.out.2.1; have q2 : w1.cell? ⟨o, q + 2, none⟩ = some (.slice A8 n8 c8) := (hB1.cell (p := ⟨o, q + 2, none⟩) hbb).trans HQ.out.2.2; clear hb1 hw1 hk1w hx1) | (go_at_call 62; refine (HO.out _ hB1 HB1.out (Nat.le_trans hBw hB1.size)).mono ?_; rintro e w2 ⟨rfl, hb2, hw2, hk2w⟩))
    go_end0
    exact ⟨rfl, hb2, hB1.trans hw2, HK1.out.trans hk2w⟩

  · obtain ⟨hno, hp1, hp2⟩ := h2 (by decide)
    have hcn := cnt_other (f := f) hno
    have hne : t.of ≠ [] := fun e => by rw [e] at hp1; simp at hp1
    have hsp := List.dropLast_concat_getLast hne
    obtain ⟨x, hxl⟩ : ∃ x, t.of.getLast hne = x := ⟨_, rfl⟩
    rw [hxl] at hsp
    have hxm : x ∈ t.of := by rw [← hxl]; exact List.getLast_mem hne
    have hsum : cntTys f t.of = cntTys f t.of.dropLast + cnt f x := by
      conv => lhs; rw [← hsp]
      rw [cntTys_append, cntTys_one]
    have hnn := HLO.out
    obtain ⟨m, hm1⟩ : ∃ m, m + 1 = n2 := ⟨n2 - 1, by omega⟩
    subst hm1
    have hdl : t.of.dropLast = t.of.take m := by rw [List.dropLast_eq_take, hnn, Nat.add_sub_cancel]
    have HPR := hide (show L ++ prT (f + 1) t = L ++ (⟨#[102, 117, 110, 99, 40]⟩ : ByteArray).data.toList ++ prTys (prT f) (t.of.take m) ++ (⟨#[41, 32]⟩ : ByteArray).data.toList ++ prT f x by
      rw [prT_succ, if_neg (by rw [HKD.out]; decide), if_pos HKD.out, hdl]
      unfold lastT
      rw [List.getLast?_eq_some_getLast hne, hxl]
      simp [funcB])
    have hgx : t.of[m]? = some x := by
      rw [← hxl, List.getLast_eq_getElem, ← List.getElem?_eq_getElem]
      congr 1; omega
    obtain ⟨o, q, x', cs', hA, hbb, hp, hpin, hpc⟩ := HSO.out.at_ (k := m) (by omega)
    subst hA
    have hxx : x = x' := Option.some.inj (hgx.symm.trans hp)
    subst hxx
    have hlt := prTys_len (f := f) (l := t.of.take m) (fun y hy => prT_len f y (h5 y (List.mem_of_mem_take hy)))
    have hct : cntTys f (t.of.take m) ≤ 500 := by rw [← hdl]; omega
    have hlt2 : (prTys (prT f) (t.of.take m)).length ≤ 700000 := by omega
    have hm21 : m ≤ 21 := by omega
    have hmc2 : m ≤ c2 := by omega
    have hcx : cnt f x ≤ 500 := by omega
    have HDL := hide (SlP.first HSO.out (i := m) (by omega))
    have HTO := hide (fun (W : World) (h : Below B w W) h2 h3 => HTS k (some ⟨o, q, none⟩) m c2 (t.of.take m) B b (L ++ (⟨#[102, 117, 110, 99, 40]⟩ : ByteArray).data.toList) W hmc2 hm2 hm21 (tys_below HDL.out h) (fun y hy => h5 y (List.mem_of_mem_take hy)) hct h2 h3 (by rw [List.length_append]; have : (⟨#[102, 117, 110, 99, 40]⟩ : ByteArray).data.toList.length = 5 := rfl; omega))
    have HO := hide (fun (W : World) (h : Below B w W) h2 h3 => H k x cs' B b (L ++ (⟨#[102, 117, 110, 99, 40]⟩ : ByteArray).data.toList ++ prTys (prT f) (t.of.take m) ++ (⟨#[41, 32]⟩ : ByteArray).data.toList) W (hpin.below h) (h5 x hxm) hcx h2 h3 (by rw [List.length_append, List.length_append, List.length_append]; have : (⟨#[102, 117, 110, 99, 40]⟩ : ByteArray).data.toList.length = 5 := rfl; have : (⟨#[41, 32]⟩ : ByteArray).data.toList.length = 2 := rfl; omega))
    cases k with
    | zero => exact hpin.elim
    | succ k =>
    obtain ⟨A7, n7, c7, A8, n8, c8, hcs', _⟩ := hpin
    subst hcs'
    have hq0 : w.cell? ⟨o, q + m * 3, none⟩ = some (.int .i64 x.kind) := by simpa using hpc 0 _ rfl
    have hq1 : w.cell? ⟨o, q + m * 3 + 1, none⟩ = some (.slice A7 n7 c7) := by simpa using hpc 1 _ rfl
    have hq2 : w.cell? ⟨o, q + m * 3 + 2, none⟩ = some (.slice A8 n8 c8) := by simpa using hpc 2 _ rfl
    have HQ := hide (And.intro hq0 (And.intro hq1 hq2))
    unfold maxLen at hm hm2
    have hmi : ((m + 1 : Nat) : Int) - 1 = (m : Int) := by omega
    have hmc : (m : Int) ≤ (c2 : Int) := by omega
    have hm0 : (0 : Int) ≤ (m : Int) := by omega
    have s5 : (⟨#[102, 117, 110, 99, 40]⟩ : ByteArray).size = 5 := rfl
    have s2 : (⟨#[41, 32]⟩ : ByteArray).size = 2 := rfl
    have l5 : (⟨#[102, 117, 110, 99, 40]⟩ : ByteArray).data.toList.length = 5 := rfl
    clear h1 h2 h3 h4 h5 hsum hcn hpc hp hc5 hno hnn hdl hgx hxm hsp hxl hne hp1 hp2 hq0 hq1 hq2 hlt hct
    rw [HPR.out]
    go_enter Tryd.func62, Tryd.ntmps62
    go_wp2_with (fail)
    refine (write_bytesP B b L ⟨#[102, 117, 110, 99, 40]⟩ _ (bld_below HB.out (HA.out _)) (by simp; omega) (by omega)).mono ?_
    rintro e w1 ⟨rfl, hb1, hw1, hk1w⟩
    have HB1 := hide hb1
    have hB1 : Below B w w1 := ((HA.out _).mono hBw).trans hw1
    have HK1 := hide ((KeptBut.of_below (HA.out _)).trans hk1w)
    have hx1 := hk1w _ _ _ _ HX.out (by decide) (by omega)
    have x2 : w1.cell? ⟨w.heap.size, 2, none⟩ = some (.slice (some ⟨o, q, none⟩) (m + 1) c2) := (block_cell hx1 2).trans rfl
    have HX1 := hide hx1
    clear hb1 hw1 hk1w hx1
    go_wp2_with (fail)
    clear x2
    refine (HTO.out _ hB1 HB1.out (Nat.le_trans hBw hB1.size)).mono ?_
    rintro e w2 ⟨rfl, hb2, hw2, hk2w⟩
    have HB2 := hide hb2
    have hB2 := hB1.trans hw2
    have HK2 := hide (HK1.out.trans hk2w)
    have HX2 := hide (hk2w _ _ _ _ HX1.out (by decide) (by omega))
    clear hb2 hw2 hk2w
    go_wp2_with (fail)
    refine (write_bytesP B b (L ++ (⟨#[102, 117, 110, 99, 40]⟩ : ByteArray).data.toList ++ prTys (prT f) (t.of.take m)) ⟨#[41, 32]⟩ _ HB2.out (Nat.le_trans hBw hB2.size) (by rw [List.length_append, List.length_append]; have l5 : (⟨#[102, 117, 110, 99, 40]⟩ : ByteArray).data.toList.length = 5 := rfl; have s2 : (⟨#[41, 32]⟩ : ByteArray).size = 2 := rfl; omega)).mono ?_
    rintro e w3 ⟨rfl, hb3, hw3, hk3w⟩
    have HB3 := hide hb3
    have hB3 := hB2.trans hw3
    have HK3 := hide (HK2.out.trans hk3w)
    have hx3 := hk3w _ _ _ _ HX2.out (by decide) (by omega)
    have x2 : w3.cell? ⟨w.heap.size, 2, none⟩ = some (.slice (some ⟨o, q, none⟩) (m + 1) c2) := (block_cell hx3 2).trans rfl
    have q0 : w3.cell? ⟨o, q + m * 3, none⟩ = some (.int .i64 x.kind) := (hB3.cell (p := ⟨o, q + m * 3, none⟩) hbb).trans HQ.out.1
    have q1 : w3.cell? ⟨o, q + m * 3 + 1, none⟩ = some (.slice A7 n7 c7) := (hB3.cell (p := ⟨o, q + m * 3 + 1, none⟩) hbb).trans HQ.out.2.1
    have q2 : w3.cell? ⟨o, q + m * 3 + 2, none⟩ = some (.slice A8 n8 c8) := (hB3.cell (p := ⟨o, q + m * 3 + 2, none⟩) hbb).trans HQ.out.2.2
    clear hb3 hw3 hk3w hx3
    go_wp2_with (fail)
    refine (HO.out _ hB3 HB3.out (Nat.le_trans hBw hB3.size)).mono ?_
    rintro e w4 ⟨rfl, hb4, hw4, hk4w⟩
    have HB4 := hide hb4
    have hB4 := hB3.trans hw4
    have HK4 := hide (HK3.out.trans hk4w)
    clear hb4 hw4 hk4w x2 q0 q1 q2
    go_wp2_with (fail)
    go_end0
    exact ⟨rfl, HB4.out, hB4, HK4.out⟩
theorem pAllP : ∀ f, pTyOk f
  | 0 => pTy_zero
  | f + 1 => pTy_succ (pParts_of (pTys_of (pAllP f))) (pTys_of (pAllP f)) (pAllP f)
end Go.Proofs.YtocpmbpckbjepaaDoor

/- Walks of hasWord and its closures (printed by gen_nh.py). -/
namespace Go.Proofs.YtocpmbpckbjepaaDoor
open Go.RowKit
set_option linter.unusedVariables false
/-- The closures' variables: 'types' in block c3, 'parts' in block c4. -/
structure Cap (c3 c4 : Nat) (w : World) : Prop where
  p : w.cell? ⟨c4, 0, none⟩ = some (.func (.func 55) #[] #[.pointer (some ⟨c3, 0, none⟩)])
  t : w.cell? ⟨c3, 0, none⟩ = some (.func (.func 58) #[] #[.pointer (some ⟨c4, 0, none⟩), .pointer (some ⟨c3, 0, none⟩)])
theorem Cap.below {c3 c4 : Nat} {w w' : World} (h : Cap c3 c4 w) (hb : Below w.heap.size w w') : Cap c3 c4 w' :=
  ⟨(hb.cell (World.block_lt_of_cell? w _ h.p)).trans h.p, (hb.cell (World.block_lt_of_cell? w _ h.t)).trans h.t⟩
def hTyOk (f : Nat) : Prop := ∀ (k : Nat) (t : Ty) (cs : List Value) (c3 c4 : Nat) (w : World), TyIn w w.heap.size k t cs → Good f t → Cap c3 c4 w →
  Calls Tryd.prog 60 #[.agg cs.toArray, .pointer (some ⟨c4, 0, none⟩), .pointer (some ⟨c3, 0, none⟩)] w fun e w' => e = .returned (.bool (wd f t)) ∧ Below w.heap.size w w'
def hTysOk (f : Nat) : Prop := ∀ (k : Nat) (A : Option Addr) (n cap : Nat) (l : List Ty) (c3 c4 : Nat) (w : World), n ≤ maxLen → Tys w w.heap.size k A n l → GoodTys f l → Cap c3 c4 w →
  Calls Tryd.prog 58 #[.slice A n cap, .pointer (some ⟨c4, 0, none⟩), .pointer (some ⟨c3, 0, none⟩)] w fun e w' => e = .returned (.bool (wdTys f l)) ∧ Below w.heap.size w w'
def hPartOk (f : Nat) : Prop := ∀ (k : Nat) (p : Part) (cs : List Value) (c3 c4 : Nat) (w : World), PartIn w w.heap.size (TyIn w w.heap.size k) p cs → GoodTys f p.2 → Cap c3 c4 w →
  Calls Tryd.prog 57 #[.agg cs.toArray, .pointer (some ⟨c3, 0, none⟩)] w fun e w' => e = .returned (.bool (wdTys f p.2)) ∧ Below w.heap.size w w'
def hPartsOk (f : Nat) : Prop := ∀ (k : Nat) (A : Option Addr) (n cap : Nat) (l : List Part) (c3 c4 : Nat) (w : World), n ≤ maxLen → Parts w w.heap.size k A n l → GoodParts f l → Cap c3 c4 w →
  Calls Tryd.prog 55 #[.slice A n cap, .pointer (some ⟨c3, 0, none⟩)] w fun e w' => e = .returned (.bool (wdParts f l)) ∧ Below w.heap.size w w'

set_option maxRecDepth 100000 in
set_option maxHeartbeats 4000000 in
theorem idxT {f : Nat} (H : hTyOk f) (k : Nat) (A : Option Addr) (n cap : Nat) (l : List Ty) (c3 c4 : Nat) (w : World) (hn : n ≤ maxLen) (hl : Tys w w.heap.size k A n l) (hg : GoodTys f l) (hc : Cap c3 c4 w) :
    Calls Tryd.prog 73 #[.slice A n cap, .func (.func 60) #[] #[.pointer (some ⟨c4, 0, none⟩), .pointer (some ⟨c3, 0, none⟩)]] w fun e w' => (∃ i : Int, e = .returned (.int .i64 i) ∧ decide (0 ≤ i) = wdTys f l) ∧ Below w.heap.size w w' := by
  unfold maxLen at hn
  have HL := hide hl.len
  have HSL := hide hl
  have HG := hide hg
  have HH := hide H
  have HC := hide hc
  clear hl hg H hc
  go_enter Tryd.func73, Tryd.ntmps73
  go_wp2_with (fail)
  go_loopw [8] (fun i wr => ∃ j : Nat, j ≤ n ∧ i = .int .i64 j ∧ wdTys f (l.take j) = false ∧ Below w.heap.size w wr) (fun i _ => n - (intOf i).toNat)
  case atStart => exact ⟨0, Nat.zero_le _, rfl, rfl, Below.refl _ _⟩
  case round =>
    obtain ⟨j, hj, rfl, hwd, hB⟩ := hrel
    have HWD := hide hwd
    clear hwd
    have hz := hB.size
    by_cases hlt : j < n
    · obtain ⟨b, o, t, cs, rfl, hb, ht, hin, hcs⟩ := (tys_up HSL.out hB).at_ hlt
      have HT := hide ht
      have hm := List.mem_of_getElem? ht
      have HO := hide (HH.out k t cs c3 c4 wr hin (HG.out t hm) (HC.out.below hB))
      cases k with
      | zero => exact hin.elim
      | succ k =>
      obtain ⟨A1, n1, cap1, A2, n2, cap2, rfl, _⟩ := hin
      have c0 : wr.cell? ⟨b, o + j * 3, none⟩ = some (.int .i64 t.kind) := by simpa using hcs 0 _ rfl
      have c1 : wr.cell? ⟨b, o + j * 3 + 1, none⟩ = some (.slice A1 n1 cap1) := hcs 1 _ rfl
      have c2 : wr.cell? ⟨b, o + j * 3 + 2, none⟩ = some (.slice A2 n2 cap2) := hcs 2 _ rfl
      clear hcs ht hm
      obtain ⟨v, hv⟩ : ∃ v, wd f t = v := ⟨_, rfl⟩
      rw [hv] at HO
      cases v
      · have HN := hide (wdTys_snoc HWD.out HT.out hv)
        clear hv
        go_wp2_with (go_at_call 60; refine HO.out.mono ?_; rintro e w2 ⟨rfl, hw2⟩; have hB2 := hB.trans (hw2.mono hz))
        go_roundw
        case rel => exact ⟨j + 1, by omega, by go_num, HN.out, hB2⟩
        case measure => simp [intOf]; omega
      · have E := hide (wdTys_hit HT.out hv)
        clear hv
        go_wp2_with (go_at_call 60; refine HO.out.mono ?_; rintro e w2 ⟨rfl, hw2⟩; have hB2 := hB.trans (hw2.mono hz))
        go_ret
        exact ⟨⟨_, rfl, by rw [E.out]; simp⟩, hB2⟩
    · obtain rfl : j = n := by omega
      have E := hide (show wdTys f l = false by have := HWD.out; rw [take_len l (by rw [HL.out]; exact Nat.le_refl _)] at this; exact this)
      go_wp2_with (fail)
      go_ret
      exact ⟨⟨-1, rfl, by rw [E.out]; decide⟩, hB⟩

set_option maxHeartbeats 1000000 in
theorem conT {f : Nat} (H : hTyOk f) (k : Nat) (A : Option Addr) (n cap : Nat) (l : List Ty) (c3 c4 : Nat) (w : World) (hn : n ≤ maxLen) (hl : Tys w w.heap.size k A n l) (hg : GoodTys f l) (hc : Cap c3 c4 w) :
    Calls Tryd.prog 59 #[.slice A n cap, .func (.func 60) #[] #[.pointer (some ⟨c4, 0, none⟩), .pointer (some ⟨c3, 0, none⟩)]] w fun e w' => e = .returned (.bool (wdTys f l)) ∧ Below w.heap.size w w' := by
  have HI := hide (idxT H k A n cap l c3 c4 w hn hl hg hc)
  clear hl hg hc H hn
  obtain ⟨v, hv⟩ : ∃ v, wdTys f l = v := ⟨_, rfl⟩
  rw [hv] at HI ⊢
  clear hv
  go_enter Tryd.func59, Tryd.ntmps59
  go_wp2_with (fail)
  refine HI.out.mono ?_
  rintro e w2 ⟨⟨i, rfl, hi⟩, hw2⟩
  cases v
  · have hi1 : decide (0 ≤ i) = false := hi
    have hi2 : i < 0 := by simpa using hi
    clear hi
    go_wp2_with (fail)
    go_ret
    exact ⟨rfl, hw2⟩
  · have hi1 : 0 ≤ i := by simpa using hi
    clear hi
    go_wp2_with (fail)
    go_ret
    exact ⟨rfl, hw2⟩

set_option maxHeartbeats 1000000 in
theorem hTys_of {f : Nat} (H : hTyOk f) : hTysOk f := by
  intro k A n cap l c3 c4 w hn hl hg hc
  have HI := hide (conT H k A n cap l c3 c4 w hn hl hg hc)
  clear hl hg hc H hn
  go_enter Tryd.func58, Tryd.ntmps58
  go_wp2_with (go_at_call 59; refine HI.out.mono ?_; rintro e w2 ⟨rfl, hw2⟩)
  go_ret
  exact ⟨rfl, hw2⟩
set_option maxHeartbeats 1000000 in
theorem hPart_of {f : Nat} (H : hTysOk f) : hPartOk f := by
  intro k p cs c3 c4 w hin hg hc
  obtain ⟨A, n, c, rfl, hs, hn, hm, hl⟩ := hin
  obtain ⟨tx, ar⟩ := p
  have HA := hide (fun ob : Obj => show Below w.heap.size w (w.alloc ob) from (Below.refl _ _).alloc (Nat.le_refl _) ob)
  have HI := hide (fun ob : Obj => H k A n c ar c3 c4 (w.alloc ob) (Nat.le_trans hn hm) (tys_up hl (HA.out ob)) hg (hc.below (HA.out ob)))
  have h3 := hc.t
  have h3l := World.block_lt_of_cell? w _ hc.t
  simp only at h3l
  unfold maxLen at hs hm
  clear hl hg hc H
  go_enter Tryd.func57, Tryd.ntmps57
  go_wp2_with (go_at_call 58; refine (HI.out _).mono ?_; rintro e w2 ⟨rfl, hw2⟩; have hB2 := (HA.out _).trans (hw2.mono (by simp)))
  go_ret
  exact ⟨rfl, hB2⟩

set_option maxRecDepth 100000 in
set_option maxHeartbeats 4000000 in
theorem idxP {f : Nat} (H : hPartOk f) (k : Nat) (A : Option Addr) (n cap : Nat) (l : List Part) (c3 c4 : Nat) (w : World) (hn : n ≤ maxLen) (hl : Parts w w.heap.size k A n l) (hg : GoodParts f l) (hc : Cap c3 c4 w) :
    Calls Tryd.prog 72 #[.slice A n cap, .func (.func 57) #[] #[.pointer (some ⟨c3, 0, none⟩)]] w fun e w' => (∃ i : Int, e = .returned (.int .i64 i) ∧ decide (0 ≤ i) = wdParts f l) ∧ Below w.heap.size w w' := by
  unfold maxLen at hn
  have HL := hide hl.len
  have HSL := hide hl
  have HG := hide hg
  have HH := hide H
  have HC := hide hc
  clear hl hg H hc
  go_enter Tryd.func72, Tryd.ntmps72
  go_wp2_with (fail)
  go_loopw [8] (fun i wr => ∃ j : Nat, j ≤ n ∧ i = .int .i64 j ∧ wdParts f (l.take j) = false ∧ Below w.heap.size w wr) (fun i _ => n - (intOf i).toNat)
  case atStart => exact ⟨0, Nat.zero_le _, rfl, rfl, Below.refl _ _⟩
  case round =>
    obtain ⟨j, hj, rfl, hwd, hB⟩ := hrel
    have HWD := hide hwd
    clear hwd
    have hz := hB.size
    by_cases hlt : j < n
    · obtain ⟨b, o, t, cs, rfl, hb, ht, hin, hcs⟩ := (parts_up HSL.out hB).at_ hlt
      have HT := hide ht
      have hm := List.mem_of_getElem? ht
      have HO := hide (HH.out k t cs c3 c4 wr hin ((HG.out t hm).2.2) (HC.out.below hB))
      obtain ⟨A1, n1, cap1, rfl, _⟩ := hin
      have c0 : wr.cell? ⟨b, o + j * 2, none⟩ = some (.string t.1) := by simpa using hcs 0 _ rfl
      have c1 : wr.cell? ⟨b, o + j * 2 + 1, none⟩ = some (.slice A1 n1 cap1) := hcs 1 _ rfl
      clear hcs ht hm
      obtain ⟨v, hv⟩ : ∃ v, wdTys f t.2 = v := ⟨_, rfl⟩
      rw [hv] at HO
      cases v
      · have HN := hide (wdParts_snoc HWD.out HT.out hv)
        clear hv
        go_wp2_with (go_at_call 57; refine HO.out.mono ?_; rintro e w2 ⟨rfl, hw2⟩; have hB2 := hB.trans (hw2.mono hz))
        go_roundw
        case rel => exact ⟨j + 1, by omega, by go_num, HN.out, hB2⟩
        case measure => simp [intOf]; omega
      · have E := hide (wdParts_hit HT.out hv)
        clear hv
        go_wp2_with (go_at_call 57; refine HO.out.mono ?_; rintro e w2 ⟨rfl, hw2⟩; have hB2 := hB.trans (hw2.mono hz))
        go_ret
        exact ⟨⟨_, rfl, by rw [E.out]; simp⟩, hB2⟩
    · obtain rfl : j = n := by omega
      have E := hide (show wdParts f l = false by have := HWD.out; rw [take_len l (by rw [HL.out]; exact Nat.le_refl _)] at this; exact this)
      go_wp2_with (fail)
      go_ret
      exact ⟨⟨-1, rfl, by rw [E.out]; decide⟩, hB⟩

set_option maxHeartbeats 1000000 in
theorem conP {f : Nat} (H : hPartOk f) (k : Nat) (A : Option Addr) (n cap : Nat) (l : List Part) (c3 c4 : Nat) (w : World) (hn : n ≤ maxLen) (hl : Parts w w.heap.size k A n l) (hg : GoodParts f l) (hc : Cap c3 c4 w) :
    Calls Tryd.prog 56 #[.slice A n cap, .func (.func 57) #[] #[.pointer (some ⟨c3, 0, none⟩)]] w fun e w' => e = .returned (.bool (wdParts f l)) ∧ Below w.heap.size w w' := by
  have HI := hide (idxP H k A n cap l c3 c4 w hn hl hg hc)
  clear hl hg hc H hn
  obtain ⟨v, hv⟩ : ∃ v, wdParts f l = v := ⟨_, rfl⟩
  rw [hv] at HI ⊢
  clear hv
  go_enter Tryd.func56, Tryd.ntmps56
  go_wp2_with (fail)
  refine HI.out.mono ?_
  rintro e w2 ⟨⟨i, rfl, hi⟩, hw2⟩
  cases v
  · have hi1 : decide (0 ≤ i) = false := hi
    have hi2 : i < 0 := by simpa using hi
    clear hi
    go_wp2_with (fail)
    go_ret
    exact ⟨rfl, hw2⟩
  · have hi1 : 0 ≤ i := by simpa using hi
    clear hi
    go_wp2_with (fail)
    go_ret
    exact ⟨rfl, hw2⟩

set_option maxHeartbeats 1000000 in
theorem hParts_of {f : Nat} (H : hPartOk f) : hPartsOk f := by
  intro k A n cap l c3 c4 w hn hl hg hc
  have HI := hide (conP H k A n cap l c3 c4 w hn hl hg hc)
  clear hl hg hc H hn
  go_enter Tryd.func55, Tryd.ntmps55
  go_wp2_with (go_at_call 56; refine HI.out.mono ?_; rintro e w2 ⟨rfl, hw2⟩)
  go_ret
  exact ⟨rfl, hw2⟩
theorem hTy_zero : hTyOk 0 := fun _ _ _ _ _ _ _ h => h.elim
theorem wd_head {f : Nat} {t : Ty} (hk : t.kind = 1) (h : headW t.name = true) : wd (f + 1) t = true := by unfold wd; rw [hk, h]; simp
theorem wd_rest {f : Nat} {t : Ty} (h : (decide (t.kind = 1) && headW t.name) = false) : wd (f + 1) t = (wdParts f t.name || wdTys f t.of) := by
  unfold wd wdParts wdTys; rw [h]; simp
set_option maxRecDepth 100000 in
set_option maxHeartbeats 8000000 in
theorem hTy_succ {f : Nat} (HPS : hPartsOk f) (HTS : hTysOk f) : hTyOk (f + 1) := by
  intro k t cs c3 c4 w hin hg hcap
  cases k with
  | zero => exact hin.elim
  | succ k =>
  obtain ⟨A, n, c, A2, n2, c2, rfl, hn, hm, hn2, hm2, hl, hl2⟩ := hin
  obtain ⟨⟨hk1, hk4⟩, h1, h2, h3, h4, h5⟩ := hg
  have HSL := hide hl
  have HLN := hide hl.len
  have HA := hide (fun ob : Obj => show Below w.heap.size w (w.alloc ob) from (Below.refl _ _).alloc (Nat.le_refl _) ob)
  have HP := hide (fun ob : Obj => HPS k A n c t.name c3 c4 (w.alloc ob) (Nat.le_trans hn hm) (parts_up hl (HA.out ob)) h4 (hcap.below (HA.out ob)))
  have HT := hide (fun (W : World) (h : Below w.heap.size w W) => HTS k A2 n2 c2 t.of c3 c4 W (Nat.le_trans hn2 hm2) (tys_up hl2 h) h5 (hcap.below h))
  have HX := hide (heap_alloc_new w (.cells #[.int .i64 t.kind, .slice A n c, .slice A2 n2 c2] 75))
  have HCP := hide hcap
  have q4 := hcap.p
  have q3 := hcap.t
  have l3 := World.block_lt_of_cell? w _ hcap.t
  have l4 := World.block_lt_of_cell? w _ hcap.p
  simp only at l3 l4
  unfold maxLen at hm hm2
  obtain ⟨K, hKd⟩ : ∃ K, t.kind = K := ⟨_, rfl⟩
  rw [hKd] at HX h1 ⊢
  have HKD := hide hKd
  clear hl hl2 h2 h3 h4 h5 hcap HPS HTS hKd
  by_cases hK : K = 1
  · subst hK
    obtain ⟨ho, hp1, hp2⟩ := h1 rfl
    have hnn := HLN.out
    obtain ⟨b, o, p, cs', hA, hb, hp, hpin, hpc⟩ := HSL.out.at_ (k := 0) (by omega)
    subst hA
    obtain ⟨A7, n7, c7, hcs', hps, _⟩ := hpin
    subst hcs'
    have p0 : w.cell? ⟨b, o, none⟩ = some (.string p.1) := by simpa using hpc 0 _ rfl
    have hhw : headW t.name = wordS p.1 := by
      unfold headW
      split
      · rename_i e; rw [e] at hp; cases hp
      · rename_i q r e; rw [e] at hp; simp at hp; subst hp; rfl
    have HRS := hide (fun W => isWord_any p.1 W)
    have hn0 : 0 < n := by omega
    have hn0i : (0 : Int) < (n : Int) := by omega
    clear hpc hps
    cases hws : wordS p.1
    · have HWD := hide (wd_rest (f := f) (t := t) (by rw [hhw, hws]; simp))
      rw [hws] at HRS
      clear hp hhw hws ho h1
      rw [HWD.out]
      obtain ⟨va, hva⟩ : ∃ va, wdParts f t.name = va := ⟨_, rfl⟩
      obtain ⟨vb, hvb⟩ : ∃ vb, wdTys f t.of = vb := ⟨_, rfl⟩
      rw [hva] at HP ⊢
      rw [hvb] at HT ⊢
      clear hva hvb
      cases va
      · go_enter Tryd.func60, Tryd.ntmps60
        go_wp2_with (first | (go_at_call 61; refine (HRS.out _).mono ?_; rintro e w' ⟨rfl, rfl⟩) | (go_at_call 55; refine (HP.out _).mono ?_; rintro e w2 ⟨rfl, hw2⟩; have hB2 : Below w.heap.size w w2 := (HA.out _).trans (hw2.mono (by simp)); have x2 : w2.cell? ⟨w.heap.size, 2, none⟩ = some (.slice A2 n2 c2) := (block_cell (block_below HX.out hw2) 2).trans rfl; have z3 := (HCP.out.below hB2).t; clear hw2) | (go_at_call 58; refine (HT.out _ hB2).mono ?_; rintro e w3 ⟨rfl, hw3⟩; have hB3 := hB2.trans (hw3.mono hB2.size)))
        go_ret
        exact ⟨rfl, hB3⟩
      · go_enter Tryd.func60, Tryd.ntmps60
        go_wp2_with (first | (go_at_call 61; refine (HRS.out _).mono ?_; rintro e w' ⟨rfl, rfl⟩) | (go_at_call 55; refine (HP.out _).mono ?_; rintro e w2 ⟨rfl, hw2⟩; have hB2 : Below w.heap.size w w2 := (HA.out _).trans (hw2.mono (by simp)); have x2 : w2.cell? ⟨w.heap.size, 2, none⟩ = some (.slice A2 n2 c2) := (block_cell (block_below HX.out hw2) 2).trans rfl; have z3 := (HCP.out.below hB2).t; clear hw2))
        go_ret
        exact ⟨rfl, hB2⟩
    · have HWD := hide (wd_head (f := f) (t := t) HKD.out (by rw [hhw, hws]))
      rw [hws] at HRS
      clear hp hhw hws ho h1
      rw [HWD.out]
      go_enter Tryd.func60, Tryd.ntmps60
      go_wp2_with (go_at_call 61; refine (HRS.out _).mono ?_; rintro e w' ⟨rfl, rfl⟩)
      go_ret
      exact ⟨rfl, HA.out _⟩
  · have HWD := hide (wd_rest (f := f) (t := t) (by rw [HKD.out]; simp [hK]))
    have hK2 : (K == 1) = false := by simpa using hK
    clear h1
    rw [HWD.out]
    obtain ⟨va, hva⟩ : ∃ va, wdParts f t.name = va := ⟨_, rfl⟩
    obtain ⟨vb, hvb⟩ : ∃ vb, wdTys f t.of = vb := ⟨_, rfl⟩
    rw [hva] at HP ⊢
    rw [hvb] at HT ⊢
    clear hva hvb
    cases va
    · go_enter Tryd.func60, Tryd.ntmps60
      go_wp2_with (first | (go_at_call 55; refine (HP.out _).mono ?_; rintro e w2 ⟨rfl, hw2⟩; have hB2 : Below w.heap.size w w2 := (HA.out _).trans (hw2.mono (by simp)); have x2 : w2.cell? ⟨w.heap.size, 2, none⟩ = some (.slice A2 n2 c2) := (block_cell (block_below HX.out hw2) 2).trans rfl; have z3 := (HCP.out.below hB2).t; clear hw2) | (go_at_call 58; refine (HT.out _ hB2).mono ?_; rintro e w3 ⟨rfl, hw3⟩; have hB3 := hB2.trans (hw3.mono hB2.size)))
      go_ret
      exact ⟨rfl, hB3⟩
    · go_enter Tryd.func60, Tryd.ntmps60
      go_wp2_with (go_at_call 55; refine (HP.out _).mono ?_; rintro e w2 ⟨rfl, hw2⟩; have hB2 : Below w.heap.size w w2 := (HA.out _).trans (hw2.mono (by simp)); have x2 : w2.cell? ⟨w.heap.size, 2, none⟩ = some (.slice A2 n2 c2) := (block_cell (block_below HX.out hw2) 2).trans rfl; have z3 := (HCP.out.below hB2).t; clear hw2)
      go_ret
      exact ⟨rfl, hB2⟩
theorem hAll : ∀ f, hTyOk f
  | 0 => hTy_zero
  | f + 1 => hTy_succ (hParts_of (hPart_of (hTys_of (hAll f)))) (hTys_of (hAll f))
theorem hw_world {w : World} {a : Array Value} {TS T3 T4 : TypeId} {F3 F4 : Value} :
    (((w.alloc (.cells a TS)).alloc (.cells #[F3] T3)).alloc (.cells #[F4] T4)).heap[w.heap.size]? = some (.cells a TS (0, 0)) ∧
    (((w.alloc (.cells a TS)).alloc (.cells #[F3] T3)).alloc (.cells #[F4] T4)).heap[w.heap.size + 1]? = some (.cells #[F3] T3 (0, 0)) ∧
    (((w.alloc (.cells a TS)).alloc (.cells #[F3] T3)).alloc (.cells #[F4] T4)).heap[w.heap.size + 1 + 1]? = some (.cells #[F4] T4 (0, 0)) ∧
    Below w.heap.size w (((w.alloc (.cells a TS)).alloc (.cells #[F3] T3)).alloc (.cells #[F4] T4)) := by
  have h0 := heap_alloc_new w (.cells a TS)
  have h1 := heap_alloc_new (w.alloc (.cells a TS)) (.cells #[F3] T3)
  have h2 := heap_alloc_new ((w.alloc (.cells a TS)).alloc (.cells #[F3] T3)) (.cells #[F4] T4)
  simp only [World.size_alloc] at h1 h2
  have k0 := block_below (block_below h0 ((Below.refl _ _).alloc (Nat.le_refl _) (.cells #[F3] T3))) ((Below.refl _ _).alloc (Nat.le_refl _) (.cells #[F4] T4))
  have k1 := block_below h1 ((Below.refl _ _).alloc (Nat.le_refl _) (.cells #[F4] T4))
  exact ⟨k0, k1, h2, ((Below.refl _ _).alloc (Nat.le_refl _) _).alloc (by simp) _ |>.alloc (by simp; omega) _⟩
set_option maxRecDepth 100000 in
set_option maxHeartbeats 4000000 in
theorem hasWord_any (k : Nat) (s : Sym) (cs : List Value) (w : World) (hin : SymIn w k s cs) (h0 : (symE s).1 = 0) :
    Calls Tryd.prog 32 #[.agg cs.toArray] w fun e w' => e = .returned (.bool (wdParts 12 s.name || wdTys 12 s.takes)) ∧ Below w.heap.size w w' := by
  obtain ⟨g1, _, _, g4, _, _⟩ := sym_good h0
  obtain ⟨A, n, c, A2, n2, c2, rfl, hn, hm, hn2, hm2, hl, hl2⟩ := hin
  have HP := hide (fun (W : World) (h : Below w.heap.size w W) (hc : Cap (w.heap.size + 1) (w.heap.size + 1 + 1) W) => hParts_of (hPart_of (hTys_of (hAll 12))) k A n c s.name _ _ W (Nat.le_trans hn hm) (parts_up hl h) g1 hc)
  have HT := hide (fun (W : World) (h : Below w.heap.size w W) (hc : Cap (w.heap.size + 1) (w.heap.size + 1 + 1) W) => hTys_of (hAll 12) k A2 n2 c2 s.takes _ _ W (Nat.le_trans hn2 hm2) (tys_up hl2 h) g4 hc)
  unfold maxLen at hm hm2
  clear hl hl2 g1 g4 h0
  obtain ⟨va, hva⟩ : ∃ va, wdParts 12 s.name = va := ⟨_, rfl⟩
  obtain ⟨vb, hvb⟩ : ∃ vb, wdTys 12 s.takes = vb := ⟨_, rfl⟩
  rw [hva] at HP ⊢
  rw [hvb] at HT ⊢
  clear hva hvb
  obtain ⟨e3, e4, e5, e6⟩ := hw_world (w := w) (a := #[.slice A n c, .slice A2 n2 c2]) (TS := 25) (T3 := 108) (T4 := 111) (F3 := .func (.func 58) #[] #[.pointer (some ⟨w.heap.size + 1 + 1, 0, none⟩), .pointer (some ⟨w.heap.size + 1, 0, none⟩)]) (F4 := .func (.func 55) #[] #[.pointer (some ⟨w.heap.size + 1, 0, none⟩)])
  have d3 := (block_cell e4 0).trans rfl
  have d4 := (block_cell e5 0).trans rfl
  have HE3 := hide e3
  have HCA := hide (Cap.mk d4 d3)
  have HBE := hide e6
  clear e3 e4 e5 e6 d3 d4
  go_enter Tryd.func32, Tryd.ntmps32
  go_wp2_with (fail)
  cases va
  · refine (HP.out _ HBE.out HCA.out).mono ?_
    rintro e w2 ⟨rfl, hw2⟩
    have hB2 := HBE.out.trans (hw2.mono HBE.out.size)
    have x1 : w2.cell? ⟨w.heap.size, 1, none⟩ = some (.slice A2 n2 c2) := (block_cell (block_below HE3.out hw2) 1).trans rfl
    have hc2 := HCA.out.below hw2
    have z3 := hc2.t
    have HC2 := hide hc2
    clear hw2 hc2
    go_wp2_with (go_at_call 58; refine (HT.out _ hB2 HC2.out).mono ?_; rintro e w3 ⟨rfl, hw3⟩; have hB3 := hB2.trans (hw3.mono hB2.size))
    go_ret
    exact ⟨rfl, hB3⟩
  · refine (HP.out _ HBE.out HCA.out).mono ?_
    rintro e w2 ⟨rfl, hw2⟩
    have hB2 := HBE.out.trans (hw2.mono HBE.out.size)
    clear hw2
    go_wp2_with (fail)
    go_ret
    exact ⟨rfl, hB2⟩
end Go.Proofs.YtocpmbpckbjepaaDoor

/- Walks of Print and Printed. -/
namespace Go.Proofs.YtocpmbpckbjepaaDoor
open Go.RowKit
set_option linter.unusedVariables false
set_option linter.unusedSimpArgs false
def symW (s : Sym) : Bool := wdParts 12 s.name || wdTys 12 s.takes
theorem symE_500 {s : Sym} (h : (symE s).1 = 0) : (symE s).2 ≤ 500 := by
  have h0 := h
  unfold symE at h0
  by_cases h1 : (chkName (chkTy 12) s.name 0).1 = 0
  · rw [if_neg (by simpa using h1)] at h0
    have a := chkName_le (chkTy_le 12) s.name 0 (by decide) h1
    have b := chkList_le (chkTy_le 12) 20 s.takes _ a h0
    have hs : (symE s).2 = (chkList (chkTy 12) 20 s.takes (chkName (chkTy 12) s.name 0).2).2 := by unfold symE; rw [if_neg (by simpa using h1)]
    omega
  · rw [if_pos h1] at h0; exact absurd h0 h1
set_option maxHeartbeats 1000000 in
theorem Print_err (k : Nat) (s : Sym) (cs : List Value) (w : World) (hin : SymIn w k s cs) (E : Int) (hE : (symE s).1 = E) (h0 : E ≠ 0) :
    Calls Tryd.prog 14 #[.agg cs.toArray] w fun e w' => e = .returned (.tuple #[.string ⟨#[]⟩, .int .i64 E]) ∧ Below w.heap.size w w' := by
  have HA := hide (fun ob : Obj => show Below w.heap.size w (w.alloc ob) from (Below.refl _ _).alloc (Nat.le_refl _) ob)
  have HC := hide (fun ob : Obj => hE ▸ Check_any k s cs (w.alloc ob) (hin.up (HA.out ob)))
  obtain ⟨A, n, c, A2, n2, c2, rfl, hn, hm, hn2, hm2, hl, hl2⟩ := hin
  have h0' : (E == 0) = false := by simpa using h0
  clear hl hl2 hE
  go_enter Tryd.func14, Tryd.ntmps14
  go_wp2_with (go_at_call 16; refine (HC.out _).mono ?_; rintro e w2 ⟨rfl, hw2⟩; have hB2 := (HA.out _).trans (hw2.mono (by simp)))
  go_ret2
  exact ⟨rfl, hB2⟩
set_option maxHeartbeats 1000000 in
theorem Print_word (k : Nat) (s : Sym) (cs : List Value) (w : World) (hin : SymIn w k s cs) (h0 : (symE s).1 = 0) (hW : symW s = true) :
    Calls Tryd.prog 14 #[.agg cs.toArray] w fun e w' => e = .returned (.tuple #[.string ⟨#[]⟩, .int .i64 3]) ∧ Below w.heap.size w w' := by
  have HA := hide (fun ob : Obj => show Below w.heap.size w (w.alloc ob) from (Below.refl _ _).alloc (Nat.le_refl _) ob)
  have HC := hide (fun ob : Obj => h0 ▸ Check_any k s cs (w.alloc ob) (hin.up (HA.out ob)))
  have HH := hide (fun (W : World) (h : Below w.heap.size w W) => show Calls Tryd.prog 32 #[.agg cs.toArray] W fun e w' => e = .returned (.bool true) ∧ Below W.heap.size W w' from hW ▸ hasWord_any k s cs W (hin.up h) h0)
  obtain ⟨A, n, c, A2, n2, c2, rfl, hn, hm, hn2, hm2, hl, hl2⟩ := hin
  have HX := hide (heap_alloc_new w (.cells #[.slice A n c, .slice A2 n2 c2] 25))
  clear hl hl2 h0 hW
  go_enter Tryd.func14, Tryd.ntmps14
  go_wp2_with (first | (go_at_call 16; refine (HC.out _).mono ?_; rintro e w2 ⟨rfl, hw2⟩; have hB2 := (HA.out _).trans (hw2.mono (by simp)); have x0 : w2.cell? ⟨w.heap.size, 0, none⟩ = some (.slice A n c) := (block_cell (block_below HX.out hw2) 0).trans rfl; have x1 : w2.cell? ⟨w.heap.size, 1, none⟩ = some (.slice A2 n2 c2) := (block_cell (block_below HX.out hw2) 1).trans rfl) | (go_at_call 32; refine (HH.out _ hB2).mono ?_; rintro e w3 ⟨rfl, hw3⟩; have hB3 := hB2.trans (hw3.mono hB2.size)))
  go_ret2
  exact ⟨rfl, hB3⟩
set_option maxRecDepth 100000 in
set_option maxHeartbeats 8000000 in
theorem Print_ok (k : Nat) (s : Sym) (cs : List Value) (w : World) (hin : SymIn w k s cs) (h0 : (symE s).1 = 0) (hW : symW s = false) :
    Calls Tryd.prog 14 #[.agg cs.toArray] w fun e w' => e = .returned (if 8000 < (prSym s).length then .tuple #[.string ⟨#[]⟩, .int .i64 4] else .tuple #[.string ⟨(prSym s).toArray⟩, .int .i64 0]) ∧ Below w.heap.size w w' := by
  have HA := hide (fun ob : Obj => show Below w.heap.size w (w.alloc ob) from (Below.refl _ _).alloc (Nat.le_refl _) ob)
  have HC := hide (fun ob : Obj => h0 ▸ Check_any k s cs (w.alloc ob) (hin.up (HA.out ob)))
  have HH := hide (fun (W : World) (h : Below w.heap.size w W) => show Calls Tryd.prog 32 #[.agg cs.toArray] W fun e w' => e = .returned (.bool false) ∧ Below W.heap.size W w' from hW ▸ hasWord_any k s cs W (hin.up h) h0)
  obtain ⟨g1, g2, g3, g4, g5, g6⟩ := sym_good h0
  have h500 := symE_500 h0
  obtain ⟨A, n, c, A2, n2, c2, rfl, hn, hm, hn2, hm2, hl, hl2⟩ := hin
  have hnl := hl.len
  have hnl2 := hl2.len
  have hpl := prName_len (f := 12) (l := s.name) (fun p hp => ⟨(g1 p hp).1, fun x hx => prT_len 12 x ((g1 p hp).2.2 x hx)⟩) g3
  have htl := prTys_len (f := 12) (l := s.takes) (fun x hx => prT_len 12 x (g4 x hx))
  obtain ⟨L1, hL1⟩ : ∃ L1, prName (prT 12) s.name = L1 := ⟨_, rfl⟩
  obtain ⟨L2, hL2⟩ : ∃ L2, prTys (prT 12) s.takes = L2 := ⟨_, rfl⟩
  have hs : prSym s = L1 ++ [40] ++ L2 ++ [41] := by unfold prSym; rw [hL1, hL2]
  rw [hL1] at hpl
  rw [hL2] at htl
  have hl1 : L1.length ≤ 710000 := by omega
  have hl2' : L2.length ≤ 710000 := by omega
  have HP := hide (fun (b : Nat) (W : World) (h : Below w.heap.size w W) h2 h3 => hL1 ▸ pParts_of (pTys_of (pAllP 12)) k A n c s.name w.heap.size b [] W hn hm (by omega) (parts_below hl h) g1 (by omega) h2 h3 (by rw [List.length_nil]; omega))
  have HT := hide (fun (b : Nat) (W : World) (h : Below w.heap.size w W) h2 h3 => hL2 ▸ pTys_of (pAllP 12) k A2 n2 c2 s.takes w.heap.size b (L1 ++ [40]) W hn2 hm2 (by omega) (tys_below hl2 h) g4 (by omega) h2 h3 (by rw [List.length_append, List.length_singleton]; omega))
  have HX := hide (heap_alloc_new w (.cells #[.slice A n c, .slice A2 n2 c2] 25))
  rw [hs]
  obtain ⟨RB, hRB⟩ : ∃ RB : List UInt8, L1 ++ [40] ++ L2 ++ [41] = RB := ⟨_, rfl⟩
  rw [hRB]
  have HRB := hide hRB
  obtain ⟨NL, hNL⟩ : ∃ NL, RB.length = NL := ⟨_, rfl⟩
  rw [hNL]
  have HNL := hide hNL
  obtain ⟨RV, hRV⟩ : ∃ RV : Value, (if 8000 < NL then .tuple #[.string ⟨#[]⟩, .int .i64 4] else .tuple #[.string ⟨RB.toArray⟩, .int .i64 0]) = RV := ⟨_, rfl⟩
  rw [hRV]
  have HRV := hide hRV
  clear hRV
  unfold maxLen at hm hm2
  clear hl hl2 g1 g2 g3 g4 g5 g6 h0 hW hpl htl hL1 hL2 hs hRB hNL h500 hnl hnl2
  go_enter Tryd.func14, Tryd.ntmps14
  go_wp2_with (first | (go_at_call 16; refine (HC.out _).mono ?_; rintro e w2 ⟨rfl, hw2⟩; have hB2 := (HA.out _).trans (hw2.mono (by simp)); have HX2 := hide (block_below HX.out hw2); have x0 : w2.cell? ⟨w.heap.size, 0, none⟩ = some (.slice A n c) := (block_cell HX2.out 0).trans rfl; have x1 : w2.cell? ⟨w.heap.size, 1, none⟩ = some (.slice A2 n2 c2) := (block_cell HX2.out 1).trans rfl; clear hw2) | (go_at_call 32; refine (HH.out _ hB2).mono ?_; rintro e w3 ⟨rfl, hw3⟩; have hB3 := hB2.trans (hw3.mono hB2.size); have HX3 := hide (block_below HX2.out hw3); have y0 : w3.cell? ⟨w.heap.size, 0, none⟩ = some (.slice A n c) := (block_cell HX3.out 0).trans rfl; have y1 : w3.cell? ⟨w.heap.size, 1, none⟩ = some (.slice A2 n2 c2) := (block_cell HX3.out 1).trans rfl; have hz3 := hB3.size; clear hw3))
  clear x0 x1 y0 y1
  have HBL := hide (show Bld w.heap.size w3.heap.size [] (w3.alloc (.cells #[.pointer none, .slice none 0 0] 53)) from .inl ⟨hz3, .slice none 0 0, heap_alloc_new w3 _, World.ownsRow_nil _ _ _ _, by simp [Value.ownBlock]⟩)
  have HBA := hide (hB3.alloc hz3 (.cells #[.pointer none, .slice none 0 0] 53))
  have HXA := hide (block_below HX3.out ((Below.refl _ _).alloc (Nat.le_refl _) (.cells #[.pointer none, .slice none 0 0] 53)))
  have hlt3 := lt_of_block HX3.out
  refine (HP.out w3.heap.size _ HBA.out (by simpa [Lib.byteCells] using HBL.out) HBA.out.size).mono ?_
  rintro e w4 ⟨rfl, hb4, hw4, hk4⟩
  have hB4 := HBA.out.trans hw4
  have HB4 := hide hb4
  have HX4 := hide (hk4 _ _ _ _ HXA.out (by decide) (by omega))
  clear hb4 hw4 hk4
  go_wp2_with (fail)
  refine (write_bytesP w.heap.size w3.heap.size ([] ++ L1) ⟨#[40]⟩ _ HB4.out hB4.size (by rw [List.nil_append]; have : (⟨#[40]⟩ : ByteArray).size = 1 := rfl; omega)).mono ?_
  rintro e w5 ⟨rfl, hb5, hw5, hk5⟩
  have hB5 := hB4.trans hw5
  have HB5 := hide (show Bld w.heap.size w3.heap.size (Lib.byteCells (L1 ++ [40])) w5 from hb5)
  have hx5 := hk5 _ _ _ _ HX4.out (by decide) (by omega)
  have x1 : w5.cell? ⟨w.heap.size, 1, none⟩ = some (.slice A2 n2 c2) := (block_cell hx5 1).trans rfl
  clear hb5 hw5 hk5 hx5
  go_wp2_with (fail)
  clear x1
  refine (HT.out w3.heap.size _ hB5 HB5.out hB5.size).mono ?_
  rintro e w6 ⟨rfl, hb6, hw6, hk6⟩
  have hB6 := hB5.trans hw6
  have HB6 := hide hb6
  clear hb6 hw6 hk6
  go_wp2_with (fail)
  refine (write_bytesP w.heap.size w3.heap.size (L1 ++ [40] ++ L2) ⟨#[41]⟩ _ HB6.out hB6.size (by have : (⟨#[41]⟩ : ByteArray).size = 1 := rfl; simp only [List.length_append, List.length_cons, List.length_nil]; omega)).mono ?_
  rintro e w7 ⟨rfl, hb7, hw7, hk7⟩
  have hB7 := hB6.trans hw7
  have HB7 := hide (show Bld w.heap.size w3.heap.size (Lib.byteCells RB) w7 by rw [← HRB.out]; exact hb7)
  have HLE := hide (show Calls Tryd.prog 20 #[.pointer (some ⟨w3.heap.size, 0, none⟩)] w7 fun e w' => e = .returned (.int .i64 NL) ∧ w' = w7 by
    have h2 := Tryd.Builder_Len w.heap.size w3.heap.size _ w7 HB7.out
    rw [bytes_len, HNL.out] at h2
    exact h2)
  have HSTR := hide (Tryd.Builder_String_any w.heap.size w3.heap.size RB w7 HB7.out hB7.size)
  clear hb7 hw7 hk7
  by_cases hbig : 8000 < NL
  · have hbi : (8000 : Int) < (NL : Int) := by omega
    have HE := hide (HRV.out.symm.trans (if_pos hbig))
    go_wp2_with (go_at_call 20; refine HLE.out.mono ?_; rintro e w' ⟨rfl, rfl⟩)
    go_ret2
    exact ⟨by rw [HE.out]; rfl, hB7⟩
  · have hbi : decide ((8000 : Int) < (NL : Int)) = false := by simp; omega
    have hbj : decide (8000 < NL) = false := by simp; omega
    have HE := hide (HRV.out.symm.trans (if_neg hbig))
    go_wp2_with (first | (go_at_call 20; refine HLE.out.mono ?_; rintro e w' ⟨rfl, rfl⟩) | (go_at_call 21; refine HSTR.out.mono ?_; rintro e w8 ⟨rfl, hw8⟩; have hB8 := hB7.trans hw8))
    go_ret2
    exact ⟨by rw [HE.out]; rfl, hB8⟩
end Go.Proofs.YtocpmbpckbjepaaDoor
