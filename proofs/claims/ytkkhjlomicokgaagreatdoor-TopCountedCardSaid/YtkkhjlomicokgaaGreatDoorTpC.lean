/- Bytes, Names, Numb: texts of one's own, in one file. -/
import Derived.Test.YtkkhjlomicokgaaGreatDoorTpA
import Derived.Test.YtkkhjlomicokgaaGreatDoorShelf
import Derived.Lib.IndexAny
import Derived.Shelf.Strings.SlTrimAscii
import Derived.BigQuiet
import Derived.Deep.QuietTactic
import Derived.Test.YtkkhjlomicokgaaGreatDoorTpB
import Derived.Laws.BytesArg
/- Walk of the reference's bytesIn. -/
namespace Go.Proofs.YtkkhjlomicokgaaGreatDoor
open Go.RowKit
/-- What stands in the blocks below a call's own is as it was. -/
theorem bcell {W w1 : World} (hb : Below W.heap.size W w1) : (∀ b o, b < W.heap.size → w1.cell? ⟨b, o, none⟩ = W.cell? ⟨b, o, none⟩) ∧ (∀ b o, b < W.heap.size → w1.frozen? ⟨b, o, none⟩ = W.frozen? ⟨b, o, none⟩) :=
  ⟨fun b o h => hb.cell (p := ⟨b, o, none⟩) h, fun b o h => hb.frozen (p := ⟨b, o, none⟩) h⟩
theorem bthen {W w w1 : World} (hw : Below W.heap.size W w1) (h : Below w.heap.size w W) (hB : w.heap.size ≤ W.heap.size) : Below w.heap.size w w1 := h.trans (hw.mono hB)
def outsideB (n lo hi : Int) : Bool := decide (n < lo) || decide (hi < n)
theorem not_lt_bool (a b : Int) : (!decide (a < b)) = decide (b ≤ a) := by rw [← decide_not]; exact decide_eq_decide.2 (by omega)
theorem all_take_snoc (s : ByteArray) (p : UInt8 → Bool) (k : Nat) (h : k < s.size) : (s.data.toList.take (k + 1)).all p = ((s.data.toList.take k).all p && p s[k]) := by
  rw [take_snoc s k h]; simp
theorem all_take_false (s : ByteArray) (p : UInt8 → Bool) (k : Nat) (h : k < s.size) (hp : p s[k] = false) : s.data.toList.all p = false := by
  rw [List.all_eq_false]
  exact ⟨s[k], by rw [show s[k] = s.data.toList[k]'(by simpa using h) from rfl]; exact List.getElem_mem _, by simp [hp]⟩
/-- What bytesIn says. -/
def bytesInB (s : ByteArray) (low : Nat) (without : List UInt8) : Bool := s.data.toList.all fun c => decide (low ≤ c.toNat) && decide (c.toNat ≤ 126) && !without.contains c
theorem indexByte_neg (l : List UInt8) (c : UInt8) (h : l.contains c = false) : Lib.indexByte l c < 0 := by
  have := Lib.contains_iff_indexByte l c
  rw [h] at this
  simpa using this.symm
theorem indexByte_nonneg (l : List UInt8) (c : UInt8) (h : l.contains c = true) : 0 ≤ Lib.indexByte l c := by
  have := Lib.contains_iff_indexByte l c
  rw [h] at this
  simpa using this.symm
end Go.Proofs.YtkkhjlomicokgaaGreatDoor

/- Walks of both IsName's, of the reference's plainBytes, WordError and Moment. -/
namespace Go.Proofs.YtkkhjlomicokgaaGreatDoor
open Go.RowKit
set_option linter.unusedVariables false
set_option linter.unusedSimpArgs false
def byteOk (c : UInt8) : Bool := decide (32 ≤ c.toNat) && decide (c.toNat ≤ 126)
/-- The error of a word, and of a key. -/
def keyErr (s : ByteArray) : Int := if 200 < s.size then 4 else if s.data.toList.all byteOk then 0 else 9
/-- All bytes are from 32 to 126. -/
def plainB (s : ByteArray) : Bool := s.data.toList.all byteOk
theorem bytesIn_plain (s : ByteArray) : bytesInB s 32 [] = plainB s := by
  unfold bytesInB plainB byteOk; simp
def lowB (c : UInt8) : Bool := decide (97 ≤ c.toNat) && decide (c.toNat ≤ 122)
def sigB : List UInt8 := [48, 49, 50, 51, 52, 53, 54, 55, 56, 57, 45, 46, 95]
def nmB (c : UInt8) : Bool := lowB c || sigB.contains c
def cutB : ByteArray := ⟨#[97, 98, 99, 100, 101, 102, 103, 104, 105, 106, 107, 108, 109, 110, 111, 112, 113, 114, 115, 116, 117, 118, 119, 120, 121, 122, 48, 49, 50, 51, 52, 53, 54, 55, 56, 57, 45, 46, 95]⟩
theorem cutB_has (c : UInt8) : cutB.data.toList.contains c = nmB c := by
  have h : ∀ n, n < 256 → cutB.data.toList.contains (UInt8.ofNat n) = nmB (UInt8.ofNat n) := by decide +kernel
  have := h c.toNat (UInt8.toNat_lt c)
  rwa [UInt8.ofNat_toNat] at this
/-- The bytes of a name: the first one is a small letter, the others are small letters or signs. -/
def nmL : List UInt8 → Bool
  | [] => true
  | c :: r => lowB c && r.all nmB
def nameB (s : ByteArray) : Bool := decide (1 ≤ s.size) && decide (s.size ≤ 40) && nmL s.data.toList
theorem dw_nil_iff (p : UInt8 → Bool) : ∀ l : List UInt8, l.dropWhile p = [] ↔ l.all p = true
  | [] => by simp
  | c :: l => by
    rw [List.dropWhile_cons]
    cases h : p c
    · simp [h]
    · simp [h, dw_nil_iff p l]
theorem trimS_nil (l cs : List UInt8) : Lib.trimS l cs = [] ↔ l.all (fun c => cs.contains c) = true := by
  unfold Lib.trimS Lib.trimLeftS Lib.trimRightS
  rw [dw_nil_iff]
  constructor
  · intro h
    by_cases he : l.reverse.dropWhile (fun x => cs.contains x) = []
    · rw [dw_nil_iff, List.all_reverse] at he; exact he
    · exfalso
      cases hd : l.reverse.dropWhile (fun x => cs.contains x) with
      | nil => exact he hd
      | cons c r =>
        have h1 : cs.contains c = false := by
          have := List.head?_dropWhile_not (fun x => cs.contains x) l.reverse
          rw [hd] at this
          simpa using this
        rw [hd, List.all_reverse, List.all_cons, h1] at h
        simp at h
  · intro h
    rw [List.all_eq_true] at h ⊢
    intro x hx
    refine h x ?_
    have h1 : x ∈ l.reverse.dropWhile (fun x => cs.contains x) := by simpa using hx
    have h2 := (List.dropWhile_suffix (l := l.reverse) (fun x => cs.contains x)).subset h1
    simpa using h2
theorem info_set : (Tryz.prog.info? 139).map (fun i => (i.zero, i.size)) = some (some (.agg (Array.replicate 256 (.bool false))), 256) := by kernel_rfl
theorem trim_any (s : ByteArray) (w : World) (hs : s.size ≤ maxLen) :
    Calls Tryz.prog 31 #[.string s, .string cutB] w fun e w' => e = .returned (.string ⟨(Lib.trimS s.data.toList cutB.data.toList).toArray⟩) ∧ Below w.heap.size w w' :=
  Any.strings_Trim_laid Tryz.lays160 info_set s cutB w (by unfold maxLen at hs; omega) (by decide) (ascii_of_all (by decide +kernel))
theorem name_head {s : ByteArray} (h : 0 < s.size) : nmL s.data.toList = (lowB s[0] && s.data.toList.all nmB) := by
  have h0 : s.data.toList[0]? = some s[0] := by
    rw [List.getElem?_eq_getElem (by simpa using h)]; rfl
  cases hl : s.data.toList with
  | nil => rw [hl] at h0; cases h0
  | cons c r =>
    rw [hl] at h0
    simp at h0
    subst h0
    simp only [nmL, List.all_cons]
    cases hc : lowB s[0] <;> simp [nmB, hc]
theorem strnil (l : List UInt8) : ((⟨l.toArray⟩ : ByteArray).toList == []) = decide (l = []) := by
  rw [ByteArray.toList_eq]
  cases l <;> simp
set_option maxRecDepth 100000 in
set_option maxHeartbeats 4000000 in
theorem evName_any (s : ByteArray) (w : World) (hs : s.size ≤ maxLen) :
    Calls Tryz.prog 45 #[.string s] w fun e w' => e = .returned (.bool (nameB s)) ∧ Below w.heap.size w w' := by
  have HT := hide (fun W => trim_any s W hs)
  unfold cutB at HT
  unfold maxLen at hs
  by_cases h1 : s.size < 1
  · have E := hide (show nameB s = false by rw [nameB, decide_eq_false (by omega)]; rfl)
    go_enter Tryz.func45, Tryz.ntmps45
    go_wp2_with (first | go_quiet (fail))
    go_ret
    exact ⟨by rw [E.out]; rfl, by first | exact Below.refl _ _ | exact (Below.refl _ _).drew⟩
  by_cases h2 : 40 < s.size
  · have E := hide (show nameB s = false by rw [nameB, decide_eq_false (show ¬ s.size ≤ 40 by omega), Bool.and_false]; rfl)
    have h1' : decide ((s.size : Int) < 1) = false := by simp; omega
    go_enter Tryz.func45, Tryz.ntmps45
    go_wp2_with (first | go_quiet (fail))
    go_ret
    exact ⟨by rw [E.out]; rfl, by first | exact Below.refl _ _ | exact (Below.refl _ _).drew⟩
  have h0 : 0 < s.size := by omega
  have EN := hide (show nameB s = (lowB s[0] && s.data.toList.all nmB) by rw [nameB, decide_eq_true (show 1 ≤ s.size by omega), decide_eq_true (show s.size ≤ 40 by omega), name_head h0]; rfl)
  have h1' : decide ((s.size : Int) < 1) = false := by simp; omega
  have h2' : decide ((40 : Int) < (s.size : Int)) = false := by simp; omega
  obtain ⟨c, hc⟩ : ∃ c, s[0] = c := ⟨_, rfl⟩
  by_cases h3 : c.toNat < 97
  · have E := hide (show nameB s = false by rw [EN.out, hc, lowB, decide_eq_false (show ¬ 97 ≤ c.toNat by omega)]; rfl)
    have h3' : (s[0].toNat : Int) < 97 := by rw [hc]; omega
    clear hc
    go_enter Tryz.func45, Tryz.ntmps45
    go_wp2_with (first | go_quiet (fail))
    go_ret
    exact ⟨by rw [E.out]; rfl, by first | exact Below.refl _ _ | exact (Below.refl _ _).drew | exact below_drewQ _ _⟩
  have h3' : decide ((s[0].toNat : Int) < 97) = false := by rw [hc]; simp; omega
  by_cases h4 : 122 < c.toNat
  · have E := hide (show nameB s = false by rw [EN.out, hc, lowB, decide_eq_false (show ¬ c.toNat ≤ 122 by omega), Bool.and_false]; rfl)
    have h4' : (122 : Int) < (s[0].toNat : Int) := by rw [hc]; omega
    clear hc
    go_enter Tryz.func45, Tryz.ntmps45
    go_wp2_with (first | go_quiet (fail))
    go_ret
    exact ⟨by rw [E.out]; rfl, by first | exact Below.refl _ _ | exact (Below.refl _ _).drew | exact below_drewQ _ _⟩
  have h4' : decide ((122 : Int) < (s[0].toNat : Int)) = false := by rw [hc]; simp; omega
  have hlow : lowB s[0] = true := by rw [hc, lowB, decide_eq_true (show 97 ≤ c.toNat by omega), decide_eq_true (show c.toNat ≤ 122 by omega)]; rfl
  have E := hide (show ((⟨(Lib.trimS s.data.toList cutB.data.toList).toArray⟩ : ByteArray).toList == []) = nameB s by
    rw [EN.out, hlow, strnil, Bool.true_and, Bool.eq_iff_iff, decide_eq_true_eq, trimS_nil]
    simp only [cutB_has])
  unfold cutB at E
  clear hc hlow
  obtain ⟨t, ht⟩ : ∃ t : ByteArray, ⟨(Lib.trimS s.data.toList (⟨#[97, 98, 99, 100, 101, 102, 103, 104, 105, 106, 107, 108, 109, 110, 111, 112, 113, 114, 115, 116, 117, 118, 119, 120, 121, 122, 48, 49, 50, 51, 52, 53, 54, 55, 56, 57, 45, 46, 95]⟩ : ByteArray).data.toList).toArray⟩ = t := ⟨_, rfl⟩
  rw [ht] at HT E
  clear ht
  obtain ⟨v, hv⟩ : ∃ v, nameB s = v := ⟨_, rfl⟩
  rw [hv] at E ⊢
  clear hv
  have et : (t.toList == []) = v := E.out
  have et2 : t.toList.isEmpty = v := by rw [← et]; cases t.toList <;> rfl
  cases v
  · have et3 : ¬ t.toList = [] := by simpa using et
    go_enter Tryz.func45, Tryz.ntmps45
    go_wp2_with (first | go_quiet (fail) | (go_at_call 31; refine (HT.out _).mono ?_; rintro e w1 ⟨rfl, hw1⟩))
    go_ret
    exact ⟨by first | rfl | (simp [et, et2, et3]), by first | exact hw1 | exact below_drewQ2 hw1⟩
  · have et3 : t.toList = [] := by simpa using et
    go_enter Tryz.func45, Tryz.ntmps45
    go_wp2_with (first | go_quiet (fail) | (go_at_call 31; refine (HT.out _).mono ?_; rintro e w1 ⟨rfl, hw1⟩))
    go_ret
    exact ⟨by first | rfl | (simp [et, et2, et3]), by first | exact hw1 | exact below_drewQ2 hw1⟩
theorem nmL_upto {l : List UInt8} {n : Nat} (hl : l.length = n) (h : ∀ j c, j < n → l[j]? = some c → (lowB c || (decide (0 < j) && sigB.contains c)) = true) : nmL l = true := by
  cases l with
  | nil => rfl
  | cons x r =>
    have h0 := h 0 x (by rw [← hl]; simp) rfl
    simp only [nmL, Bool.and_eq_true, List.all_eq_true]
    refine ⟨by simpa using h0, fun c hc => ?_⟩
    obtain ⟨j, hj, rfl⟩ := List.mem_iff_getElem.1 hc
    have := h (j + 1) r[j] (by rw [← hl]; simp; omega) (by simp)
    simpa [nmB] using this
theorem nmL_hit {l : List UInt8} {k : Nat} {c : UInt8} (h : l[k]? = some c) (hp : (lowB c || (decide (0 < k) && sigB.contains c)) = false) : nmL l = false := by
  cases l with
  | nil => simp at h
  | cons x r =>
    cases k with
    | zero =>
      simp at h hp
      subst h
      simp [nmL, hp]
    | succ k =>
      simp at h
      have hb : nmB c = false := by simpa [nmB] using hp
      have : r.all nmB = false := by rw [List.all_eq_false]; exact ⟨c, List.mem_of_getElem? h, by simp [hb]⟩
      simp [nmL, this]
theorem nameB_no {s : ByteArray} (h : nmL s.data.toList = false) : nameB s = false := by rw [nameB, h, Bool.and_false]
theorem nameB_of {s : ByteArray} (h : nmL s.data.toList = true) : nameB s = (decide (1 ≤ s.size) && decide (s.size ≤ 40)) := by rw [nameB, h, Bool.and_true]
theorem nm_get (s : ByteArray) (k : Nat) (h : k < s.size) : s.data.toList[k]? = some s[k] := by
  rw [List.getElem?_eq_getElem (by simpa using h)]; rfl
end Go.Proofs.YtkkhjlomicokgaaGreatDoor

/- Walks of the reference's inBase and Told; strconv.Itoa; at every number. -/
namespace Go.Proofs.YtkkhjlomicokgaaGreatDoor
open Go.RowKit Go.Sort
set_option linter.unusedVariables false
def digsB16 : ByteArray := ⟨#[48, 49, 50, 51, 52, 53, 54, 55, 56, 57, 97, 98, 99, 100, 101, 102]⟩
theorem digsB16_at : ∀ k, k < 16 → (digsB16.extract k (k + 1)).data.toList = [hexc k] := by decide +kernel
theorem hexc_of {u b : Nat} (hb : b ≤ 16) (h2 : 0 < b) : (digsB16.extract (u % b) (u % b + 1)).data.toList = [hexc (u % b)] := digsB16_at _ (Nat.lt_of_lt_of_le (Nat.mod_lt _ h2) hb)
theorem bytes_of {x : ByteArray} {l : List UInt8} (h : x.data.toList = l) : x = ⟨l.toArray⟩ := by
  rw [← h]
theorem app_toList (a b : ByteArray) : (a ++ b).data.toList = a.data.toList ++ b.data.toList := by rw [ByteArray.data_append, Array.toList_append]
/-- strconv.Itoa at a number that is not negative. -/
theorem Itoa_any (n : Int) (w : World) (h0 : 0 ≤ n) (h1 : n ≤ 9223372036854775807) (htab : Lib.TabIs Tryz.prog w "internal/strconv.uint64pow10" .u64 Lib.pow10Tab) :
    Calls Tryz.prog 68 #[.int .i64 n] w fun e w' => e = .returned (.string ⟨(toldL n).toArray⟩) ∧ Below w.heap.size w w' := by
  refine (Tryz.strconv_Itoa n (by omega) h1 w htab).mono ?_
  rintro e w' ⟨rfl, k, os, rfl⟩
  rw [itoa_told h0]
  exact ⟨rfl, rfl, rfl, rfl, by simp [grow, World.drewN], fun j hj => by rw [heap_grow_old _ _ (by simpa [World.drewN] using hj)]; rfl⟩
theorem Itoa_all (n : Int) (w : World) (h0 : -9223372036854775808 ≤ n) (h1 : n ≤ 9223372036854775807) (htab : Lib.TabIs Tryz.prog w "internal/strconv.uint64pow10" .u64 Lib.pow10Tab) :
    Calls Tryz.prog 68 #[.int .i64 n] w fun e w' => e = .returned (.string ⟨(toldZ n).toArray⟩) ∧ Below w.heap.size w w' := by
  refine (Tryz.strconv_Itoa n h0 h1 w htab).mono ?_
  rintro e w' ⟨rfl, k, os, rfl⟩
  rw [itoa_toldZ]
  exact ⟨rfl, rfl, rfl, rfl, by simp [grow, World.drewN], fun j hj => by rw [heap_grow_old _ _ (by simpa [World.drewN] using hj)]; rfl⟩
theorem toldZ_len (n : Int) (h0 : -9223372036854775808 ≤ n) (h1 : n ≤ 9223372036854775807) : (toldZ n).length ≤ 65 := by
  unfold toldZ
  split
  · exact Nat.le_trans (digs_len 10 (by decide) 64 n.toNat (Nat.lt_of_lt_of_le (by omega) (Nat.pow_le_pow_left (show 2 ≤ 10 by decide) 64)) (by decide)) (by decide)
  · rw [List.length_cons]
    have := digs_len 10 (by decide) 64 (-n).toNat (Nat.lt_of_lt_of_le (by omega) (Nat.pow_le_pow_left (show 2 ≤ 10 by decide) 64)) (by decide)
    omega
end Go.Proofs.YtkkhjlomicokgaaGreatDoor
