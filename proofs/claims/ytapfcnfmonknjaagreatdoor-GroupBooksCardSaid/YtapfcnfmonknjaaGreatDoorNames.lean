/- Walks of both IsName's, of the reference's plainBytes, WordError and Moment. -/
import Derived.Test.YtapfcnfmonknjaaGreatDoorBytes
import Derived.Shelf.Strings.SlTrimAscii
import Derived.BigQuiet
import Derived.Deep.QuietTactic
namespace Go.Proofs.YtapfcnfmonknjaaGreatDoor
open Go.RowKit
set_option linter.unusedVariables false
set_option linter.unusedSimpArgs false
def byteOk (c : UInt8) : Bool := decide (32 ≤ c.toNat) && decide (c.toNat ≤ 126)
/-- The error of a word, and of a key. -/
def keyErr (s : ByteArray) : Int := if 200 < s.size then 4 else if s.data.toList.all byteOk then 0 else 9
/-- All bytes are from 32 to 126. -/
def plainB (s : ByteArray) : Bool := s.data.toList.all byteOk
theorem bytesIn_plain (s : ByteArray) : bytesInB s 32 [] = plainB s := by
  unfold bytesInB plainB byteOk; simp
def lowB (c : UInt8) : Bool := decide (97 ≤ c.toNat) && decide (c.toNat ≤ 122)
def sigB : List UInt8 := [48, 49, 50, 51, 52, 53, 54, 55, 56, 57, 45, 46, 95]
def nmB (c : UInt8) : Bool := lowB c || sigB.contains c
def cutB : ByteArray := ⟨#[97, 98, 99, 100, 101, 102, 103, 104, 105, 106, 107, 108, 109, 110, 111, 112, 113, 114, 115, 116, 117, 118, 119, 120, 121, 122, 48, 49, 50, 51, 52, 53, 54, 55, 56, 57, 45, 46, 95]⟩
theorem cutB_has (c : UInt8) : cutB.data.toList.contains c = nmB c := by
  have h : ∀ n, n < 256 → cutB.data.toList.contains (UInt8.ofNat n) = nmB (UInt8.ofNat n) := by decide +kernel
  have := h c.toNat (UInt8.toNat_lt c)
  rwa [UInt8.ofNat_toNat] at this
/-- The bytes of a name: the first one is a small letter, the others are small letters or signs. -/
def nmL : List UInt8 → Bool
  | [] => true
  | c :: r => lowB c && r.all nmB
def nameB (s : ByteArray) : Bool := decide (1 ≤ s.size) && decide (s.size ≤ 40) && nmL s.data.toList
theorem dw_nil_iff (p : UInt8 → Bool) : ∀ l : List UInt8, l.dropWhile p = [] ↔ l.all p = true
  | [] => by simp
  | c :: l => by
    rw [List.dropWhile_cons]
    cases h : p c
    · simp [h]
    · simp [h, dw_nil_iff p l]
theorem trimS_nil (l cs : List UInt8) : Lib.trimS l cs = [] ↔ l.all (fun c => cs.contains c) = true := by
  unfold Lib.trimS Lib.trimLeftS Lib.trimRightS
  rw [dw_nil_iff]
  constructor
  · intro h
    by_cases he : l.reverse.dropWhile (fun x => cs.contains x) = []
    · rw [dw_nil_iff, List.all_reverse] at he; exact he
    · exfalso
      cases hd : l.reverse.dropWhile (fun x => cs.contains x) with
      | nil => exact he hd
      | cons c r =>
        have h1 : cs.contains c = false := by
          have := List.head?_dropWhile_not (fun x => cs.contains x) l.reverse
          rw [hd] at this
          simpa using this
        rw [hd, List.all_reverse, List.all_cons, h1] at h
        simp at h
  · intro h
    rw [List.all_eq_true] at h ⊢
    intro x hx
    refine h x ?_
    have h1 : x ∈ l.reverse.dropWhile (fun x => cs.contains x) := by simpa using hx
    have h2 := (List.dropWhile_suffix (l := l.reverse) (fun x => cs.contains x)).subset h1
    simpa using h2
theorem info_set : (Tryz.prog.info? 83).map (fun i => (i.zero, i.size)) = some (some (.agg (Array.replicate 256 (.bool false))), 256) := by kernel_rfl
theorem trim_any (s : ByteArray) (w : World) (hs : s.size ≤ maxLen) :
    Calls Tryz.prog 23 #[.string s, .string cutB] w fun e w' => e = .returned (.string ⟨(Lib.trimS s.data.toList cutB.data.toList).toArray⟩) ∧ Below w.heap.size w w' :=
  Any.strings_Trim_laid Tryz.lays160 info_set s cutB w (by unfold maxLen at hs; omega) (by decide) (ascii_of_all (by decide +kernel))
theorem name_head {s : ByteArray} (h : 0 < s.size) : nmL s.data.toList = (lowB s[0] && s.data.toList.all nmB) := by
  have h0 : s.data.toList[0]? = some s[0] := by
    rw [List.getElem?_eq_getElem (by simpa using h)]; rfl
  cases hl : s.data.toList with
  | nil => rw [hl] at h0; cases h0
  | cons c r =>
    rw [hl] at h0
    simp at h0
    subst h0
    simp only [nmL, List.all_cons]
    cases hc : lowB s[0] <;> simp [nmB, hc]
theorem strnil (l : List UInt8) : ((⟨l.toArray⟩ : ByteArray).toList == []) = decide (l = []) := by
  rw [ByteArray.toList_eq]
  cases l <;> simp
theorem nmL_upto {l : List UInt8} {n : Nat} (hl : l.length = n) (h : ∀ j c, j < n → l[j]? = some c → (lowB c || (decide (0 < j) && sigB.contains c)) = true) : nmL l = true := by
  cases l with
  | nil => rfl
  | cons x r =>
    have h0 := h 0 x (by rw [← hl]; simp) rfl
    simp only [nmL, Bool.and_eq_true, List.all_eq_true]
    refine ⟨by simpa using h0, fun c hc => ?_⟩
    obtain ⟨j, hj, rfl⟩ := List.mem_iff_getElem.1 hc
    have := h (j + 1) r[j] (by rw [← hl]; simp; omega) (by simp)
    simpa [nmB] using this
theorem nmL_hit {l : List UInt8} {k : Nat} {c : UInt8} (h : l[k]? = some c) (hp : (lowB c || (decide (0 < k) && sigB.contains c)) = false) : nmL l = false := by
  cases l with
  | nil => simp at h
  | cons x r =>
    cases k with
    | zero =>
      simp at h hp
      subst h
      simp [nmL, hp]
    | succ k =>
      simp at h
      have hb : nmB c = false := by simpa [nmB] using hp
      have : r.all nmB = false := by rw [List.all_eq_false]; exact ⟨c, List.mem_of_getElem? h, by simp [hb]⟩
      simp [nmL, this]
theorem nameB_no {s : ByteArray} (h : nmL s.data.toList = false) : nameB s = false := by rw [nameB, h, Bool.and_false]
theorem nameB_of {s : ByteArray} (h : nmL s.data.toList = true) : nameB s = (decide (1 ≤ s.size) && decide (s.size ≤ 40)) := by rw [nameB, h, Bool.and_true]
theorem nm_get (s : ByteArray) (k : Nat) (h : k < s.size) : s.data.toList[k]? = some s[k] := by
  rw [List.getElem?_eq_getElem (by simpa using h)]; rfl
end Go.Proofs.YtapfcnfmonknjaaGreatDoor
