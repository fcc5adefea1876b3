/- Walks of both IsName's, of the reference's plainBytes, WordError and Moment. -/
import Derived.Test.YtnkccilgbhogbaaDoorBytes
import Derived.Shelf.Strings.SlTrimAscii
import Derived.BigQuiet
import Derived.Deep.QuietTactic
namespace Go.Proofs.YtnkccilgbhogbaaDoor
open Go.RowKit
set_option linter.unusedVariables false
set_option linter.unusedSimpArgs false
def byteOk (c : UInt8) : Bool := decide (32 ≤ c.toNat) && decide (c.toNat ≤ 126)
/-- The error of a word, and of a key. -/
def keyErr (s : ByteArray) : Int := if 200 < s.size then 4 else if s.data.toList.all byteOk then 0 else 9
/-- All bytes are from 32 to 126. -/
def plainB (s : ByteArray) : Bool := s.data.toList.all byteOk
theorem bytesIn_plain (s : ByteArray) : bytesInB s 32 [] = plainB s := by
  unfold bytesInB plainB byteOk; simp
theorem Moment_any (n : Int) (w : World) : Calls Tryd.prog 27 #[.int .i64 n] w fun e w' => e = .returned (.bool (!outsideB n 0 3155759999)) ∧ w = w' := by
  go_enter Tryd.func27, Tryd.ntmps27
  go_wp2_with (go_at_call 25; refine (in_any _ _ _ _).mono ?_; rintro e w' ⟨rfl, rfl⟩)
  go_ret
  exact ⟨rfl, rfl⟩
/- Names. -/
def lowB (c : UInt8) : Bool := decide (97 ≤ c.toNat) && decide (c.toNat ≤ 122)
def sigB : List UInt8 := [48, 49, 50, 51, 52, 53, 54, 55, 56, 57, 45, 46, 95]
def nmB (c : UInt8) : Bool := lowB c || sigB.contains c
def cutB : ByteArray := ⟨#[97, 98, 99, 100, 101, 102, 103, 104, 105, 106, 107, 108, 109, 110, 111, 112, 113, 114, 115, 116, 117, 118, 119, 120, 121, 122, 48, 49, 50, 51, 52, 53, 54, 55, 56, 57, 45, 46, 95]⟩
theorem cutB_has (c : UInt8) : cutB.data.toList.contains c = nmB c := by
  have h : ∀ n, n < 256 → cutB.data.toList.contains (UInt8.ofNat n) = nmB (UInt8.ofNat n) := by decide +kernel
  have := h c.toNat (UInt8.toNat_lt c)
  rwa [UInt8.ofNat_toNat] at this
/-- The bytes of a name: the first one is a small letter, the others are small letters or signs. -/
def nmL : List UInt8 → Bool
  | [] => true
  | c :: r => lowB c && r.all nmB
def nameB (s : ByteArray) : Bool := decide (1 ≤ s.size) && decide (s.size ≤ 40) && nmL s.data.toList
theorem dw_nil_iff (p : UInt8 → Bool) : ∀ l : List UInt8, l.dropWhile p = [] ↔ l.all p = true
  | [] => by simp
  | c :: l => by
    rw [List.dropWhile_cons]
    cases h : p c
    · simp [h]
    · simp [h, dw_nil_iff p l]
theorem trimS_nil (l cs : List UInt8) : Lib.trimS l cs = [] ↔ l.all (fun c => cs.contains c) = true := by
  unfold Lib.trimS Lib.trimLeftS Lib.trimRightS
  rw [dw_nil_iff]
  constructor
  · intro h
    by_cases he : l.reverse.dropWhile (fun x => cs.contains x) = []
    · rw [dw_nil_iff, List.all_reverse] at he; exact he
    · exfalso
      cases hd : l.reverse.dropWhile (fun x => cs.contains x) with
      | nil => exact he hd
      | cons c r =>
        have h1 : cs.contains c = false := by
          have := List.head?_dropWhile_not (fun x => cs.contains x) l.reverse
          rw [hd] at this
          simpa using this
        rw [hd, List.all_reverse, List.all_cons, h1] at h
        simp at h
  · intro h
    rw [List.all_eq_true] at h ⊢
    intro x hx
    refine h x ?_
    have h1 : x ∈ l.reverse.dropWhile (fun x => cs.contains x) := by simpa using hx
    have h2 := (List.dropWhile_suffix (l := l.reverse) (fun x => cs.contains x)).subset h1
    simpa using h2
theorem info_set : (Tryd.prog.info? 98).map (fun i => (i.zero, i.size)) = some (some (.agg (Array.replicate 256 (.bool false))), 256) := by kernel_rfl
theorem trim_any (s : ByteArray) (w : World) (hs : s.size ≤ maxLen) :
    Calls Tryd.prog 51 #[.string s, .string cutB] w fun e w' => e = .returned (.string ⟨(Lib.trimS s.data.toList cutB.data.toList).toArray⟩) ∧ Below w.heap.size w w' :=
  Any.strings_Trim_laid Tryd.lays160 info_set s cutB w (by unfold maxLen at hs; omega) (by decide) (ascii_of_all (by decide +kernel))
theorem name_head {s : ByteArray} (h : 0 < s.size) : nmL s.data.toList = (lowB s[0] && s.data.toList.all nmB) := by
  have h0 : s.data.toList[0]? = some s[0] := by
    rw [List.getElem?_eq_getElem (by simpa using h)]; rfl
  cases hl : s.data.toList with
  | nil => rw [hl] at h0; cases h0
  | cons c r =>
    rw [hl] at h0
    simp at h0
    subst h0
    simp only [nmL, List.all_cons]
    cases hc : lowB s[0] <;> simp [nmB, hc]
theorem strnil (l : List UInt8) : ((⟨l.toArray⟩ : ByteArray).toList == []) = decide (l = []) := by
  rw [ByteArray.toList_eq]
  cases l <;> simp
set_option maxRecDepth 100000 in
set_option maxHeartbeats 4000000 in
theorem evName_any (s : ByteArray) (w : World) (hs : s.size ≤ maxLen) :
    Calls Tryd.prog 45 #[.string s] w fun e w' => e = .returned (.bool (nameB s)) ∧ Below w.heap.size w w' := by
  have HT := hide (fun W => trim_any s W hs)
  unfold cutB at HT
  unfold maxLen at hs
  by_cases h1 : s.size < 1
  · have E := hide (show nameB s = false by rw [nameB, decide_eq_false (by omega)]; rfl)
    go_enter Tryd.func45, Tryd.ntmps45
    go_wp2_with (first | go_quiet (fail))
    go_ret
    exact ⟨by rw [E.out]; rfl, by first | exact Below.refl _ _ | exact (Below.refl _ _).drew⟩
  by_cases h2 : 40 < s.size
  · have E := hide (show nameB s = false by rw [nameB, decide_eq_false (show ¬ s.size ≤ 40 by omega), Bool.and_false]; rfl)
    have h1' : decide ((s.size : Int) < 1) = false := by simp; omega
    go_enter Tryd.func45, Tryd.ntmps45
    go_wp2_with (first | go_quiet (fail))
    go_ret
    exact ⟨by rw [E.out]; rfl, by first | exact Below.refl _ _ | exact (Below.refl _ _).drew⟩
  have h0 : 0 < s.size := by omega
  have EN := hide (show nameB s = (lowB s[0] && s.data.toList.all nmB) by rw [nameB, decide_eq_true (show 1 ≤ s.size by omega), decide_eq_true (show s.size ≤ 40 by omega), name_head h0]; rfl)
  have h1' : decide ((s.size : Int) < 1) = false := by simp; omega
  have h2' : decide ((40 : Int) < (s.size : Int)) = false := by simp; omega
  obtain ⟨c, hc⟩ : ∃ c, s[0] = c := ⟨_, rfl⟩
  by_cases h3 : c.toNat < 97
  · have E := hide (show nameB s = false by rw [EN.out, hc, lowB, decide_eq_false (show ¬ 97 ≤ c.toNat by omega)]; rfl)
    have h3' : (s[0].toNat : Int) < 97 := by rw [hc]; omega
    clear hc
    go_enter Tryd.func45, Tryd.ntmps45
    go_wp2_with (first | go_quiet (fail))
    go_ret
    exact ⟨by rw [E.out]; rfl, by first | exact Below.refl _ _ | exact (Below.refl _ _).drew | exact below_drewQ _ _⟩
  have h3' : decide ((s[0].toNat : Int) < 97) = false := by rw [hc]; simp; omega
  by_cases h4 : 122 < c.toNat
  · have E := hide (show nameB s = false by rw [EN.out, hc, lowB, decide_eq_false (show ¬ c.toNat ≤ 122 by omega), Bool.and_false]; rfl)
    have h4' : (122 : Int) < (s[0].toNat : Int) := by rw [hc]; omega
    clear hc
    go_enter Tryd.func45, Tryd.ntmps45
    go_wp2_with (first | go_quiet (fail))
    go_ret
    exact ⟨by rw [E.out]; rfl, by first | exact Below.refl _ _ | exact (Below.refl _ _).drew | exact below_drewQ _ _⟩
  have h4' : decide ((122 : Int) < (s[0].toNat : Int)) = false := by rw [hc]; simp; omega
  have hlow : lowB s[0] = true := by rw [hc, lowB, decide_eq_true (show 97 ≤ c.toNat by omega), decide_eq_true (show c.toNat ≤ 122 by omega)]; rfl
  have E := hide (show ((⟨(Lib.trimS s.data.toList cutB.data.toList).toArray⟩ : ByteArray).toList == []) = nameB s by
    rw [EN.out, hlow, strnil, Bool.true_and, Bool.eq_iff_iff, decide_eq_true_eq, trimS_nil]
    simp only [cutB_has])
  unfold cutB at E
  clear hc hlow
  obtain ⟨t, ht⟩ : ∃ t : ByteArray, ⟨(Lib.trimS s.data.toList (⟨#[97, 98, 99, 100, 101, 102, 103, 104, 105, 106, 107, 108, 109, 110, 111, 112, 113, 114, 115, 116, 117, 118, 119, 120, 121, 122, 48, 49, 50, 51, 52, 53, 54, 55, 56, 57, 45, 46, 95]⟩ : ByteArray).data.toList).toArray⟩ = t := ⟨_, rfl⟩
  rw [ht] at HT E
  clear ht
  obtain ⟨v, hv⟩ : ∃ v, nameB s = v := ⟨_, rfl⟩
  rw [hv] at E ⊢
  clear hv
  have et : (t.toList == []) = v := E.out
  have et2 : t.toList.isEmpty = v := by rw [← et]; cases t.toList <;> rfl
  cases v
  · have et3 : ¬ t.toList = [] := by simpa using et
    go_enter Tryd.func45, Tryd.ntmps45
    go_wp2_with (first | go_quiet (fail) | (go_at_call 51; refine (HT.out _).mono ?_; rintro e w1 ⟨rfl, hw1⟩))
    go_ret
    exact ⟨by first | rfl | (simp [et, et2, et3]), by first | exact hw1 | exact below_drewQ2 hw1⟩
  · have et3 : t.toList = [] := by simpa using et
    go_enter Tryd.func45, Tryd.ntmps45
    go_wp2_with (first | go_quiet (fail) | (go_at_call 51; refine (HT.out _).mono ?_; rintro e w1 ⟨rfl, hw1⟩))
    go_ret
    exact ⟨by first | rfl | (simp [et, et2, et3]), by first | exact hw1 | exact below_drewQ2 hw1⟩
theorem nmL_upto {l : List UInt8} {n : Nat} (hl : l.length = n) (h : ∀ j c, j < n → l[j]? = some c → (lowB c || (decide (0 < j) && sigB.contains c)) = true) : nmL l = true := by
  cases l with
  | nil => rfl
  | cons x r =>
    have h0 := h 0 x (by rw [← hl]; simp) rfl
    simp only [nmL, Bool.and_eq_true, List.all_eq_true]
    refine ⟨by simpa using h0, fun c hc => ?_⟩
    obtain ⟨j, hj, rfl⟩ := List.mem_iff_getElem.1 hc
    have := h (j + 1) r[j] (by rw [← hl]; simp; omega) (by simp)
    simpa [nmB] using this
theorem nmL_hit {l : List UInt8} {k : Nat} {c : UInt8} (h : l[k]? = some c) (hp : (lowB c || (decide (0 < k) && sigB.contains c)) = false) : nmL l = false := by
  cases l with
  | nil => simp at h
  | cons x r =>
    cases k with
    | zero =>
      simp at h hp
      subst h
      simp [nmL, hp]
    | succ k =>
      simp at h
      have hb : nmB c = false := by simpa [nmB] using hp
      have : r.all nmB = false := by rw [List.all_eq_false]; exact ⟨c, List.mem_of_getElem? h, by simp [hb]⟩
      simp [nmL, this]
theorem nameB_no {s : ByteArray} (h : nmL s.data.toList = false) : nameB s = false := by rw [nameB, h, Bool.and_false]
theorem nameB_of {s : ByteArray} (h : nmL s.data.toList = true) : nameB s = (decide (1 ≤ s.size) && decide (s.size ≤ 40)) := by rw [nameB, h, Bool.and_true]
theorem nm_get (s : ByteArray) (k : Nat) (h : k < s.size) : s.data.toList[k]? = some s[k] := by
  rw [List.getElem?_eq_getElem (by simpa using h)]; rfl
set_option maxRecDepth 100000 in
set_option maxHeartbeats 4000000 in
theorem refName_any (s : ByteArray) (w : World) (hs : s.size ≤ maxLen) :
    Calls Tryd.prog 28 #[.string s] w fun e w' => e = .returned (.bool (nameB s)) ∧ w' = w := by
  unfold maxLen at hs
  go_enter Tryd.func28, Tryd.ntmps28
  go_wp2_with (fail)
  go_loop [6] (fun i => ∃ k : Nat, k ≤ s.size ∧ i = .int .i64 k ∧ ∀ j c, j < k → s.data.toList[j]? = some c → (lowB c || (decide (0 < j) && sigB.contains c)) = true) (fun i => s.size - (intOf i).toNat)
  case atStart => exact ⟨0, Nat.zero_le _, rfl, fun j c h => by omega⟩
  case round =>
    obtain ⟨k, hk, rfl, hall⟩ := hrel
    have HALL := hide hall
    clear hall
    by_cases hlt : k < s.size
    · have HG := hide (nm_get s k hlt)
      obtain ⟨c, hc⟩ : ∃ c, s[k] = c := ⟨_, rfl⟩
      have hcc : ((s[k].toNat : Int)).toNat.toUInt8 = c := by rw [hc]; simp
      have CI := hide (fun W => Tryd.strings_IndexByte ⟨#[48, 49, 50, 51, 52, 53, 54, 55, 56, 57, 45, 46, 95]⟩ (s[k].toNat : Int) W)
      rw [hcc] at CI
      by_cases h97 : c.toNat < 97
      · have t1 : (s[k].toNat : Int) < 97 := by rw [hc]; omega
        have hlow : lowB c = false := by rw [lowB, decide_eq_false (by omega)]; rfl
        by_cases hk0 : k = 0
        · subst hk0
          have E := hide (nameB_no (nmL_hit HG.out (by rw [hc, hlow]; rfl)))
          clear hc hcc hlow
          go_wp2_with (first | go_quiet (fail))
          go_ret
          exact ⟨by rw [E.out]; rfl, rfl⟩
        · have t2 : ((k : Int) == 0) = false := by simp; omega
          have t3 : ¬ (k : Int) = 0 := by omega
          cases h3 : sigB.contains c
          · have E := hide (nameB_no (nmL_hit HG.out (by rw [hc, hlow, h3]; simp)))
            have hI : Lib.indexByte sigB c < 0 := indexByte_neg _ _ h3
            obtain ⟨x, hx⟩ : ∃ x, Lib.indexByte (⟨#[48, 49, 50, 51, 52, 53, 54, 55, 56, 57, 45, 46, 95]⟩ : ByteArray).data.toList c = x := ⟨_, rfl⟩
            have hI2 : x < 0 := by rw [← hx]; exact hI
            rw [hx] at CI
            clear hc hcc hlow h3 hx hI
            go_wp2_with (first | go_quiet (fail) | (go_at_call 46; refine (CI.out _).mono ?_; rintro e w' ⟨rfl, rfl⟩))
            go_ret
            exact ⟨by rw [E.out]; rfl, rfl⟩
          · have HK := hide (show (lowB s[k] || (decide (0 < k) && sigB.contains s[k])) = true by rw [hc, h3, decide_eq_true (by omega)]; simp)
            have hI : 0 ≤ Lib.indexByte sigB c := indexByte_nonneg _ _ h3
            obtain ⟨x, hx⟩ : ∃ x, Lib.indexByte (⟨#[48, 49, 50, 51, 52, 53, 54, 55, 56, 57, 45, 46, 95]⟩ : ByteArray).data.toList c = x := ⟨_, rfl⟩
            have hI2 : 0 ≤ x := by rw [← hx]; exact hI
            have hI3 : decide (x < 0) = false := by simp; omega
            rw [hx] at CI
            clear hc hcc hlow h3 hx hI
            go_wp2_with (first | go_quiet (fail) | (go_at_call 46; refine (CI.out _).mono ?_; rintro e w' ⟨rfl, rfl⟩))
            go_round
            case rel => exact ⟨k + 1, by omega, by go_num, fun j d hj hd => by (by_cases e : j = k); (subst e; rw [HG.out] at hd; cases hd; exact HK.out); exact HALL.out j d (by omega) hd⟩
            case measure => simp [intOf]; omega
      · have t1 : decide ((s[k].toNat : Int) < 97) = false := by rw [hc]; simp; omega
        by_cases h122 : 122 < c.toNat
        · have t2 : (122 : Int) < (s[k].toNat : Int) := by rw [hc]; omega
          have hlow : lowB c = false := by rw [lowB, decide_eq_false (show ¬ c.toNat ≤ 122 by omega), Bool.and_false]
          have h3 : sigB.contains c = false := by
            have h : ∀ n, n < 256 → 122 < n → sigB.contains (UInt8.ofNat n) = false := by decide +kernel
            have := h c.toNat (UInt8.toNat_lt c) h122
            rwa [UInt8.ofNat_toNat] at this
          have E := hide (nameB_no (nmL_hit HG.out (by rw [hc, hlow, h3]; simp)))
          have hI : Lib.indexByte sigB c < 0 := indexByte_neg _ _ h3
          obtain ⟨x, hx⟩ : ∃ x, Lib.indexByte (⟨#[48, 49, 50, 51, 52, 53, 54, 55, 56, 57, 45, 46, 95]⟩ : ByteArray).data.toList c = x := ⟨_, rfl⟩
          have hI2 : x < 0 := by rw [← hx]; exact hI
          rw [hx] at CI
          clear hc hcc hlow h3 hx hI
          by_cases hk0 : k = 0
          · subst hk0
            go_wp2_with (first | go_quiet (fail) | (go_at_call 46; refine (CI.out _).mono ?_; rintro e w' ⟨rfl, rfl⟩))
            go_ret
            exact ⟨by rw [E.out]; rfl, rfl⟩
          · have t4 : ((k : Int) == 0) = false := by simp; omega
            have t3 : ¬ (k : Int) = 0 := by omega
            go_wp2_with (first | go_quiet (fail) | (go_at_call 46; refine (CI.out _).mono ?_; rintro e w' ⟨rfl, rfl⟩))
            go_ret
            exact ⟨by rw [E.out]; rfl, rfl⟩
        · have t2 : decide ((122 : Int) < (s[k].toNat : Int)) = false := by rw [hc]; simp; omega
          have HK := hide (show (lowB s[k] || (decide (0 < k) && sigB.contains s[k])) = true by rw [hc, lowB, decide_eq_true (show 97 ≤ c.toNat by omega), decide_eq_true (show c.toNat ≤ 122 by omega)]; rfl)
          clear hc hcc
          go_wp2_with (first | go_quiet (fail))
          go_round
          case rel => exact ⟨k + 1, by omega, by go_num, fun j d hj hd => by (by_cases e : j = k); (subst e; rw [HG.out] at hd; cases hd; exact HK.out); exact HALL.out j d (by omega) hd⟩
          case measure => simp [intOf]; omega
    · obtain rfl : k = s.size := by omega
      have E := hide (nameB_of (nmL_upto (by simp) HALL.out))
      by_cases h1 : 1 ≤ s.size
      · have h1i : (1 : Int) ≤ (s.size : Int) := by omega
        by_cases h2 : s.size ≤ 40
        · have h2i : (s.size : Int) ≤ 40 := by omega
          go_wp2_with (fail)
          go_ret
          exact ⟨by rw [E.out]; simp [h1, h2], rfl⟩
        · have h2i : decide ((s.size : Int) ≤ 40) = false := by simp; omega
          go_wp2_with (fail)
          go_ret
          exact ⟨by rw [E.out]; simp [h1, h2], rfl⟩
      · have h1i : decide ((1 : Int) ≤ (s.size : Int)) = false := by simp; omega
        go_wp2_with (fail)
        go_ret
        exact ⟨by rw [E.out]; simp [h1], rfl⟩
end Go.Proofs.YtnkccilgbhogbaaDoor
