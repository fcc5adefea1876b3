/- Walk of Fits. -/
import Derived.Test.YtomihkflhhhpjaaDoorGrFitL
import Derived.Test.YtomihkflhhhpjaaDoorShelf
import Derived.BigQuiet
import Derived.Below
import Derived.Test.YtomihkflhhhpjaaDoorFam
import Derived.Lib.TrimByte
namespace Go.Proofs.YtomihkflhhhpjaaDoor
open Go.RowKit
set_option linter.unusedVariables false
theorem dw_nil (l : List UInt8) : l.dropWhile (· == 42) = [] ↔ l.all (· == 42) = true := by
  induction l with
  | nil => simp
  | cons c l ih =>
    rw [List.dropWhile_cons]
    by_cases h : (c == 42) = true
    · rw [if_pos h, ih, List.all_cons, h, Bool.true_and]
    · rw [if_neg h, List.all_cons, Bool.eq_false_iff.2 h]; simp
theorem trim_stars (l : List UInt8) : Lib.trimB l 42 = [] ↔ l.all (· == 42) = true := by
  unfold Lib.trimB Lib.trimLeftB Lib.trimRightB
  rw [dw_nil, List.all_reverse]
  constructor
  · intro h
    cases e : l.reverse.dropWhile (· == 42) with
    | nil => rw [dw_nil, List.all_reverse] at e; exact e
    | cons c t =>
      have h3 := List.head_dropWhile_not (· == (42 : UInt8)) (l := l.reverse) (by rw [e]; simp)
      simp only [e, List.head_cons] at h3
      rw [e, List.all_cons, h3] at h; cases h
  · intro h
    rw [(dw_nil l.reverse).2 (by rw [List.all_reverse]; exact h)]; rfl
theorem extract_toList (p : ByteArray) (i : Nat) : (p.extract i p.size).data.toList = p.data.toList.drop i := by
  rw [ByteArray.data_extract, Array.toList_extract, List.extract_eq_take_drop]
  exact List.take_of_length_le (by simp)
/-- What Fits says. -/
def fitsB (p s : ByteArray) : Bool := decide (p.size ≤ 100) && gm p.data.toList s.data.toList
theorem get_at (s : ByteArray) (k : Nat) (h : k < s.size) : s.data.toList[k]? = some s[k] := by
  rw [List.getElem?_eq_getElem (by simpa using h)]; rfl
theorem get_none (s : ByteArray) (k : Nat) (h : ¬ k < s.size) : s.data.toList[k]? = none := by
  rw [List.getElem?_eq_none (by simp; omega)]
theorem u8_ne {c d : UInt8} (h : c ≠ d) : ¬ (c.toNat : Int) = (d.toNat : Int) := fun e => h (UInt8.toNat_inj.1 (by omega))
theorem meas1 (S P m m' i : Nat) (h : m ≤ m') (hi : i < P) : (S + 1 - m') * (P + 1) + (P - (i + 1)) < (S + 1 - m) * (P + 1) + (P - i) := by
  have := Nat.mul_le_mul_right (P + 1) (show S + 1 - m' ≤ S + 1 - m by omega)
  omega
theorem meas2 (S P m j i : Nat) (h : m < S + 1) : (S + 1 - (m + 1)) * (P + 1) + (P - j) < (S + 1 - m) * (P + 1) + (P - i) := by
  obtain ⟨x, hx⟩ : ∃ x, S + 1 - m = x + 1 := ⟨S - m, by omega⟩
  rw [hx, show S + 1 - (m + 1) = x by omega, Nat.add_mul]
  omega
set_option maxRecDepth 100000 in
set_option maxHeartbeats 4000000 in
theorem Fits_any (p s : ByteArray) (w : World) (hs : s.size ≤ maxLen) :
    Calls Tryd.prog 135 #[.string p, .string s] w fun e w' => e = .returned (.bool (fitsB p s)) ∧ Below w.heap.size w w' := by
  unfold maxLen at hs
  by_cases hp : p.size ≤ 100
  · have hp1 : ¬ (100 : Int) < (p.size : Int) := by omega
    go_enter Tryd.func135, Tryd.ntmps135
    go_wp2_with (fail)
    go_loopw [5, 6, 7, 8] (fun a b c d wr => ∃ (i k mark : Nat) (star : Int), a = .int .i64 i ∧ b = .int .i64 star ∧ c = .int .i64 mark ∧ d = .int .i64 k ∧ FI p.data.toList s.data.toList i k star mark ∧ Below w.heap.size w wr) (fun a _ c _ _ => (s.size + 1 - (intOf c).toNat) * (p.size + 1) + (p.size - (intOf a).toNat))
    case atStart => exact ⟨0, 0, 0, -1, rfl, rfl, rfl, rfl, FI.start _ _, Below.refl _ _⟩
    case round =>
      obtain ⟨i, k, mark, star, rfl, rfl, rfl, rfl, hI, hB⟩ := hrel
      have b1 : i ≤ p.size := by simpa using hI.1
      have b2 : k ≤ s.size := by simpa using hI.2.1
      have b3 : mark ≤ k := hI.2.2.1
      obtain ⟨b4, b5, b6⟩ := hI.bound
      have HI := hide hI
      clear hI
      by_cases hk : k < s.size
      · have hd := get_at s k hk
        by_cases hi : i < p.size
        · have hc := get_at p i hi
          obtain ⟨c, hcc⟩ : ∃ c, p[i] = c := ⟨_, rfl⟩
          obtain ⟨d, hdd⟩ : ∃ d, s[k] = d := ⟨_, rfl⟩
          rw [hcc] at hc
          rw [hdd] at hd
          by_cases h42 : c = 42
          · have H := hide (HI.out.stars (by rw [hc, h42]))
            have t1 : (p[i].toNat : Int) = 42 := by rw [hcc, h42]; rfl
            clear hcc hdd
            go_wp2_with (fail)
            go_roundw
            case rel => exact ⟨i + 1, k, k, i, by go_num, rfl, rfl, rfl, H.out, hB⟩
            case measure => simpa [intOf] using meas1 s.size p.size mark k i b3 hi
          · have t1 : ¬ (p[i].toNat : Int) = 42 := by rw [hcc]; exact u8_ne h42
            by_cases h63 : c = 63
            · have H := hide (HI.out.lit hc hd h42 (by rw [h63]; rfl))
              have t2 : (p[i].toNat : Int) = 63 := by rw [hcc, h63]; rfl
              clear hcc hdd
              go_wp2_with (go_quiet (fail))
              go_roundw
              case rel => exact ⟨i + 1, k + 1, mark, star, by go_num, rfl, rfl, by go_num, H.out, below_drewN hB _⟩
              case measure => simpa [intOf] using meas1 s.size p.size mark mark i (Nat.le_refl _) hi
            · have t2 : ¬ (p[i].toNat : Int) = 63 := by rw [hcc]; exact u8_ne h63
              by_cases he : c = d
              · have H := hide (HI.out.lit hc hd h42 (by rw [he]; simp))
                have t3 : (p[i].toNat : Int) = (s[k].toNat : Int) := by rw [hcc, hdd, he]
                have t4 : ¬ (s[k].toNat : Int) = 42 := by rw [← t3]; exact t1
                have t5 : ¬ (s[k].toNat : Int) = 63 := by rw [← t3]; exact t2
                clear hcc hdd
                go_wp2_with (go_quiet (fail))
                go_roundw
                case rel => exact ⟨i + 1, k + 1, mark, star, by go_num, rfl, rfl, by go_num, H.out, below_drewN hB _⟩
                case measure => simpa [intOf] using meas1 s.size p.size mark mark i (Nat.le_refl _) hi
              · have hf : (c == 63 || c == d) = false := by simp [h63, he]
                have t3 : ¬ (p[i].toNat : Int) = (s[k].toNat : Int) := by rw [hcc, hdd]; exact u8_ne he
                have t3' : ((p[i].toNat : Int) == (s[k].toNat : Int)) = false := by simpa using t3
                have hn : NoFit p.data.toList s.data.toList i k := .inr ⟨c, d, hc, hd, h42, hf⟩
                by_cases hs0 : 0 ≤ star
                · obtain ⟨st, rfl⟩ := Int.eq_ofNat_of_zero_le hs0
                  have H := hide (HI.out.back hs0 (by simpa using hk) hn)
                  clear hn
                  clear hcc hdd hf
                  go_wp2_with (go_quiet (fail))
                  go_roundw
                  case rel => exact ⟨st + 1, mark + 1, mark + 1, st, by go_num, rfl, by go_num, by go_num, H.out, below_drewN hB _⟩
                  case measure => simpa [intOf] using meas2 s.size p.size mark (st + 1) i (by omega)
                · have E := hide (show fitsB p s = false by rw [fitsB, HI.out.fail (by omega) (by simpa using hk) hn, Bool.and_false])
                  have hs1 : star < 0 := by omega
                  clear hn
                  clear hcc hdd hf
                  go_wp2_with (go_quiet (fail))
                  go_ret
                  exact ⟨by rw [E.out]; rfl, below_drewN hB _⟩
        · have hn : NoFit p.data.toList s.data.toList i k := .inl (get_none p i hi)
          by_cases hs0 : 0 ≤ star
          · obtain ⟨st, rfl⟩ := Int.eq_ofNat_of_zero_le hs0
            have H := hide (HI.out.back hs0 (by simpa using hk) hn)
            clear hn
            go_wp2_with (go_quiet (fail))
            go_roundw
            case rel => exact ⟨st + 1, mark + 1, mark + 1, st, by go_num, rfl, by go_num, by go_num, H.out, below_drewN hB _⟩
            case measure => simpa [intOf] using meas2 s.size p.size mark (st + 1) i (by omega)
          · have E := hide (show fitsB p s = false by rw [fitsB, HI.out.fail (by omega) (by simpa using hk) hn, Bool.and_false])
            have hs1 : star < 0 := by omega
            clear hn
            go_wp2_with (go_quiet (fail))
            go_ret
            exact ⟨by rw [E.out]; rfl, below_drewN hB _⟩
      · have hfe : fitsB p s = (p.data.toList.drop i).all (· == 42) := by rw [fitsB, HI.out.end_ (by simpa using hk), decide_eq_true hp, Bool.true_and]
        have E := hide hfe
        clear hfe
        obtain ⟨t, ht⟩ : ∃ t : ByteArray, p.extract i p.size = t := ⟨_, rfl⟩
        obtain ⟨r, hr⟩ : ∃ r : ByteArray, r = ⟨(Lib.trimB t.data.toList 42).toArray⟩ := ⟨_, rfl⟩
        have TC := hide (show ∀ W : World, Calls Tryd.prog 137 #[.string (p.extract i p.size), .string ⟨#[42]⟩] W fun e w' => e = .returned (.string r) ∧ (w' = W ∨ w' = W.drew) from fun W => by rw [hr, ht]; exact Tryd.strings_Trim_one t 42 (by decide) W (by rw [← ht]; simp; omega))
        have hR : (r.toList = []) ↔ (p.data.toList.drop i).all (· == 42) = true := by
          rw [← extract_toList p i, ht, ← trim_stars t.data.toList, hr]
          simp [ByteArray.toList_eq]
        clear hr ht
        cases ha : (p.data.toList.drop i).all (· == 42)
        · rw [ha] at hR E
          have hR' : ¬ r.toList = [] := fun h => by have := hR.1 h; cases this
          have hR2 : r.toList.isEmpty = false := by simpa using hR'
          clear hR ha
          go_wp2_with (go_at_call 137; refine (TC.out _).mono ?_; rintro e w' ⟨rfl, hw'⟩)
          go_ret
          exact ⟨by rw [E.out]; rfl, by rcases hw' with rfl | rfl <;> first | exact hB | exact hB.drew⟩
        · rw [ha] at hR E
          have hR' : r.toList = [] := hR.2 rfl
          have hR2 : r.toList.isEmpty = true := by rw [hR']; rfl
          clear hR ha
          go_wp2_with (go_at_call 137; refine (TC.out _).mono ?_; rintro e w' ⟨rfl, hw'⟩)
          go_ret
          exact ⟨by rw [E.out]; rfl, by rcases hw' with rfl | rfl <;> first | exact hB | exact hB.drew⟩
  · have hp1 : (100 : Int) < (p.size : Int) := by omega
    have E := hide (show fitsB p s = false by rw [fitsB, decide_eq_false hp]; rfl)
    go_enter Tryd.func135, Tryd.ntmps135
    go_wp2_with (fail)
    go_ret
    exact ⟨by rw [E.out]; rfl, Below.refl _ _⟩
end Go.Proofs.YtomihkflhhhpjaaDoor
