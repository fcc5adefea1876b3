/- Walk of the reference's bytesIn. -/
import Derived.Test.YtomihkflhhhpjaaDoorBase
import Derived.Test.YtomihkflhhhpjaaDoorShelf
import Derived.Lib.IndexAny
namespace Go.Proofs.YtomihkflhhhpjaaDoor
open Go.RowKit
/-- What stands in the blocks below a call's own is as it was. -/
theorem bcell {W w1 : World} (hb : Below W.heap.size W w1) : (∀ b o, b < W.heap.size → w1.cell? ⟨b, o, none⟩ = W.cell? ⟨b, o, none⟩) ∧ (∀ b o, b < W.heap.size → w1.frozen? ⟨b, o, none⟩ = W.frozen? ⟨b, o, none⟩) :=
  ⟨fun b o h => hb.cell (p := ⟨b, o, none⟩) h, fun b o h => hb.frozen (p := ⟨b, o, none⟩) h⟩
theorem bthen {W w w1 : World} (hw : Below W.heap.size W w1) (h : Below w.heap.size w W) (hB : w.heap.size ≤ W.heap.size) : Below w.heap.size w w1 := h.trans (hw.mono hB)
def outsideB (n lo hi : Int) : Bool := decide (n < lo) || decide (hi < n)
theorem not_lt_bool (a b : Int) : (!decide (a < b)) = decide (b ≤ a) := by rw [← decide_not]; exact decide_eq_decide.2 (by omega)
theorem in_any (n lo hi : Int) (w : World) :
    Calls Tryd.prog 43 #[.int .i64 n, .int .i64 lo, .int .i64 hi] w fun e w' => e = .returned (.bool (!outsideB n lo hi)) ∧ w = w' := by
  go_enter Tryd.func43, Tryd.ntmps43
  go_wp2
  all_goals go_ret
  all_goals (exact ⟨ret_bool (by simp [outsideB, not_lt_bool, *]), rfl⟩)
theorem all_take_snoc (s : ByteArray) (p : UInt8 → Bool) (k : Nat) (h : k < s.size) : (s.data.toList.take (k + 1)).all p = ((s.data.toList.take k).all p && p s[k]) := by
  rw [take_snoc s k h]; simp
theorem all_take_false (s : ByteArray) (p : UInt8 → Bool) (k : Nat) (h : k < s.size) (hp : p s[k] = false) : s.data.toList.all p = false := by
  rw [List.all_eq_false]
  exact ⟨s[k], by rw [show s[k] = s.data.toList[k]'(by simpa using h) from rfl]; exact List.getElem_mem _, by simp [hp]⟩
/-- What bytesIn says. -/
def bytesInB (s : ByteArray) (low : Nat) (without : List UInt8) : Bool := s.data.toList.all fun c => decide (low ≤ c.toNat) && decide (c.toNat ≤ 126) && !without.contains c
theorem indexByte_neg (l : List UInt8) (c : UInt8) (h : l.contains c = false) : Lib.indexByte l c < 0 := by
  have := Lib.contains_iff_indexByte l c
  rw [h] at this
  simpa using this.symm
theorem indexByte_nonneg (l : List UInt8) (c : UInt8) (h : l.contains c = true) : 0 ≤ Lib.indexByte l c := by
  have := Lib.contains_iff_indexByte l c
  rw [h] at this
  simpa using this.symm
set_option maxHeartbeats 800000 in
theorem bytesIn_any (s : ByteArray) (low : Nat) (t : ByteArray) (w : World) (hs : s.size ≤ maxLen) :
    Calls Tryd.prog 62 #[.string s, .int .u8 low, .string t] w fun e w' => e = .returned (.bool (bytesInB s low t.data.toList)) ∧ w = w' := by
  unfold maxLen at hs
  go_enter Tryd.func62, Tryd.ntmps62
  go_wp2
  go_loop [10] (fun i => ∃ k : Nat, k ≤ s.size ∧ i = .int .i64 k ∧ (s.data.toList.take k).all (fun c => decide (low ≤ c.toNat) && decide (c.toNat ≤ 126) && !t.data.toList.contains c) = true) (fun i => s.size - (intOf i).toNat)
  case atStart => exact ⟨0, Nat.zero_le _, rfl, rfl⟩
  case round =>
    obtain ⟨k, hk, rfl, hall⟩ := hrel
    have HALL := hide hall
    clear hall
    by_cases hlt : k < s.size
    · obtain ⟨c, hc⟩ : ∃ c, s[k] = c := ⟨_, rfl⟩
      by_cases h1 : c.toNat < low
      · have E := hide (show bytesInB s low t.data.toList = false from all_take_false s _ k hlt (by rw [hc]; simp; omega))
        have h1' : ((s[k].toNat : Int)) < low := by rw [hc]; omega
        clear hc
        go_wp2_with (fail)
        go_ret
        exact ⟨by rw [E.out]; rfl, rfl⟩
      · by_cases h2 : 126 < c.toNat
        · have E := hide (show bytesInB s low t.data.toList = false from all_take_false s _ k hlt (by rw [hc]; simp; omega))
          have h1' : (low : Int) ≤ (s[k].toNat : Int) := by rw [hc]; omega
          have h2' : (126 : Int) < (s[k].toNat : Int) := by rw [hc]; omega
          clear hc
          go_wp2_with (fail)
          go_ret
          exact ⟨by rw [E.out]; rfl, rfl⟩
        · have h1' : (low : Int) ≤ (s[k].toNat : Int) := by rw [hc]; omega
          have h2' : (s[k].toNat : Int) ≤ 126 := by rw [hc]; omega
          have hcc : ((s[k].toNat : Int)).toNat.toUInt8 = c := by rw [hc]; simp
          cases h3 : t.data.toList.contains c
          · have E := hide (show (fun c : UInt8 => decide (low ≤ c.toNat) && decide (c.toNat ≤ 126) && !t.data.toList.contains c) s[k] = true by rw [hc]; simp at h3 ⊢; exact ⟨by omega, h3⟩)
            have hI := indexByte_neg _ _ h3
            rw [← hcc] at hI
            obtain ⟨x, hx⟩ : ∃ x, Lib.indexByte t.data.toList ((s[k].toNat : Int)).toNat.toUInt8 = x := ⟨_, rfl⟩
            have CI := hide (fun W => Tryd.strings_IndexByte t (s[k].toNat : Int) W)
            rw [hx] at hI CI
            clear hc hcc h3 hx
            go_wp2_with (go_at_call 27; refine (CI.out _).mono ?_; rintro e w' ⟨rfl, rfl⟩)
            go_round
            case rel => exact ⟨k + 1, by omega, by go_num, by rw [all_take_snoc s _ k hlt, HALL.out, E.out]; rfl⟩
            case measure => simp [intOf]; omega
          · have E := hide (show bytesInB s low t.data.toList = false from all_take_false s _ k hlt (by rw [hc]; simp at h3 ⊢; intro _ _; exact h3))
            have hI := indexByte_nonneg _ _ h3
            rw [← hcc] at hI
            obtain ⟨x, hx⟩ : ∃ x, Lib.indexByte t.data.toList ((s[k].toNat : Int)).toNat.toUInt8 = x := ⟨_, rfl⟩
            have CI := hide (fun W => Tryd.strings_IndexByte t (s[k].toNat : Int) W)
            rw [hx] at hI CI
            clear hc hcc h3 hx
            go_wp2_with (go_at_call 27; refine (CI.out _).mono ?_; rintro e w' ⟨rfl, rfl⟩)
            go_ret
            exact ⟨by rw [E.out]; rfl, rfl⟩
    · have E := hide (show bytesInB s low t.data.toList = true by rw [bytesInB, ← take_all s k hlt]; exact HALL.out)
      go_wp2_with (fail)
      go_ret
      exact ⟨by rw [E.out]; rfl, rfl⟩
end Go.Proofs.YtomihkflhhhpjaaDoor
