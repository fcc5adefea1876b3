/- Walk of SpikeError; the tests of a spike. -/
import Derived.Test.YtelheecamghigaaRateSort
import Derived.Test.YtelheecamghigaaFam
namespace Go.Proofs.Ytelheecamghigaa
open Go.RowKit
set_option linter.unusedVariables false
def outsideB (n lo hi : Int) : Bool := decide (n < lo) || decide (hi < n)
theorem not_lt_bool (a b : Int) : (!decide (a < b)) = decide (b ≤ a) := by rw [← decide_not]; exact decide_eq_decide.2 (by omega)
theorem in_any (n lo hi : Int) (w : World) :
    Calls Try.prog 10 #[.int .i64 n, .int .i64 lo, .int .i64 hi] w fun e w' => e = .returned (.bool (!outsideB n lo hi)) ∧ w = w' := by
  go_enter Try.func10, Try.ntmps10
  go_wp2
  all_goals go_ret
  all_goals (exact ⟨ret_bool (by simp [outsideB, not_lt_bool, *]), rfl⟩)
theorem outside_any (n lo hi : Int) (w : World) :
    Calls Try.prog 7 #[.int .i64 n, .int .i64 lo, .int .i64 hi] w fun e w' => e = .returned (.bool (outsideB n lo hi)) ∧ w = w' := by
  go_enter Try.func7, Try.ntmps7
  go_wp2
  all_goals go_ret
  all_goals (exact ⟨by simp [outsideB, *], rfl⟩)
theorem outB_true {n lo hi : Int} (h : outsideB n lo hi = true) : n < lo ∨ hi < n := by simpa [outsideB] using h
theorem outB_false {n lo hi : Int} (h : outsideB n lo hi = false) : lo ≤ n ∧ n ≤ hi := by simpa [outsideB] using h
section
variable {l : List Int} {p q : Int}
theorem sp_short (h : l.length < 2) : spErr l p q = 7 := by unfold spErr; rw [if_pos h]
theorem sp_long (h : 1000 < l.length) : spErr l p q = 4 := by unfold spErr; rw [if_neg (by omega), if_pos h]
theorem sp_hit (h0 : 2 ≤ l.length) (h1 : l.length ≤ 1000) {k : Nat} {x : Int} (hx : l[k]? = some x) (ho : outsideB x 0 1000000000 = true) : spErr l p q = 2 := by
  unfold spErr; rw [if_neg (by omega), if_neg (by omega), if_pos ⟨x, List.mem_of_getElem? hx, outB_true ho⟩]
theorem sp_pq (h0 : 2 ≤ l.length) (h1 : l.length ≤ 1000) (ho : outsideB p 0 100000 = true ∨ outsideB q 0 1000000000 = true) : spErr l p q = 2 := by
  unfold spErr
  rw [if_neg (by omega), if_neg (by omega)]
  split
  · rfl
  · rw [if_pos]
    rcases ho with h | h
    · exact .inl (outB_true h)
    · exact .inr (outB_true h)
theorem sp_ok (h0 : 2 ≤ l.length) (h1 : l.length ≤ 1000) (hl : ∀ x ∈ l, 0 ≤ x ∧ x ≤ 1000000000) (hp : outsideB p 0 100000 = false) (hq : outsideB q 0 1000000000 = false) : spErr l p q = 0 := by
  have := outB_false hp
  have := outB_false hq
  unfold spErr
  rw [if_neg (by omega), if_neg (by omega), if_neg, if_neg (by omega)]
  rintro ⟨x, hx, h⟩
  have := hl x hx
  omega
end
theorem all_of {l : List Int} {n : Nat} (hn : l.length = n) (h : ∀ j x, j < n → l[j]? = some x → outsideB x 0 1000000000 = false) : ∀ x ∈ l, 0 ≤ x ∧ x ≤ 1000000000 := fun x hx => by
  obtain ⟨j, hj, rfl⟩ := List.getElem_of_mem hx
  exact outB_false (h j _ (by omega) (List.getElem?_eq_getElem hj))
set_option maxRecDepth 100000 in
set_option maxHeartbeats 2000000 in
theorem SpikeError_any (A : Option Addr) (n c : Nat) (l : List Int) (p q : Int) (w : World) (hn : n ≤ maxLen) (hl : Sl w w.heap.size ci 1 A n l) :
    Calls Try.prog 5 #[.slice A n c, .int .i64 p, .int .i64 q] w fun e w' => e = .returned (.int .i64 (spErr l p q)) ∧ Below w.heap.size w w' := by
  unfold maxLen at hn
  have HL := hide hl.len
  have HSL := hide hl
  by_cases h2 : n < 2
  · have E := hide (show spErr l p q = 7 from sp_short (by rw [hl.len]; exact h2))
    have h2' : (n : Int) < 2 := by omega
    clear hl
    go_enter Try.func5, Try.ntmps5
    go_wp2_with (fail)
    go_ret
    exact ⟨by rw [E.out]; rfl, Below.refl _ _⟩
  · have h2' : ¬ (n : Int) < 2 := by omega
    by_cases h3 : 1000 < n
    · have E := hide (show spErr l p q = 4 from sp_long (by rw [hl.len]; exact h3))
      have h3' : (1000 : Int) < n := by omega
      clear hl
      go_enter Try.func5, Try.ntmps5
      go_wp2_with (fail)
      go_ret
      exact ⟨by rw [E.out]; rfl, Below.refl _ _⟩
    · have h3' : ¬ (1000 : Int) < n := by omega
      clear hl
      go_enter Try.func5, Try.ntmps5
      go_wp2_with (fail)
      go_loopw [17] (fun i wr => ∃ k : Nat, k ≤ n ∧ i = .int .i64 k ∧ Below w.heap.size w wr ∧ ∀ j x, j < k → l[j]? = some x → outsideB x 0 1000000000 = false) (fun i _ => n - (intOf i).toNat)
      case atStart => exact ⟨0, Nat.zero_le _, rfl, Below.refl _ _, fun j x h => by omega⟩
      case round =>
        obtain ⟨k, hk, rfl, hB, hall⟩ := hrel
        have HALL := hide hall
        clear hall
        by_cases hlt : k < n
        · obtain ⟨b, o, x, rfl, hb, hx, hc⟩ := (HSL.out.below hB).at_ hlt
          have hc0 : wr.cell? ⟨b, o + k, none⟩ = some (.int .i64 x) := by simpa [ci] using hc 0 _ rfl
          have HX := hide hx
          have HIN := hide (fun W => in_any x 0 1000000000 W)
          clear hc hx
          cases ho : outsideB x 0 1000000000
          · rw [ho] at HIN
            have HO := hide ho
            clear ho
            go_wp2_with (go_at_call 10; refine (HIN.out _).mono ?_; rintro e w' ⟨rfl, rfl⟩)
            go_roundw
            case rel => exact ⟨k + 1, by omega, by go_num, hB, fun j y hj hy => by (by_cases e : j = k); (subst e; rw [HX.out] at hy; cases hy; exact HO.out); exact HALL.out j y (by omega) hy⟩
            case measure => simp [intOf]; omega
          · have E := hide (show spErr l p q = 2 from sp_hit (by rw [HL.out]; omega) (by rw [HL.out]; omega) HX.out ho)
            rw [ho] at HIN
            clear ho
            go_wp2_with (go_at_call 10; refine (HIN.out _).mono ?_; rintro e w' ⟨rfl, rfl⟩)
            go_ret
            exact ⟨by rw [E.out]; rfl, hB⟩
        · obtain rfl : k = n := by omega
          have HP := hide (fun W => in_any p 0 100000 W)
          have HQ := hide (fun W => in_any q 0 1000000000 W)
          cases hp : outsideB p 0 100000
          · cases hq : outsideB q 0 1000000000
            · have E := hide (show spErr l p q = 0 from sp_ok (by rw [HL.out]; omega) (by rw [HL.out]; omega) (all_of HL.out HALL.out) hp hq)
              rw [hp] at HP
              rw [hq] at HQ
              clear hp hq
              go_wp2_with (first | (go_at_call 10; with_reducible refine (HP.out _).mono ?_; rintro e w' ⟨rfl, rfl⟩) | (go_at_call 10; with_reducible refine (HQ.out _).mono ?_; rintro e w' ⟨rfl, rfl⟩))
              go_ret
              exact ⟨by rw [E.out]; rfl, hB⟩
            · have E := hide (show spErr l p q = 2 from sp_pq (by rw [HL.out]; omega) (by rw [HL.out]; omega) (.inr hq))
              rw [hp] at HP
              rw [hq] at HQ
              clear hp hq
              go_wp2_with (first | (go_at_call 10; with_reducible refine (HP.out _).mono ?_; rintro e w' ⟨rfl, rfl⟩) | (go_at_call 10; with_reducible refine (HQ.out _).mono ?_; rintro e w' ⟨rfl, rfl⟩))
              go_ret
              exact ⟨by rw [E.out]; rfl, hB⟩
          · have E := hide (show spErr l p q = 2 from sp_pq (by rw [HL.out]; omega) (by rw [HL.out]; omega) (.inl hp))
            rw [hp] at HP
            clear hp
            go_wp2_with (first | (go_at_call 10; with_reducible refine (HP.out _).mono ?_; rintro e w' ⟨rfl, rfl⟩) | (go_at_call 10; with_reducible refine (HQ.out _).mono ?_; rintro e w' ⟨rfl, rfl⟩))
            go_ret
            exact ⟨by rw [E.out]; rfl, hB⟩
end Go.Proofs.Ytelheecamghigaa
