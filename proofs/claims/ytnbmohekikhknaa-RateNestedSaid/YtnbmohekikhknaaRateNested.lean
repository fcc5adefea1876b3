/- The law RateNested: its walk. -/
import Derived.Test.YtnbmohekikhknaaRateStands
namespace Go.Proofs.Ytnbmohekikhknaa
open Go.RowKit
theorem Sample_bad (s : ByteArray) (r : Int) (hs : s.size ≤ maxLen) (h : ¬ (s.size ≤ 200 ∧ 0 ≤ r ∧ r ≤ 1000000)) :
    ∃ x : Int, (x == 0) = false ∧ (x != 0) = true ∧ ∀ w : World, Calls Try.prog 10 #[.string s, .int .i64 r] w fun e w' => e = .returned (.tuple #[.bool false, .int .i64 x]) ∧ w = w' := by
  by_cases h1 : 200 < s.size
  · exact ⟨4, rfl, rfl, fun w => Sample_large s r w hs h1⟩
  · exact ⟨2, rfl, rfl, fun w => Sample_range s r w hs (by omega) (by simp [outsideB]; omega)⟩
theorem sampled_mono (s : ByteArray) (a b : Int) (h : a ≤ b) (ha : sampledB s a = true) : sampledB s b = true := by
  simp [sampledB] at ha ⊢; omega
theorem sampled_zero (s : ByteArray) : sampledB s 0 = false := by
  have := fnvS_range s; simp [sampledB]; omega
theorem sampled_whole (s : ByteArray) : sampledB s 1000000 = true := by
  have := fnvS_range s; simp [sampledB]; omega
namespace rateNested
theorem walk (s : ByteArray) (hs : s.size ≤ maxLen) (a : Int) (_w1 : (Lit.int .i64 a).wf = true) (b : Int) (_w2 : (Lit.int .i64 b).wf = true) (w : World) :
    Calls Try.prog 4 #[.string s, .int .i64 a, .int .i64 b] w fun e w' => e = .returned (.bool true) ∧ Below w.heap.size w w' := by
  by_cases ha : s.size ≤ 200 ∧ 0 ≤ a ∧ a ≤ 1000000
  · obtain ⟨h, ha0, ha1⟩ := ha
    by_cases hb : s.size ≤ 200 ∧ 0 ≤ b ∧ b ≤ 1000000
    · obtain ⟨_, hb0, hb1⟩ := hb
      have m := sampled_mono s a b
      have z := sampled_zero s
      have o := sampled_whole s
      obtain ⟨x, hx⟩ : ∃ x, sampledB s a = x := ⟨_, rfl⟩
      obtain ⟨y, hy⟩ : ∃ x, sampledB s b = x := ⟨_, rfl⟩
      have F : ∀ W : World, Calls Try.prog 10 #[.string s, .int .i64 a] W fun e w' => e = .returned (.tuple #[.bool x, .int .i64 0]) ∧ W = w' := fun W => by
        rw [← hx]; exact Sample_ok s a W hs h ha0 ha1
      have G : ∀ W : World, Calls Try.prog 10 #[.string s, .int .i64 b] W fun e w' => e = .returned (.tuple #[.bool y, .int .i64 0]) ∧ W = w' := fun W => by
        rw [← hy]; exact Sample_ok s b W hs h hb0 hb1
      have F := hide F
      have G := hide G
      have P : (a ≤ b → x = true → y = true) ∧ (a = 0 → x = false) ∧ (a = 1000000 → x = true) :=
        ⟨fun e1 e2 => by rw [← hy]; exact m e1 (by rw [hx]; exact e2), fun e => by rw [← hx, e]; exact z, fun e => by rw [← hx, e]; exact o⟩
      have P := hide P
      clear hx hy m z o
      go_enter Try.func4, Try.ntmps4
      go_wp2_with fail
      refine (awakeRate_any _).mono ?_
      rintro e w1 ⟨rfl, hw1⟩
      go_wp2_with fail
      refine (F.out _).mono ?_
      rintro e w' ⟨rfl, rfl⟩
      go_wp2_with fail
      refine (G.out _).mono ?_
      rintro e w' ⟨rfl, rfl⟩
      have P := P.out
      clear F G
      cases x <;> cases y <;> simp at P
      all_goals go_wp2
      all_goals (go_ret; exact ⟨rfl, hw1⟩)
    · obtain ⟨y, hy0, hy1, hG⟩ := Sample_bad s b hs hb
      have F := hide (fun W => Sample_ok s a W hs h ha0 ha1)
      have G := hide hG
      clear hG hb
      go_enter Try.func4, Try.ntmps4
      go_wp2_with fail
      refine (awakeRate_any _).mono ?_
      rintro e w1 ⟨rfl, hw1⟩
      go_wp2_with fail
      refine (F.out _).mono ?_
      rintro e w' ⟨rfl, rfl⟩
      go_wp2_with fail
      refine (G.out _).mono ?_
      rintro e w' ⟨rfl, rfl⟩
      go_wp2
      all_goals (go_ret; exact ⟨ret_bool (by simp), hw1⟩)
  · obtain ⟨x, hx0, hx1, hF⟩ := Sample_bad s a hs ha
    have hS : ∃ (v : Bool) (y : Int), ∀ W : World, Calls Try.prog 10 #[.string s, .int .i64 b] W fun e w' => e = .returned (.tuple #[.bool v, .int .i64 y]) ∧ W = w' := by
      by_cases hb : s.size ≤ 200 ∧ 0 ≤ b ∧ b ≤ 1000000
      · exact ⟨_, _, fun W => Sample_ok s b W hs hb.1 hb.2.1 hb.2.2⟩
      · obtain ⟨y, _, _, hG⟩ := Sample_bad s b hs hb
        exact ⟨_, _, hG⟩
    obtain ⟨v, y, hG⟩ := hS
    have F := hide hF
    have G := hide hG
    clear hF hG ha
    go_enter Try.func4, Try.ntmps4
    go_wp2_with fail
    refine (awakeRate_any _).mono ?_
    rintro e w1 ⟨rfl, hw1⟩
    go_wp2_with fail
    refine (F.out _).mono ?_
    rintro e w' ⟨rfl, rfl⟩
    go_wp2_with fail
    refine (G.out _).mono ?_
    rintro e w' ⟨rfl, rfl⟩
    go_wp2
    all_goals (go_ret; exact ⟨ret_bool (by simp), hw1⟩)
end rateNested
end Go.Proofs.Ytnbmohekikhknaa
