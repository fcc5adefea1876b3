/- Rules of watches; walks of the checks of one rule (printed by gen_a1.py). -/
import Derived.Test.YtnkccilgbhogbaaDoorNames
import Derived.Test.YtnkccilgbhogbaaDoorFirsts
import Derived.Test.YtnkccilgbhogbaaDoorMapB
import Derived.Test.YtnkccilgbhogbaaDoorMem
import Derived.Test.YtnkccilgbhogbaaDoorFam
namespace Go.Proofs.YtnkccilgbhogbaaDoor
open Go.RowKit
set_option linter.unusedVariables false
set_option linter.unusedSimpArgs false
structure Rl where
  name : ByteArray
  key : ByteArray
  ask : Int
  limit : Int
  window : Int
  hold : Int
  rest : Int
/-- The cells of a rule. -/
def Rl.cs (r : Rl) : List Value := [.string r.name, .string r.key, .int .i64 r.ask, .int .i64 r.limit, .int .i64 r.window, .int .i64 r.hold, .int .i64 r.rest]
def rangeB (r : Rl) : Bool := outsideB r.limit 0 1000000000 || (outsideB r.window 1 604800 || (outsideB r.hold 0 604800 || outsideB r.rest 0 604800))
/-- The error of a rule, but for its name. -/
def ruleErr (r : Rl) : Int := if keyErr r.key = 0 then (if outsideB r.ask 1 4 then 10 else if rangeB r then 2 else if r.ask = 4 ∧ r.limit ≠ 0 then 1 else 0) else keyErr r.key
theorem ruleErr_key {r : Rl} (h : keyErr r.key ≠ 0) : ruleErr r = keyErr r.key := by rw [ruleErr, if_neg h]
theorem ruleErr_ask {r : Rl} (h : keyErr r.key = 0) (h1 : outsideB r.ask 1 4 = true) : ruleErr r = 10 := by rw [ruleErr, if_pos h, if_pos h1]
theorem ruleErr_range {r : Rl} (h : keyErr r.key = 0) (h1 : outsideB r.ask 1 4 = false) (h2 : rangeB r = true) : ruleErr r = 2 := by rw [ruleErr, if_pos h, if_neg (by rw [h1]; decide), if_pos h2]
theorem ruleErr_form {r : Rl} (h : keyErr r.key = 0) (h1 : outsideB r.ask 1 4 = false) (h2 : rangeB r = false) (h3 : r.ask = 4) (h4 : r.limit ≠ 0) : ruleErr r = 1 := by rw [ruleErr, if_pos h, if_neg (by rw [h1]; decide), if_neg (by rw [h2]; decide), if_pos ⟨h3, h4⟩]
theorem ruleErr_none {r : Rl} (h : keyErr r.key = 0) (h1 : outsideB r.ask 1 4 = false) (h2 : rangeB r = false) (h3 : ¬ (r.ask = 4 ∧ r.limit ≠ 0)) : ruleErr r = 0 := by rw [ruleErr, if_pos h, if_neg (by rw [h1]; decide), if_neg (by rw [h2]; decide), if_neg h3]
theorem outside_any (n lo hi : Int) (w : World) :
    Calls Tryd.prog 43 #[.int .i64 n, .int .i64 lo, .int .i64 hi] w fun e w' => e = .returned (.bool (outsideB n lo hi)) ∧ w = w' := by
  go_enter Tryd.func43, Tryd.ntmps43
  go_wp2
  all_goals go_ret
  all_goals (exact ⟨ret_bool (by simp [outsideB, *]), rfl⟩)
theorem isMoment_any (n : Int) (w : World) : Calls Tryd.prog 44 #[.int .i64 n] w fun e w' => e = .returned (.bool (!outsideB n 0 3155759999)) ∧ w = w' := by
  go_enter Tryd.func44, Tryd.ntmps44
  go_wp2_with (go_at_call 43; refine (outside_any _ _ _ _).mono ?_; rintro e w' ⟨rfl, rfl⟩)
  go_ret
  exact ⟨rfl, rfl⟩
end Go.Proofs.YtnkccilgbhogbaaDoor
