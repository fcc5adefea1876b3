/- Walk of the program's NewWatch (printed by gen_ad.py). -/
import Derived.Test.YtkkhjlomicokgaaGreatDoorAlSta
import Derived.Test.YtkkhjlomicokgaaGreatDoorTpH
import Derived.Deep.RegionLaw
import Derived.Deep.AppendLies
import Derived.Deep.DrawnRows
namespace Go.Proofs.YtkkhjlomicokgaaGreatDoor.al
open Go.RowKit
set_option linter.unusedVariables false
set_option linter.unusedSimpArgs false
set_option maxRecDepth 100000 in
set_option maxHeartbeats 4000000 in
theorem nNewWatch_rules (n cap : Nat) (A : Option Addr) (l : List Rl) (t : Int) (w : World) (hn : n ≤ maxLen) (hl : Sl w w.heap.size Rl.cs 7 A n l) (hf : RlFit l) (h0 : rlErr l ≠ 0) :
    Calls Tryz.prog 6 #[.slice A n cap, .int .i64 t] w fun e w' => e = .returned (.tuple #[.pointer none, .int .i64 (rlErr l)]) ∧ Below w.heap.size w w' := by
  have CR := hide (CheckRules_any A n cap l w hn hl hf)
  have h0' : (rlErr l == 0) = false := by simpa using h0
  clear hl hf h0
  go_enter Tryz.func6, Tryz.ntmps6
  go_wp2_with (go_at_call 21; refine CR.out.mono ?_; rintro e w1 ⟨rfl, hw1⟩)
  go_ret2
  exact ⟨rfl, hw1⟩
set_option maxRecDepth 100000 in
set_option maxHeartbeats 4000000 in
theorem nNewWatch_mom (n cap : Nat) (A : Option Addr) (l : List Rl) (t : Int) (w : World) (hn : n ≤ maxLen) (hl : Sl w w.heap.size Rl.cs 7 A n l) (hf : RlFit l) (h0 : rlErr l = 0) (hm : momB t = false) :
    Calls Tryz.prog 6 #[.slice A n cap, .int .i64 t] w fun e w' => e = .returned (.tuple #[.pointer none, .int .i64 2]) ∧ Below w.heap.size w w' := by
  have CR := hide (h0 ▸ CheckRules_any A n cap l w hn hl hf)
  have CM := hide (show ∀ W, Calls Tryz.prog 22 #[.int .i64 t] W fun e w' => e = .returned (.bool false) ∧ W = w' from fun W => hm ▸ isMoment_any t W)
  clear hl hf h0 hm
  go_enter Tryz.func6, Tryz.ntmps6
  go_wp2_with (first | (go_at_call 21; refine CR.out.mono ?_; rintro e w1 ⟨rfl, hw1⟩) | (go_at_call 22; refine (CM.out _).mono ?_; rintro e w2 ⟨rfl, rfl⟩))
  go_ret2
  exact ⟨rfl, hw1⟩
end Go.Proofs.YtkkhjlomicokgaaGreatDoor.al