/- Walks of isLetter, isDigit and letter (printed by gen_nc.py). -/
import Derived.Test.YtocpmbpckbjepaaDoorNmGA
import Derived.Test.YtocpmbpckbjepaaDoorProg
import Derived.WalkKit
namespace Go.Proofs.YtocpmbpckbjepaaDoor
open Go.RowKit
set_option linter.unusedVariables false
set_option linter.unusedSimpArgs false
set_option maxHeartbeats 2000000 in
theorem isLetter_any (c : UInt8) (w : World) : Calls Tryd.prog 63 #[.int .u8 c.toNat] w fun e w' => e = .returned (.bool (lettB c)) ∧ w' = w := by
  have hc := UInt8.toNat_lt c
  rcases (show (0 ≤ c.toNat ∧ c.toNat ≤ 47) ∨ (48 ≤ c.toNat ∧ c.toNat ≤ 57) ∨ (58 ≤ c.toNat ∧ c.toNat ≤ 64) ∨ (65 ≤ c.toNat ∧ c.toNat ≤ 90) ∨ (91 ≤ c.toNat ∧ c.toNat ≤ 94) ∨ (95 ≤ c.toNat ∧ c.toNat ≤ 95) ∨ (96 ≤ c.toNat ∧ c.toNat ≤ 96) ∨ (97 ≤ c.toNat ∧ c.toNat ≤ 122) ∨ (123 ≤ c.toNat ∧ c.toNat ≤ 255) from by omega) with ⟨ha, hb⟩ | ⟨ha, hb⟩ | ⟨ha, hb⟩ | ⟨ha, hb⟩ | ⟨ha, hb⟩ | ⟨ha, hb⟩ | ⟨ha, hb⟩ | ⟨ha, hb⟩ | ⟨ha, hb⟩
  · have E := hide (show (lettB c) = false by simp [lettB, digB]; omega)
    have f0 : (c.toNat : Int) < (97 : Int) := by omega
    have f1 : decide ((97 : Int) ≤ (c.toNat : Int)) = false := by simp; omega
    have f2 : (c.toNat : Int) < (65 : Int) := by omega
    have f3 : decide ((65 : Int) ≤ (c.toNat : Int)) = false := by simp; omega
    have f4 : (c.toNat : Int) ≤ (122 : Int) := by omega
    have f5 : (c.toNat : Int) ≤ (90 : Int) := by omega
    have f6 : ¬ (c.toNat : Int) = (95 : Int) := by omega
    have f7 : ((c.toNat : Int) == (95 : Int)) = false := by simp; omega
    clear ha hb hc
    go_enter Tryd.func63, Tryd.ntmps63
    go_wp2_with (fail)
    go_ret
    exact ⟨by rw [E.out]; rfl, rfl⟩
  · have E := hide (show (lettB c) = false by simp [lettB, digB]; omega)
    have f0 : (c.toNat : Int) < (97 : Int) := by omega
    have f1 : decide ((97 : Int) ≤ (c.toNat : Int)) = false := by simp; omega
    have f2 : (c.toNat : Int) < (65 : Int) := by omega
    have f3 : decide ((65 : Int) ≤ (c.toNat : Int)) = false := by simp; omega
    have f4 : (c.toNat : Int) ≤ (122 : Int) := by omega
    have f5 : (c.toNat : Int) ≤ (90 : Int) := by omega
    have f6 : ¬ (c.toNat : Int) = (95 : Int) := by omega
    have f7 : ((c.toNat : Int) == (95 : Int)) = false := by simp; omega
    clear ha hb hc
    go_enter Tryd.func63, Tryd.ntmps63
    go_wp2_with (fail)
    go_ret
    exact ⟨by rw [E.out]; rfl, rfl⟩
  · have E := hide (show (lettB c) = false by simp [lettB, digB]; omega)
    have f0 : (c.toNat : Int) < (97 : Int) := by omega
    have f1 : decide ((97 : Int) ≤ (c.toNat : Int)) = false := by simp; omega
    have f2 : (c.toNat : Int) < (65 : Int) := by omega
    have f3 : decide ((65 : Int) ≤ (c.toNat : Int)) = false := by simp; omega
    have f4 : (c.toNat : Int) ≤ (122 : Int) := by omega
    have f5 : (c.toNat : Int) ≤ (90 : Int) := by omega
    have f6 : ¬ (c.toNat : Int) = (95 : Int) := by omega
    have f7 : ((c.toNat : Int) == (95 : Int)) = false := by simp; omega
    clear ha hb hc
    go_enter Tryd.func63, Tryd.ntmps63
    go_wp2_with (fail)
    go_ret
    exact ⟨by rw [E.out]; rfl, rfl⟩
  · have E := hide (show (lettB c) = true by simp [lettB, digB]; omega)
    have f0 : (c.toNat : Int) < (97 : Int) := by omega
    have f1 : decide ((97 : Int) ≤ (c.toNat : Int)) = false := by simp; omega
    have f2 : (65 : Int) ≤ (c.toNat : Int) := by omega
    have f3 : (c.toNat : Int) ≤ (122 : Int) := by omega
    have f4 : (c.toNat : Int) ≤ (90 : Int) := by omega
    have f5 : ¬ (c.toNat : Int) = (95 : Int) := by omega
    have f6 : ((c.toNat : Int) == (95 : Int)) = false := by simp; omega
    clear ha hb hc
    go_enter Tryd.func63, Tryd.ntmps63
    go_wp2_with (fail)
    go_ret
    exact ⟨by rw [E.out]; rfl, rfl⟩
  · have E := hide (show (lettB c) = false by simp [lettB, digB]; omega)
    have f0 : (c.toNat : Int) < (97 : Int) := by omega
    have f1 : decide ((97 : Int) ≤ (c.toNat : Int)) = false := by simp; omega
    have f2 : (65 : Int) ≤ (c.toNat : Int) := by omega
    have f3 : (c.toNat : Int) ≤ (122 : Int) := by omega
    have f4 : (90 : Int) < (c.toNat : Int) := by omega
    have f5 : decide ((c.toNat : Int) ≤ (90 : Int)) = false := by simp; omega
    have f6 : ¬ (c.toNat : Int) = (95 : Int) := by omega
    have f7 : ((c.toNat : Int) == (95 : Int)) = false := by simp; omega
    clear ha hb hc
    go_enter Tryd.func63, Tryd.ntmps63
    go_wp2_with (fail)
    go_ret
    exact ⟨by rw [E.out]; rfl, rfl⟩
  · have E := hide (show (lettB c) = true by simp [lettB, digB]; omega)
    have f0 : (c.toNat : Int) < (97 : Int) := by omega
    have f1 : decide ((97 : Int) ≤ (c.toNat : Int)) = false := by simp; omega
    have f2 : (65 : Int) ≤ (c.toNat : Int) := by omega
    have f3 : (c.toNat : Int) ≤ (122 : Int) := by omega
    have f4 : (90 : Int) < (c.toNat : Int) := by omega
    have f5 : decide ((c.toNat : Int) ≤ (90 : Int)) = false := by simp; omega
    have f6 : (c.toNat : Int) = (95 : Int) := by omega
    clear ha hb hc
    go_enter Tryd.func63, Tryd.ntmps63
    go_wp2_with (fail)
    go_ret
    exact ⟨by rw [E.out]; rfl, rfl⟩
  · have E := hide (show (lettB c) = false by simp [lettB, digB]; omega)
    have f0 : (c.toNat : Int) < (97 : Int) := by omega
    have f1 : decide ((97 : Int) ≤ (c.toNat : Int)) = false := by simp; omega
    have f2 : (65 : Int) ≤ (c.toNat : Int) := by omega
    have f3 : (c.toNat : Int) ≤ (122 : Int) := by omega
    have f4 : (90 : Int) < (c.toNat : Int) := by omega
    have f5 : decide ((c.toNat : Int) ≤ (90 : Int)) = false := by simp; omega
    have f6 : ¬ (c.toNat : Int) = (95 : Int) := by omega
    have f7 : ((c.toNat : Int) == (95 : Int)) = false := by simp; omega
    clear ha hb hc
    go_enter Tryd.func63, Tryd.ntmps63
    go_wp2_with (fail)
    go_ret
    exact ⟨by rw [E.out]; rfl, rfl⟩
  · have E := hide (show (lettB c) = true by simp [lettB, digB]; omega)
    have f0 : (97 : Int) ≤ (c.toNat : Int) := by omega
    have f1 : (65 : Int) ≤ (c.toNat : Int) := by omega
    have f2 : (c.toNat : Int) ≤ (122 : Int) := by omega
    have f3 : (90 : Int) < (c.toNat : Int) := by omega
    have f4 : decide ((c.toNat : Int) ≤ (90 : Int)) = false := by simp; omega
    have f5 : ¬ (c.toNat : Int) = (95 : Int) := by omega
    have f6 : ((c.toNat : Int) == (95 : Int)) = false := by simp; omega
    clear ha hb hc
    go_enter Tryd.func63, Tryd.ntmps63
    go_wp2_with (fail)
    go_ret
    exact ⟨by rw [E.out]; rfl, rfl⟩
  · have E := hide (show (lettB c) = false by simp [lettB, digB]; omega)
    have f0 : (97 : Int) ≤ (c.toNat : Int) := by omega
    have f1 : (65 : Int) ≤ (c.toNat : Int) := by omega
    have f2 : (122 : Int) < (c.toNat : Int) := by omega
    have f3 : decide ((c.toNat : Int) ≤ (122 : Int)) = false := by simp; omega
    have f4 : (90 : Int) < (c.toNat : Int) := by omega
    have f5 : decide ((c.toNat : Int) ≤ (90 : Int)) = false := by simp; omega
    have f6 : ¬ (c.toNat : Int) = (95 : Int) := by omega
    have f7 : ((c.toNat : Int) == (95 : Int)) = false := by simp; omega
    clear ha hb hc
    go_enter Tryd.func63, Tryd.ntmps63
    go_wp2_with (fail)
    go_ret
    exact ⟨by rw [E.out]; rfl, rfl⟩
set_option maxHeartbeats 2000000 in
theorem isDigit_any (c : UInt8) (w : World) : Calls Tryd.prog 64 #[.int .u8 c.toNat] w fun e w' => e = .returned (.bool (digB c)) ∧ w' = w := by
  have hc := UInt8.toNat_lt c
  rcases (show (0 ≤ c.toNat ∧ c.toNat ≤ 47) ∨ (48 ≤ c.toNat ∧ c.toNat ≤ 57) ∨ (58 ≤ c.toNat ∧ c.toNat ≤ 64) ∨ (65 ≤ c.toNat ∧ c.toNat ≤ 90) ∨ (91 ≤ c.toNat ∧ c.toNat ≤ 94) ∨ (95 ≤ c.toNat ∧ c.toNat ≤ 95) ∨ (96 ≤ c.toNat ∧ c.toNat ≤ 96) ∨ (97 ≤ c.toNat ∧ c.toNat ≤ 122) ∨ (123 ≤ c.toNat ∧ c.toNat ≤ 255) from by omega) with ⟨ha, hb⟩ | ⟨ha, hb⟩ | ⟨ha, hb⟩ | ⟨ha, hb⟩ | ⟨ha, hb⟩ | ⟨ha, hb⟩ | ⟨ha, hb⟩ | ⟨ha, hb⟩ | ⟨ha, hb⟩
  · have E := hide (show (digB c) = false by simp [lettB, digB]; omega)
    have f0 : (c.toNat : Int) < (48 : Int) := by omega
    have f1 : decide ((48 : Int) ≤ (c.toNat : Int)) = false := by simp; omega
    have f2 : (c.toNat : Int) ≤ (57 : Int) := by omega
    clear ha hb hc
    go_enter Tryd.func64, Tryd.ntmps64
    go_wp2_with (fail)
    go_ret
    exact ⟨by rw [E.out]; rfl, rfl⟩
  · have E := hide (show (digB c) = true by simp [lettB, digB]; omega)
    have f0 : (48 : Int) ≤ (c.toNat : Int) := by omega
    have f1 : (c.toNat : Int) ≤ (57 : Int) := by omega
    clear ha hb hc
    go_enter Tryd.func64, Tryd.ntmps64
    go_wp2_with (fail)
    go_ret
    exact ⟨by rw [E.out]; rfl, rfl⟩
  · have E := hide (show (digB c) = false by simp [lettB, digB]; omega)
    have f0 : (48 : Int) ≤ (c.toNat : Int) := by omega
    have f1 : (57 : Int) < (c.toNat : Int) := by omega
    have f2 : decide ((c.toNat : Int) ≤ (57 : Int)) = false := by simp; omega
    clear ha hb hc
    go_enter Tryd.func64, Tryd.ntmps64
    go_wp2_with (fail)
    go_ret
    exact ⟨by rw [E.out]; rfl, rfl⟩
  · have E := hide (show (digB c) = false by simp [lettB, digB]; omega)
    have f0 : (48 : Int) ≤ (c.toNat : Int) := by omega
    have f1 : (57 : Int) < (c.toNat : Int) := by omega
    have f2 : decide ((c.toNat : Int) ≤ (57 : Int)) = false := by simp; omega
    clear ha hb hc
    go_enter Tryd.func64, Tryd.ntmps64
    go_wp2_with (fail)
    go_ret
    exact ⟨by rw [E.out]; rfl, rfl⟩
  · have E := hide (show (digB c) = false by simp [lettB, digB]; omega)
    have f0 : (48 : Int) ≤ (c.toNat : Int) := by omega
    have f1 : (57 : Int) < (c.toNat : Int) := by omega
    have f2 : decide ((c.toNat : Int) ≤ (57 : Int)) = false := by simp; omega
    clear ha hb hc
    go_enter Tryd.func64, Tryd.ntmps64
    go_wp2_with (fail)
    go_ret
    exact ⟨by rw [E.out]; rfl, rfl⟩
  · have E := hide (show (digB c) = false by simp [lettB, digB]; omega)
    have f0 : (48 : Int) ≤ (c.toNat : Int) := by omega
    have f1 : (57 : Int) < (c.toNat : Int) := by omega
    have f2 : decide ((c.toNat : Int) ≤ (57 : Int)) = false := by simp; omega
    clear ha hb hc
    go_enter Tryd.func64, Tryd.ntmps64
    go_wp2_with (fail)
    go_ret
    exact ⟨by rw [E.out]; rfl, rfl⟩
  · have E := hide (show (digB c) = false by simp [lettB, digB]; omega)
    have f0 : (48 : Int) ≤ (c.toNat : Int) := by omega
    have f1 : (57 : Int) < (c.toNat : Int) := by omega
    have f2 : decide ((c.toNat : Int) ≤ (57 : Int)) = false := by simp; omega
    clear ha hb hc
    go_enter Tryd.func64, Tryd.ntmps64
    go_wp2_with (fail)
    go_ret
    exact ⟨by rw [E.out]; rfl, rfl⟩
  · have E := hide (show (digB c) = false by simp [lettB, digB]; omega)
    have f0 : (48 : Int) ≤ (c.toNat : Int) := by omega
    have f1 : (57 : Int) < (c.toNat : Int) := by omega
    have f2 : decide ((c.toNat : Int) ≤ (57 : Int)) = false := by simp; omega
    clear ha hb hc
    go_enter Tryd.func64, Tryd.ntmps64
    go_wp2_with (fail)
    go_ret
    exact ⟨by rw [E.out]; rfl, rfl⟩
  · have E := hide (show (digB c) = false by simp [lettB, digB]; omega)
    have f0 : (48 : Int) ≤ (c.toNat : Int) := by omega
    have f1 : (57 : Int) < (c.toNat : Int) := by omega
    have f2 : decide ((c.toNat : Int) ≤ (57 : Int)) = false := by simp; omega
    clear ha hb hc
    go_enter Tryd.func64, Tryd.ntmps64
    go_wp2_with (fail)
    go_ret
    exact ⟨by rw [E.out]; rfl, rfl⟩
end Go.Proofs.YtocpmbpckbjepaaDoor
