/- Walk of the reference's number (printed by gen_sr2.py). -/
import Derived.Test.YtncpeokniffafaaGreatDoorStNumR
import Derived.Test.YtncpeokniffafaaGreatDoorShelf
import Derived.Test.YtncpeokniffafaaGreatDoorRegChain
import Derived.WalkKit
import Derived.BigCall
import Derived.BigGuard
import Derived.BigQuiet
namespace Go.Proofs.YtncpeokniffafaaGreatDoor
open Go.RowKit
set_option linter.unusedVariables false
set_option linter.unusedSimpArgs false
theorem dgI_at : ∀ k, k < 256 → (Lib.indexByte (dg16.extract 0 10).data.toList (UInt8.ofNat k) = if dgt 10 (UInt8.ofNat k) then (dgtV (UInt8.ofNat k) : Int) else -1) ∧ (Lib.indexByte (dg16.extract 0 16).data.toList (UInt8.ofNat k) = if dgt 16 (UInt8.ofNat k) then (dgtV (UInt8.ofNat k) : Int) else -1) := by decide +kernel
theorem dgI_of (b : Nat) (hb : b = 10 ∨ b = 16) (c : UInt8) : Lib.indexByte (dg16.extract 0 b).data.toList ((c.toNat : Int)).toNat.toUInt8 = if dgt b c then (dgtV c : Int) else -1 := by
  have h1 : (UInt8.ofNat c.toNat) = c := UInt8.ofNat_toNat
  have := dgI_at c.toNat (UInt8.toNat_lt c)
  rw [h1] at this
  rw [show ((c.toNat : Int)).toNat.toUInt8 = c by simp]
  rcases hb with rfl | rfl
  · exact this.1
  · exact this.2
theorem str_len' (s : ByteArray) : s.data.toList.length = s.size := by rw [Array.length_toList]; rfl
end Go.Proofs.YtncpeokniffafaaGreatDoor
