/- Of a print that the book has not. -/
import Derived.Test.YtapfcnfmonknjaaGreatDoorBkPo
import Derived.Test.YtapfcnfmonknjaaGreatDoorRbM
namespace Go.Proofs.YtapfcnfmonknjaaGreatDoor.Bk
open Go.RowKit Go.Maps Go.Sort
set_option linter.unusedVariables false
set_option linter.unusedSimpArgs false
set_option maxHeartbeats 4000000 in
theorem Of_none {B0 p mb mn : Nat} {last : Int} {sv : Value} {l : List Pr} {bk : List UInt8 → Nat} {w : World} (h : BM B0 w p mb mn last sv l bk) (s : ByteArray) (hs : s.size ≤ maxLen) (hno : s.data.toList ∉ l.map Pr.p) :
    Calls Tryz.prog 13 #[.pointer (some ⟨p, 0, none⟩), .string s] w fun e w' => e = .returned (.tuple #[.int .i64 0, .int .i64 7]) ∧ w' = w := by
  obtain ⟨D0, hD1, hD2⟩ := h.map
  have x0 : w.cell? ⟨p, 0, none⟩ = some (.map (some mb)) := (block_cell h.box 0).trans rfl
  have HNO := hide (hD2.out _ hno)
  have HKY := hide (key_s s hs)
  have HD1 := hide hD1
  clear h hD1 hD2 hno
  go_enter Tryz.func13, Tryz.ntmps13
  go_wp2_with (at_lookup; refine wpList_lookup_none _ rfl _ _ 53 rfl 9 58 law_s Tryz.underlying53 (zero_c _) mb mn D0 rfl HD1.out (.string s) _ rfl HKY.out HNO.out ?_)
  refine bodyPost_ret (by simp [results, Tryz.results13, go_sem]; try rfl) rfl ?_
  exact ⟨rfl, rfl⟩
end Go.Proofs.YtapfcnfmonknjaaGreatDoor.Bk
