/- The law GroupFits: Fits and Plain answer as the reference does. -/
import Derived.Test.YtlanlglieeaegaaDoorGrFitsIn
import Derived.Test.YtlanlglieeaegaaDoorGrPlained
namespace Go.Proofs.YtlanlglieeaegaaDoor.groupFits
open Go.RowKit
open Go.Proofs.YtlanlglieeaegaaDoor
set_option linter.unusedVariables false
set_option maxRecDepth 100000 in
set_option maxHeartbeats 2000000 in
theorem walk (p : ByteArray) (hp : p.size ≤ reachBytes) (s : ByteArray) (hs : s.size ≤ reachBytes) (hb : p.size + s.size ≤ 1048576) (w : World) :
    Calls Tryd.prog 3 #[.string p, .string s] w fun e w' => e = .returned (.bool true) ∧ Below w.heap.size w w' := by
  obtain ⟨b, hbv⟩ : ∃ b, fitsB p s = b := ⟨_, rfl⟩
  obtain ⟨q, hq⟩ : ∃ q : ByteArray, ⟨(pl s.data.toList).toArray⟩ = q := ⟨_, rfl⟩
  have F1 := hide (fun W => Fits_any p s W (by unfold maxLen; omega))
  have F2 := hide (fun W => FitsIn_any p s W (by omega))
  have F3 := hide (fun W => Plain_any s W (by omega))
  have F4 := hide (fun W => Plained_any s W (by omega))
  rw [hbv] at F1 F2
  rw [hq] at F3 F4
  clear hbv hq
  go_enter Tryd.func3, Tryd.ntmps3
  go_wp2_with (first | (go_at_call 5; refine (F1.out _).mono ?_; rintro r w1 ⟨rfl, hw1⟩) | (go_at_call 6; refine (F2.out _).mono ?_; rintro r w2 ⟨rfl, hw2⟩; have hB2 := hw1.trans (hw2.mono hw1.size)) | (go_at_call 7; refine (F3.out _).mono ?_; rintro r w3 ⟨rfl, hw3⟩; have hB3 := hB2.trans (hw3.mono hB2.size)) | (go_at_call 8; refine (F4.out _).mono ?_; rintro r w4 ⟨rfl, hw4⟩; have hB4 := hB3.trans (hw4.mono hB3.size)))
  go_ret
  exact ⟨rfl, hB4⟩
end Go.Proofs.YtlanlglieeaegaaDoor.groupFits
