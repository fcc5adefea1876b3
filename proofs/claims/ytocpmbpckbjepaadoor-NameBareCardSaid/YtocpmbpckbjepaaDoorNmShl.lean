/- Walks of Short and Shorted, of all strings. -/
import Derived.Test.YtocpmbpckbjepaaDoorNmGG
import Derived.Test.YtocpmbpckbjepaaDoorNmShr
namespace Go.Proofs.YtocpmbpckbjepaaDoor
open Go.RowKit
set_option linter.unusedVariables false
set_option linter.unusedSimpArgs false
theorem dmY_good {s : ByteArray} (h : dmE s = 0) : (symE (dmY s)).1 = 0 := by
  unfold dmE at h
  by_cases h0 : 8000 < s.size
  · rw [if_pos h0] at h; cases h
  · rw [if_neg h0] at h
    unfold dmY
    rw [if_neg h0]
    cases hd : dSym s with
    | bad e0 => rw [hd] at h; cases h
    | ok j y =>
      rw [hd] at h
      simp only at h ⊢
      rw [if_pos h]
      exact h
/-- The short name of a mangled name. -/
def shT (s : ByteArray) : ByteArray := if dmE s = 0 then shL (dmY s).name else s
theorem Short_any (s : ByteArray) (w : World) (hm : s.size ≤ maxLen) (htb : Tab10 w.heap.size w) :
    Calls Tryd.prog 10 #[.string s] w fun e w' => e = .returned (.string (shT s)) ∧ Below w.heap.size w w' := by
  have HD : DemC 12 (dmY s) (dmN s) (dmE s) s w := Demangle_any s w hm htb
  unfold shT
  by_cases h0 : dmE s = 0
  · rw [if_pos h0]
    rw [h0] at HD
    obtain ⟨hG, h1, h20, _⟩ := sym_good (dmY_good h0)
    by_cases hL : (dmY s).name.length = 1
    · exact Short_one hm HD hL hG
    · obtain ⟨m, hm2⟩ : ∃ m, (dmY s).name.length = m + 2 := ⟨(dmY s).name.length - 2, by omega⟩
      exact Short_two hm HD hm2 (by omega) hG
  · rw [if_neg h0]
    exact Short_bad hm HD h0
end Go.Proofs.YtocpmbpckbjepaaDoor
