/- The map of tallies: its keys are structs. -/
import Derived.Test.YtkoijhecahebgaaDoorGtSrt
import Derived.Maps.OwnOps
import Derived.WideKeyArgs
import Derived.DeepKeys4
import Derived.MapViews
namespace Go.Proofs.YtkoijhecahebgaaDoor
open Go.RowKit Go.Maps
set_option linter.unusedVariables false
set_option linter.unusedSimpArgs false
theorem laidOutG : laidOutB Tryd.prog = true := by kernel_rfl
theorem row_rs : (81 : TypeId) < Tryd.prog.types.size := of_decide_eq_true (by kernel_rfl)
theorem wide_rs : (match Tryd.prog.underlying 81 with | some (.array _ _) | some (.struct _) => true | _ => false) = true := by rw [Tryd.underlying81]
set_option maxRecDepth 100000 in
theorem law_rs : Keyed Tryd.prog 81 := Keyed.of_law (deep_law_laid laidOutG (m := 2) (by omega) row_rs (by kernel_rfl) wide_rs)
/-- The key of a tally. -/
def rsV (k : ByteArray) (y : Int) (n : ByteArray) : Value := .agg #[.string k, .int .i64 y, .string n]
def rsL (k : ByteArray) (y : Int) (n : ByteArray) : Lit := .string (keyBytes [.string k.data.toList, .int .i64 y, .string n.data.toList])
theorem deep_rs : Tryd.prog.keyTypeAt (Tryd.prog.types.size + 1) 81 = true := by kernel_rfl
theorem cells_rs : Tryd.prog.cellsOf 81 = 3 := by kernel_rfl
theorem lits_str {s : ByteArray} (h : s.size ≤ maxLen) (M : Nat) : Tryd.prog.keyLits (M + 1) 9 [.string s] = some [.string s.data.toList] := by
  unfold Program.keyLits; rw [Tryd.underlying9]; simp only; rw [if_pos h]
theorem lits_int {y : Int} (h : (Lit.int .i64 y).wf = true) (M : Nat) : Tryd.prog.keyLits (M + 1) 3 [.int .i64 y] = some [.int .i64 y] := by
  unfold Program.keyLits; rw [Tryd.underlying3]; simp only; rw [if_pos ⟨trivial, h⟩]
set_option maxRecDepth 100000 in
theorem lits_rs {k n : ByteArray} {y : Int} (hk : k.size ≤ maxLen) (hn : n.size ≤ maxLen) (hy : (Lit.int .i64 y).wf = true) (M : Nat) : Tryd.prog.keyLits (M + 2) 81 [.string k, .int .i64 y, .string n] = some [.string k.data.toList, .int .i64 y, .string n.data.toList] := by
  have c1 : Tryd.prog.cellsOf 9 = 1 := by kernel_rfl
  have c2 : Tryd.prog.cellsOf 3 = 1 := by kernel_rfl
  unfold Program.keyLits
  rw [Tryd.underlying81]
  simp only
  rw [if_pos ⟨by rw [cells_rs]; rfl, by kernel_rfl⟩]
  simp only [List.mapM_cons, List.mapM_nil, c1, c2]
  simp [lits_str hk, lits_str hn, lits_int hy]
theorem size_rs : ∃ M, Tryd.prog.types.size + 1 = M + 2 := by
  have h : 1 ≤ Tryd.prog.types.size := of_decide_eq_true (by kernel_rfl)
  generalize Tryd.prog.types.size = s at h
  exact ⟨s - 1, by omega⟩
theorem keyT_rs : Tryd.prog.keyType 81 = true := by kernel_rfl
theorem key_rs {k n : ByteArray} {y : Int} (hk : k.size ≤ maxLen) (hn : n.size ≤ maxLen) (hy : (Lit.int .i64 y).wf = true) : keyOf Tryd.prog 81 (rsV k y n) = some (rsL k y n) := by
  have hF : (rsV k y n).formed Tryd.prog 81 = true := by simp [rsV, Value.formed, Tryd.underlying81, cells_rs]
  obtain ⟨M, hM⟩ := size_rs
  unfold keyOf
  rw [Tryd.underlying81]
  simp only
  rw [if_pos (by rw [keyT_rs, hF]; rfl), hM]
  show Option.map _ (Tryd.prog.keyLits (M + 2) 81 [.string k, .int .i64 y, .string n]) = _
  rw [lits_rs hk hn hy]
  rfl
theorem rs_inj {k n k' n' : ByteArray} {y y' : Int} (h1 : keyOf Tryd.prog 81 (rsV k y n) = some (rsL k y n)) (h2 : keyOf Tryd.prog 81 (rsV k' y' n') = some (rsL k' y' n')) (e : rsL k y n = rsL k' y' n') : k = k' ∧ y = y' ∧ n = n' := by
  rw [← e] at h2
  have := law_rs.inj h1 h2
  simpa [rsV] using this
end Go.Proofs.YtkoijhecahebgaaDoor
