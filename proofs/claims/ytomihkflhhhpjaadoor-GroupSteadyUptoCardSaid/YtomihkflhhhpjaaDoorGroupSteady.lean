/- The law GroupSteady: what Plain has made stays; a print does not see a number in the text of a fault without frames. -/
import Derived.Test.YtomihkflhhhpjaaDoorGsLw
import Derived.Test.YtomihkflhhhpjaaDoorRows
import Derived.LaidMore
import Derived.Stop.LaidErr
import Derived.MakeChecks
namespace Go.Proofs.YtomihkflhhhpjaaDoor
open Go.RowKit
set_option linter.unusedVariables false
theorem tab_lt {w : World} {name : String} {k : IntKind} {zs : List Int} {g : Nat} (h : Lib.TabIs Tryd.prog w name k zs) (hg : Tryd.prog.globalNamed name = some g) : g < w.heap.size := by
  unfold Lib.TabIs World.var? at h
  rw [hg] at h
  simp only [Option.bind_some] at h
  split at h
  · rename_i cs e fr hb; exact lt_of_block hb
  · cases h
theorem tab_cell {w : World} {name : String} {k : IntKind} {zs : List Int} {g : Nat} (h : Lib.TabIs Tryd.prog w name k zs) (hg : Tryd.prog.globalNamed name = some g) (i : Nat) : w.cell? ⟨g, i, none⟩ = (zs.map fun z => Value.int k z)[i]? := by
  unfold Lib.TabIs World.var? at h
  rw [hg] at h
  simp only [Option.bind_some] at h
  split at h
  · rename_i cs e fr hb
    rw [block_cell hb, Option.some.inj h]
    simp
  · cases h
theorem tab64 {W : World} (hL : laidMetH Tryd.prog Rows.groupSteadyUptoRow.laid W) : W.cell? ⟨9, 15, none⟩ = some (.int .u8 4) ∧ 9 < W.heap.size := by
  rw [MakeChecks.laidMetH_plain _ _ _ (by kernel_rfl)] at hL
  have h1 : Lib.TabIs Tryd.prog W "math/bits.deBruijn64tab" .u8 [0, 1, 56, 2, 57, 49, 28, 3, 61, 58, 42, 50, 38, 29, 17, 4, 62, 47, 59, 36, 45, 43, 51, 22, 53, 39, 33, 30, 24, 18, 12, 5, 63, 55, 48, 27, 60, 41, 37, 16, 46, 35, 44, 21, 52, 32, 23, 11, 54, 26, 40, 15, 34, 20, 31, 10, 25, 14, 19, 9, 13, 8, 7, 6] :=
    Lib.tabIs_of_head (g := 9) (n := 64) (t := 188) (e := 5) (by kernel_rfl) (by kernel_rfl) (by kernel_rfl) (by kernel_rfl) (by kernel_rfl) (by kernel_rfl) (laidMet.tail hL)
  have hg : Tryd.prog.globalNamed "math/bits.deBruijn64tab" = some 9 := by kernel_rfl
  exact ⟨(tab_cell h1 hg 15).trans rfl, tab_lt h1 hg⟩
namespace groupSteady
theorem walk (a0 : ByteArray) (w0 : a0.size ≤ reachBytes) (a1 : ByteArray) (w1 : a1.size ≤ reachBytes) (a2 : Int) (w2 : (Lit.int .u32 a2).wf = true) (a3 : Int) (w3 : (Lit.int .u32 a3).wf = true) (hb : a0.size + a1.size ≤ 1048576) {W : World} (hL : laidMetH Tryd.prog Rows.groupSteadyUptoRow.laid W) :
    Calls Tryd.prog 4 #[.string a0, .string a1, .int .u32 a2, .int .u32 a3] W fun e w' => e = .returned (.bool true) ∧ Below W.heap.size W w' := by
  obtain ⟨t1, t2⟩ := tab64 hL
  have h2 : 0 ≤ a2 ∧ a2 < 4294967296 := by
    simp [Lit.wf, IntKind.min, IntKind.max, IntKind.bits, IntKind.signed] at w2
    omega
  have h3 : 0 ≤ a3 ∧ a3 < 4294967296 := by
    simp [Lit.wf, IntKind.min, IntKind.max, IntKind.bits, IntKind.signed] at w3
    omega
  obtain ⟨m, rfl⟩ := Int.eq_ofNat_of_zero_le h2.1
  obtain ⟨n, rfl⟩ := Int.eq_ofNat_of_zero_le h3.1
  exact GroupSteady_any a0 a1 m n W (by omega) (by omega) (by omega) (by omega) t1 t2
end groupSteady
end Go.Proofs.YtomihkflhhhpjaaDoor
