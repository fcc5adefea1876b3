/- Walks of the reference's inBase and Told; strconv.Itoa; at every number. -/
import Derived.Test.YtnkccilgbhogbaaDoorDigs
import Derived.Test.YtnkccilgbhogbaaDoorFam
import Derived.Test.YtnkccilgbhogbaaDoorShelf
import Derived.BigQuiet
import Derived.Laws.BytesArg
import Derived.Test.YtnkccilgbhogbaaDoorOwnMore
namespace Go.Proofs.YtnkccilgbhogbaaDoor
open Go.RowKit Go.Sort
set_option linter.unusedVariables false
def digsB16 : ByteArray := ⟨#[48, 49, 50, 51, 52, 53, 54, 55, 56, 57, 97, 98, 99, 100, 101, 102]⟩
theorem digsB16_at : ∀ k, k < 16 → (digsB16.extract k (k + 1)).data.toList = [hexc k] := by decide +kernel
theorem hexc_of {u b : Nat} (hb : b ≤ 16) (h2 : 0 < b) : (digsB16.extract (u % b) (u % b + 1)).data.toList = [hexc (u % b)] := digsB16_at _ (Nat.lt_of_lt_of_le (Nat.mod_lt _ h2) hb)
theorem bytes_of {x : ByteArray} {l : List UInt8} (h : x.data.toList = l) : x = ⟨l.toArray⟩ := by
  rw [← h]
theorem app_toList (a b : ByteArray) : (a ++ b).data.toList = a.data.toList ++ b.data.toList := by rw [ByteArray.data_append, Array.toList_append]
/-- strconv.Itoa at a number that is not negative. -/
theorem Itoa_any (n : Int) (w : World) (h0 : 0 ≤ n) (h1 : n ≤ 9223372036854775807) (htab : Lib.TabIs Tryd.prog w "internal/strconv.uint64pow10" .u64 Lib.pow10Tab) :
    Calls Tryd.prog 56 #[.int .i64 n] w fun e w' => e = .returned (.string ⟨(toldL n).toArray⟩) ∧ Below w.heap.size w w' := by
  refine (Tryd.strconv_Itoa n (by omega) h1 w htab).mono ?_
  rintro e w' ⟨rfl, k, os, rfl⟩
  rw [itoa_told h0]
  exact ⟨rfl, rfl, rfl, rfl, by simp [grow, World.drewN], fun j hj => by rw [heap_grow_old _ _ (by simpa [World.drewN] using hj)]; rfl⟩
theorem Itoa_all (n : Int) (w : World) (h0 : -9223372036854775808 ≤ n) (h1 : n ≤ 9223372036854775807) (htab : Lib.TabIs Tryd.prog w "internal/strconv.uint64pow10" .u64 Lib.pow10Tab) :
    Calls Tryd.prog 56 #[.int .i64 n] w fun e w' => e = .returned (.string ⟨(toldZ n).toArray⟩) ∧ Below w.heap.size w w' := by
  refine (Tryd.strconv_Itoa n h0 h1 w htab).mono ?_
  rintro e w' ⟨rfl, k, os, rfl⟩
  rw [itoa_toldZ]
  exact ⟨rfl, rfl, rfl, rfl, by simp [grow, World.drewN], fun j hj => by rw [heap_grow_old _ _ (by simpa [World.drewN] using hj)]; rfl⟩
theorem toldZ_len (n : Int) (h0 : -9223372036854775808 ≤ n) (h1 : n ≤ 9223372036854775807) : (toldZ n).length ≤ 65 := by
  unfold toldZ
  split
  · exact Nat.le_trans (digs_len 10 (by decide) 64 n.toNat (Nat.lt_of_lt_of_le (by omega) (Nat.pow_le_pow_left (show 2 ≤ 10 by decide) 64)) (by decide)) (by decide)
  · rw [List.length_cons]
    have := digs_len 10 (by decide) 64 (-n).toNat (Nat.lt_of_lt_of_le (by omega) (Nat.pow_le_pow_left (show 2 ≤ 10 by decide) 64)) (by decide)
    omega
end Go.Proofs.YtnkccilgbhogbaaDoor
