/- Helpers of the walks of Mangle: bytes of a builder, lists taken, the table of powers below B. -/
import Derived.Test.YtocpmbpckbjepaaDoorNmMgB
import Derived.Test.YtocpmbpckbjepaaDoorStBld
import Derived.Test.YtocpmbpckbjepaaDoorNumb
import Derived.Test.YtocpmbpckbjepaaDoorNmGA
import Derived.Lib.LaidTab
namespace Go.Proofs.YtocpmbpckbjepaaDoor
open Go.RowKit
set_option linter.unusedVariables false
set_option linter.unusedSimpArgs false
theorem strCells_eq (s : ByteArray) : Lib.strCells s = Lib.byteCells s.data.toList := rfl
theorem bytes_app2 (a b : List UInt8) : Lib.byteCells a ++ Lib.byteCells b = Lib.byteCells (a ++ b) := by simp [Lib.byteCells]
theorem bytes_len2 (a : List UInt8) : (Lib.byteCells a).length = a.length := by simp [Lib.byteCells]
theorem bld_lt {B b : Nat} {l : List Value} {w : World} (h : Bld B b l w) : b < w.heap.size := by
  rcases h with h | h
  · exact h.lt
  · exact h.lt
theorem write_bytes (B b : Nat) (L : List UInt8) (s : ByteArray) (w : World) (h : Bld B b (Lib.byteCells L) w) (hB : B ≤ w.heap.size) (hl : L.length + s.size ≤ 140737488355328) :
    Calls Tryd.prog 17 #[.pointer (some ⟨b, 0, none⟩), .string s] w fun e w' => e = .returned (.tuple #[.int .i64 s.size, .nilIface]) ∧ Bld B b (Lib.byteCells (L ++ s.data.toList)) w' ∧ Below B w w' ∧ KeptBut b w w' := by
  have := WriteString_any B b (Lib.byteCells L) s w h (by rw [bytes_len2]; exact hl) hB
  rw [strCells_eq, bytes_app2] at this
  exact this
theorem cntTys_take (f : Nat) (l : List Ty) (j : Nat) : cntTys f (l.take j) ≤ cntTys f l := by
  conv => rhs; rw [← List.take_append_drop j l]
  rw [cntTys_append]; omega
theorem cntParts_take (f : Nat) (l : List Part) (j : Nat) : cntParts f (l.take j) ≤ cntParts f l := by
  have h : ∀ a b : List Part, cntParts f (a ++ b) = cntParts f a + cntParts f b := fun a b => by simp [cntParts, sumN]
  conv => rhs; rw [← List.take_append_drop j l]
  rw [h]; omega
theorem cnt_part {f : Nat} {l : List Part} {p : Part} (h : p ∈ l) : cntTys f p.2 ≤ cntParts f l := by
  induction l with
  | nil => cases h
  | cons q l ih =>
    rw [cntParts, sumN_cons]
    rcases List.mem_cons.1 h with rfl | h
    · omega
    · have := ih h; unfold cntParts at this; omega
/-- The table of powers, in a block below B. -/
def Tab10 (B : Nat) (w : World) : Prop := Lib.TabIs Tryd.prog w "internal/strconv.uint64pow10" .u64 Lib.pow10Tab ∧ ∀ g, Tryd.prog.globalNamed "internal/strconv.uint64pow10" = some g → g < B
theorem Tab10.below {B : Nat} {w w' : World} (h : Tab10 B w) (hb : Below B w w') : Tab10 B w' := by
  refine ⟨?_, h.2⟩
  have h1 := h.1
  unfold Lib.TabIs World.var? at h1 ⊢
  cases hg : Tryd.prog.globalNamed "internal/strconv.uint64pow10" with
  | none => rw [hg] at h1; simp at h1
  | some g =>
    rw [hg] at h1
    simp only [Option.bind_some] at h1 ⊢
    cases hh : w.heap[g]? with
    | none => rw [hh] at h1; simp at h1
    | some o => rw [hh] at h1; rw [hb.block g (h.2 g hg), hh]; exact h1
theorem itoa_len (s : ByteArray) (w : World) (hs : s.size ≤ 60) {B : Nat} (h : Tab10 B w) :
    Calls Tryd.prog 42 #[.int .i64 (s.size : Int)] w fun e w' => e = .returned (.string ⟨(lenL s).toArray⟩) ∧ Below w.heap.size w w' := Itoa_any _ w (by omega) (by omega) h.1
theorem app_toL (a b : ByteArray) : (a ++ b).data.toList = a.data.toList ++ b.data.toList := by rw [ByteArray.data_append, Array.toList_append]
end Go.Proofs.YtocpmbpckbjepaaDoor
