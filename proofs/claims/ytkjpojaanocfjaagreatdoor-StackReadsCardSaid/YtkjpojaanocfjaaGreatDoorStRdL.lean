/- Lines of traces: plain law of their parts; Cut. -/
import Derived.Test.YtkjpojaanocfjaaGreatDoorStNumQ
import Derived.Test.YtkjpojaanocfjaaGreatDoorStFault
namespace Go.Proofs.YtkjpojaanocfjaaGreatDoor
open Go.RowKit
set_option linter.unusedVariables false
set_option linter.unusedSimpArgs false
/-- The library's own variable that a search reads is there. -/
def Mx (w : World) : Prop := ∃ m, w.cell? ⟨0, 0, none⟩ = some (.int .i64 m)
theorem Mx.lt {w : World} (h : Mx w) : 0 < w.heap.size := by
  obtain ⟨m, h⟩ := h
  exact World.block_lt_of_cell? w _ h
theorem Mx.up {B : Nat} {w w' : World} (h : Mx w) (hb : Below B w w') (hB : w.heap.size ≤ B) : Mx w' := by
  have := h.lt
  obtain ⟨m, h⟩ := h
  exact ⟨m, (hb.cell (p := ⟨0, 0, none⟩) (by show 0 < B; omega)).trans h⟩
/-- A string, cut at a byte. -/
def cutL (s : ByteArray) (c : UInt8) : ByteArray := ⟨(Lib.cut s.data.toList [c]).1.toArray⟩
def cutR (s : ByteArray) (c : UInt8) : ByteArray := ⟨(Lib.cut s.data.toList [c]).2.1.toArray⟩
def cutK (s : ByteArray) (c : UInt8) : Bool := (Lib.cut s.data.toList [c]).2.2
theorem Cut_any (s : ByteArray) (c : UInt8) (w : World) (hs : s.size ≤ 1000000) (hm : Mx w) :
    Calls Tryz.prog 53 #[.string s, .string ⟨#[c]⟩] w fun e w' => e = .returned (.tuple #[.string (cutL s c), .string (cutR s c), .bool (cutK s c)]) ∧ Below w.heap.size w w' := by
  obtain ⟨m, hm⟩ := hm
  refine (Tryz.strings_Cut s ⟨#[c]⟩ m w (by omega) hm).mono ?_
  rintro e w' ⟨rfl, n, rfl⟩
  exact ⟨rfl, below_drewN (Below.refl _ _) n⟩
theorem cut_size (s : ByteArray) (c : UInt8) : (cutL s c).size ≤ s.size ∧ (cutR s c).size ≤ s.size := by
  have hsz : s.data.toList.length = s.size := by rw [Array.length_toList]; rfl
  unfold cutL cutR Lib.cut
  constructor
  · show List.length _ ≤ _
    split
    · simp only [List.length_take]; omega
    · simp only; omega
  · show List.length _ ≤ _
    split
    · simp only [List.length_drop]; omega
    · simp
/-- The name of a frame: its module, its function. -/
def wordX (s : ByteArray) : Bool := bytesInB s 33 [40, 41, 58, 44, 33]
def callM (s : ByteArray) : ByteArray := if cutK s 33 then cutL s 33 else ⟨#[]⟩
def callF (s : ByteArray) : ByteArray := if cutK s 33 then cutR s 33 else s
def callK (s : ByteArray) : Bool := !emptyB (callF s) && (wordX (callF s) && (wordX (callM s) && (!emptyB (callM s) || !cutK s 33)))
theorem emptyB_nil : emptyB ⟨#[]⟩ = true := by unfold emptyB; rw [ByteArray.toList_eq]; rfl
theorem wordX_nil : wordX ⟨#[]⟩ = true := by unfold wordX bytesInB; rfl
/-- The line of a fault. -/
def headT (s : ByteArray) : ByteArray := ⟨(Lib.trimPrefix (cutR s 58).data.toList [32]).toArray⟩
def headP (s : ByteArray) : Bool := Lib.hasPrefix (cutR s 58).data.toList [32]
def headK (s : ByteArray) : Bool := cutK s 58 && (!emptyB (cutL s 58) && (kindB (cutL s 58) && (emptyB (cutR s 58) || (headP s && !emptyB (headT s)))))
/-- Its text, if it is one. -/
def headS (s : ByteArray) : ByteArray := if emptyB (cutR s 58) then ⟨#[]⟩ else headT s
end Go.Proofs.YtkjpojaanocfjaaGreatDoor
