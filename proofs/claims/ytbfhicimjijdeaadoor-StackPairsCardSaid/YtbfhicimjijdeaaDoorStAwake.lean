/- Walk of awakeStack: Write of one small fault. -/
import Derived.Test.YtbfhicimjijdeaaDoorStBld
import Derived.Test.YtbfhicimjijdeaaDoorStFault
namespace Go.Proofs.YtbfhicimjijdeaaDoor
open Go.RowKit
set_option linter.unusedVariables false
/-- The line of a fault. -/
def headB (x : FaultT) : ByteArray := if emptyB x.text then x.kind ++ ⟨#[58, 10]⟩ else x.kind ++ ⟨#[58, 32]⟩ ++ x.text ++ ⟨#[10]⟩
set_option maxHeartbeats 1000000 in
theorem head_any (x : FaultT) (w : World) (b0 : x.kind.size ≤ 200) (b1 : x.text.size ≤ 2000) :
    Calls Tryd.prog 43 #[.agg #[.string x.kind, .string x.text, .slice x.A x.n x.cap]] w fun e w' => e = .returned (.string (headB x)) ∧ Below w.heap.size w w' := by
  have k1 : x.kind.size + 2 ≤ 9223372036854775807 := by omega
  have k2 : x.kind.size + 2 + x.text.size ≤ 9223372036854775807 := by omega
  have k3 : x.kind.size + 2 + x.text.size + 1 ≤ 9223372036854775807 := by omega
  cases h : emptyB x.text
  · have E := hide (show headB x = _ by rw [headB, if_neg (by rw [h]; decide)])
    have h' : x.text.toList.isEmpty = false := h
    have h'' : ¬ x.text.toList = [] := by rw [← List.isEmpty_iff, h']; decide
    clear h
    go_enter Tryd.func43, Tryd.ntmps43
    go_wp2_with (fail)
    go_ret
    exact ⟨by rw [E.out]; rfl, by go_grown⟩
  · have E := hide (show headB x = _ by rw [headB, if_pos h])
    have h' : x.text.toList.isEmpty = true := h
    have h'' : x.text.toList = [] := List.isEmpty_iff.1 h'
    clear h
    go_enter Tryd.func43, Tryd.ntmps43
    go_wp2_with (fail)
    go_ret
    exact ⟨by rw [E.out]; rfl, by go_grown⟩
theorem bld_lt {B b : Nat} {l : List Value} {w : World} (h : Bld B b l w) : b < w.heap.size := by
  rcases h with h | h
  · exact h.lt
  · exact h.lt
def kF : FaultT := ⟨⟨#[75]⟩, ⟨#[]⟩, none, 0, 0, []⟩
theorem head_kF : headB kF = ⟨#[75, 58, 10]⟩ := by kernel_rfl
theorem kF_err : fltsErr [kF] = 0 := by kernel_rfl
set_option maxRecDepth 100000 in
set_option maxHeartbeats 2000000 in
theorem writeInner_K (B b p : Nat) (w : World) (hb : Bld B b [] w) (hBw : B ≤ w.heap.size) (hp : p < B) (c0 : w.cell? ⟨p, 0, none⟩ = some (.string ⟨#[75]⟩)) (c1 : w.cell? ⟨p, 1, none⟩ = some (.string ⟨#[]⟩)) (c2 : w.cell? ⟨p, 2, none⟩ = some (.slice none 0 0)) :
    Calls Tryd.prog 20 #[.pointer (some ⟨b, 0, none⟩), .slice (some ⟨p, 0, none⟩) 1 1] w fun e w' => e = .returned (.tuple #[]) ∧ Bld B b (Lib.strCells ⟨#[75, 58, 10]⟩) w' ∧ Below B w w' := by
  have HB := hide hb
  have HH := hide (fun W => head_any kF W (by decide) (by decide))
  rw [head_kF] at HH
  clear hb
  go_enter Tryd.func20, Tryd.ntmps20
  go_wp2_with (fail)
  go_loopw [11] (fun i wr => ∃ k : Nat, k ≤ 1 ∧ i = .int .i64 k ∧ Bld B b (if k = 0 then [] else Lib.strCells ⟨#[75, 58, 10]⟩) wr ∧ Below B w wr) (fun i _ => 1 - (intOf i).toNat)
  case atStart => exact ⟨0, Nat.zero_le _, rfl, HB.out, Below.refl _ _⟩
  case round =>
    obtain ⟨k, hk, rfl, hbld, hB⟩ := hrel
    have d0 : wr.cell? ⟨p, 0, none⟩ = some (.string ⟨#[75]⟩) := (hB.cell (p := ⟨p, 0, none⟩) hp).trans c0
    have d1 : wr.cell? ⟨p, 1, none⟩ = some (.string ⟨#[]⟩) := (hB.cell (p := ⟨p, 1, none⟩) hp).trans c1
    have d2 : wr.cell? ⟨p, 2, none⟩ = some (.slice none 0 0) := (hB.cell (p := ⟨p, 2, none⟩) hp).trans c2
    have hz := hB.size
    rcases (show k = 0 ∨ k = 1 by omega) with rfl | rfl
    · have HBL := hide (show Bld B b [] wr from hbld)
      clear hbld
      have HBX : Hid (∀ o : Obj, Below wr.heap.size wr (wr.alloc o)) := hide fun o => (Below.refl _ _).alloc (Nat.le_refl _) o
      go_wp2_with (first | (go_at_call 43; refine (HH.out _).mono ?_; rintro r w1 ⟨rfl, hw1⟩; have hbx : w1.heap[wr.heap.size]? = some (.cells #[.string ⟨#[75]⟩, .string ⟨#[]⟩, .slice none 0 0] 54) := (hw1.block wr.heap.size (by simp)).trans (heap_alloc_new wr _); have HBK := hide hbx; have HB1 := hide (bld_below (bld_below HBL.out (HBX.out _)) hw1); have hB1 : Below B w w1 := hB.trans (((HBX.out _).trans (hw1.mono (by simp))).mono (by omega)); clear hw1 hbx) | (go_at_call 41; refine (WriteString_any B b [] ⟨#[75, 58, 10]⟩ _ HB1.out (by decide) (by have := hB1.size; omega)).mono ?_; rintro r w2 ⟨rfl, hb2, hw2, hk2⟩; have hbk := hk2 _ _ _ _ HBK.out (by decide) (by have := HBL.out; intro e; have := bld_lt HBL.out; omega); have x2 : w2.cell? ⟨wr.heap.size, 2, none⟩ = some (.slice none 0 0) := (block_cell hbk 2).trans rfl; have HB2 := hide hb2; have hB2 := hB1.trans hw2; clear hw2 hk2 hb2 hbk))
      go_loopw [44] (fun i wr => i = .int .i64 0 ∧ Bld B b (Lib.strCells ⟨#[75, 58, 10]⟩) wr ∧ Below B w wr) (fun _ _ => 0)
      case atStart => exact ⟨rfl, HB2.out, hB2⟩
      case round =>
        obtain ⟨rfl, hb3, hB3⟩ := hrel
        have HB3 := hide hb3
        clear hb3
        go_wp2_with (fail)
        go_roundw
        case rel => exact ⟨1, by omega, rfl, HB3.out, hB3⟩
        case measure => simp [intOf]
    · have HBL := hide (show Bld B b (Lib.strCells ⟨#[75, 58, 10]⟩) wr from hbld)
      clear hbld
      go_wp2_with (fail)
      go_end0
      exact ⟨rfl, HBL.out, hB⟩
theorem kF_ok (w : World) : kF.ok w := ⟨by decide, by decide, by decide, by decide, Sl.nil _ _ _ _ _, fun x hx => by cases hx⟩
set_option maxRecDepth 100000 in
set_option maxHeartbeats 4000000 in
theorem Write_K (p : Nat) (w : World) (hp : p < w.heap.size) (c0 : w.cell? ⟨p, 0, none⟩ = some (.string ⟨#[75]⟩)) (c1 : w.cell? ⟨p, 1, none⟩ = some (.string ⟨#[]⟩)) (c2 : w.cell? ⟨p, 2, none⟩ = some (.slice none 0 0)) :
    Calls Tryd.prog 7 #[.slice (some ⟨p, 0, none⟩) 1 1, .int .i64 1] w fun e w' => e = .returned (.tuple #[.string ⟨#[75, 58, 10]⟩, .int .i64 0]) ∧ Below w.heap.size w w' := by
  have hsl : Sl w w.heap.size FaultT.cs 3 (some ⟨p, 0, none⟩) 1 [kF] := by
    refine ⟨rfl, fun _ => ⟨p, 0, rfl, hp, fun i x hx j v hv => ?_⟩⟩
    match i, hx with
    | 0, hx =>
      simp at hx; subst hx
      match j, hv with
      | 0, hv => simp [FaultT.cs, kF] at hv; subst hv; simpa using c0
      | 1, hv => simp [FaultT.cs, kF] at hv; subst hv; simpa using c1
      | 2, hv => simp [FaultT.cs, kF] at hv; subst hv; simpa using c2
      | j + 3, hv => simp [FaultT.cs] at hv
    | i + 1, hx => simp at hx
  have C := hide (show Calls Tryd.prog 17 #[.slice (some ⟨p, 0, none⟩) 1 1] w fun e w' => e = .returned (.int .i64 0) ∧ Below w.heap.size w w' by
    have h := Check_any (some ⟨p, 0, none⟩) 1 1 [kF] w (by decide) hsl (fun x hx => by rw [List.mem_singleton] at hx; subst hx; exact kF_ok w)
    rw [kF_err] at h
    exact h)
  have O := hide (show ∀ W, Calls Tryd.prog 18 #[.int .i64 1, .int .i64 1, .int .i64 3] W fun e w' => e = .returned (.bool false) ∧ W = w' from fun W => outside_any 1 1 3 W)
  have HP := hide hp
  clear hsl
  go_enter Tryd.func7, Tryd.ntmps7
  go_wp2_with (first | (go_at_call 17; refine C.out.mono ?_; rintro r w0 ⟨rfl, hB0⟩) | (go_at_call 18; refine (O.out _).mono ?_; rintro e w' ⟨rfl, rfl⟩))
  go_loopw [21] (fun i wr => ∃ k : Nat, k ≤ 1 ∧ i = .int .i64 k ∧ Below w.heap.size w wr) (fun i _ => 1 - (intOf i).toNat)
  case atStart => exact ⟨0, Nat.zero_le _, rfl, hB0⟩
  case round =>
    obtain ⟨k, hk, rfl, hB⟩ := hrel
    have d0 : wr.cell? ⟨p, 0, none⟩ = some (.string ⟨#[75]⟩) := (hB.cell (p := ⟨p, 0, none⟩) hp).trans c0
    have d1 : wr.cell? ⟨p, 1, none⟩ = some (.string ⟨#[]⟩) := (hB.cell (p := ⟨p, 1, none⟩) hp).trans c1
    have d2 : wr.cell? ⟨p, 2, none⟩ = some (.slice none 0 0) := (hB.cell (p := ⟨p, 2, none⟩) hp).trans c2
    have hz := hB.size
    rcases (show k = 0 ∨ k = 1 by omega) with rfl | rfl
    · go_wp2_with (fail)
      go_loopw [28] (fun i wr => i = .int .i64 0 ∧ Below w.heap.size w wr) (fun _ _ => 0)
      case atStart => exact ⟨rfl, hB.alloc hz _⟩
      case round =>
        obtain ⟨rfl, hB3⟩ := hrel
        go_wp2_with (fail)
        go_roundw
        case rel => exact ⟨1, by omega, rfl, hB3⟩
        case measure => simp [intOf]
    · have hnew : ∀ T, (wr.alloc (.cells #[.pointer none, .slice none 0 0] T)).heap[wr.heap.size]? = some (.cells #[.pointer none, .slice none 0 0] T (0, 0)) := fun T => heap_alloc_new wr _
      have HBL := hide (show Bld w.heap.size wr.heap.size [] (wr.alloc (.cells #[.pointer none, .slice none 0 0] 59)) from .inl ⟨hz, .slice none 0 0, hnew _, World.ownsRow_nil _ _ _ _, by simp [Value.ownBlock]⟩)
      have HBA := hide (hB.alloc hz (.cells #[.pointer none, .slice none 0 0] 59))
      have HW := hide (fun W h h2 h3 h4 h5 => writeInner_K w.heap.size wr.heap.size p W h h2 HP.out h3 h4 h5)
      have HD := hide (And.intro d0 (And.intro d1 d2))
      clear hnew
      go_wp2_with (first | (go_at_call 20; refine (HW.out _ HBL.out HBA.out.size (((HBA.out).cell (p := ⟨p, 0, none⟩) HP.out).trans c0) (((HBA.out).cell (p := ⟨p, 1, none⟩) HP.out).trans c1) (((HBA.out).cell (p := ⟨p, 2, none⟩) HP.out).trans c2)).mono ?_; rintro r w1 ⟨rfl, hb1, hw1⟩; have HB1 := hide hb1; have hB1 : Below w.heap.size w w1 := HBA.out.trans hw1; clear hb1 hw1) | (go_at_call 23; refine (Tryd.Builder_Len w.heap.size wr.heap.size _ _ HB1.out).mono ?_; rintro r w2 ⟨rfl, rfl⟩) | (go_at_call 24; refine (Tryd.Builder_String_any w.heap.size wr.heap.size [75, 58, 10] _ HB1.out hB1.size).mono ?_; rintro r w3 ⟨rfl, hw3⟩; have hB3 : Below w.heap.size w w3 := hB1.trans hw3))
      go_ret2
      exact ⟨rfl, hB3⟩
set_option maxRecDepth 100000 in
set_option maxHeartbeats 1000000 in
theorem awakeStack_any (w : World) : Calls Tryd.prog 10 #[] w fun e w' => e = .returned (.bool true) ∧ Below w.heap.size w w' := by
  have HW := hide (fun W h c0 c1 c2 => Write_K w.heap.size W h c0 c1 c2)
  go_enter Tryd.func10, Tryd.ntmps10
  go_wp2_with (go_at_call 7; refine (HW.out _ (by simp) (by simp) (by simp) (by simp)).mono ?_; rintro r w1 ⟨rfl, hw1⟩; have hB1 : Below w.heap.size w w1 := ((Below.refl _ _).alloc (Nat.le_refl _) _).trans (hw1.mono (by simp)))
  go_ret
  exact ⟨rfl, hB1⟩
end Go.Proofs.YtbfhicimjijdeaaDoor
