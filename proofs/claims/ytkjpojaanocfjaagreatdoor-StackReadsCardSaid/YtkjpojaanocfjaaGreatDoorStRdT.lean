/- The lines of a string (the program's source): what is in memory; walks of begins, next, fault, frame. -/
import Derived.Test.YtkjpojaanocfjaaGreatDoorStRdW
import Derived.BigQuiet
namespace Go.Proofs.YtkjpojaanocfjaaGreatDoor
open Go.RowKit
set_option linter.unusedVariables false
set_option linter.unusedSimpArgs false
/-- The lines L, k of them taken, and what stands behind the last line feed. -/
structure Src (p : Nat) (A : Option Addr) (n c : Nat) (L : List ByteArray) (t : ByteArray) (k : Nat) (w : World) : Prop where
  box : w.heap[p]? = some (.cells #[.slice A n c, .int .i64 (k : Int), .string t] 50 (0, 0))
  sl : Sl w p cs 1 A n L
  szs : ∀ x ∈ L, x.size ≤ 1000000
  nl : n ≤ 1000001
  tl : t.size ≤ 1000000
  le : k ≤ n
  mp : 0 < p
  mx : Mx w
section
variable {p : Nat} {A : Option Addr} {n c : Nat} {L : List ByteArray} {t : ByteArray} {k : Nat} {w w' : World}
theorem Src.lt (h : Src p A n c L t k w) : p < w.heap.size := lt_of_block h.box
theorem Src.below (h : Src p A n c L t k w) (hb : Below w.heap.size w w') : Src p A n c L t k w' :=
  ⟨block_below h.box hb, h.sl.below (hb.mono (Nat.le_of_lt h.lt)), h.szs, h.nl, h.tl, h.le, h.mp, h.mx.up hb (Nat.le_refl _)⟩
theorem Mx.keep {B : Nat} (h : Mx w) (hb : Below B w w') (hB : 0 < B) : Mx w' := by
  obtain ⟨m, h⟩ := h
  exact ⟨m, (hb.cell (p := ⟨0, 0, none⟩) hB).trans h⟩
/-- Blocks before the source's stay, and its own. -/
theorem Src.keep (h : Src p A n c L t k w) (hb : Below p w w') (hx : w'.heap[p]? = w.heap[p]?) : Src p A n c L t k w' :=
  ⟨hx.trans h.box, h.sl.below hb, h.szs, h.nl, h.tl, h.le, h.mp, h.mx.keep hb h.mp⟩
theorem Src.set (h : Src p A n c L t k w) {j : Nat} (hj : j ≤ n) {u : Int} (hu : u = (j : Int)) : Src p A n c L t j (w.setCell ⟨p, 1, none⟩ (.int .i64 u)) := by
  subst hu
  have hb : Below p w (w.setCell ⟨p, 1, none⟩ (.int .i64 (j : Int))) := (Below.refl _ _).setCell (p := ⟨p, 1, none⟩) (Nat.le_refl _) _
  exact ⟨(block_set h.box (i := 1) _).trans rfl, h.sl.below hb, h.szs, h.nl, h.tl, hj, h.mp, h.mx.keep hb h.mp⟩
/-- Line k. -/
theorem Src.line (h : Src p A n c L t k w) (hk : k < n) : ∃ bb oo x, A = some ⟨bb, oo, none⟩ ∧ L[k]? = some x ∧ x.size ≤ 1000000 ∧ w.cell? ⟨bb, oo + k, none⟩ = some (.string x) := by
  obtain ⟨bb, oo, x, e, _, hx, hc⟩ := h.sl.at_ hk
  refine ⟨bb, oo, x, e, hx, h.szs x (List.mem_of_getElem? hx), ?_⟩
  have := hc 0 _ rfl
  simpa using this
end
/-- Whether line k is there, with this beginning. -/
def begK (L : List ByteArray) (k : Nat) (pre : ByteArray) : Bool := match L[k]? with
  | none => false
  | some x => Lib.hasPrefix x.data.toList pre.data.toList
theorem begK_some {L : List ByteArray} {k : Nat} {pre : ByteArray} (h : begK L k pre = true) : ∃ x, L[k]? = some x ∧ Lib.hasPrefix x.data.toList pre.data.toList = true := by
  unfold begK at h
  cases hx : L[k]? with
  | none => rw [hx] at h; cases h
  | some x => rw [hx] at h; exact ⟨x, rfl, h⟩
theorem len_size' (x : ByteArray) : x.data.toList.length = x.size := by rw [Array.length_toList]; rfl
theorem pre_size {x pre : ByteArray} (h : Lib.hasPrefix x.data.toList pre.data.toList = true) : pre.size ≤ x.size := by
  unfold Lib.hasPrefix at h
  have := (List.isPrefixOf_iff_prefix.1 h).length_le
  rw [len_size', len_size'] at this
  exact this
def lineR (L : List ByteArray) (k : Nat) (pre : ByteArray) : ByteArray := match L[k]? with
  | none => ⟨#[]⟩
  | some x => x.extract pre.size x.size
set_option maxRecDepth 100000 in
set_option maxHeartbeats 4000000 in
theorem begins_any {p : Nat} {A : Option Addr} {n c : Nat} {L : List ByteArray} {t : ByteArray} {k : Nat} (pre : ByteArray) {w : World} (h : Src p A n c L t k w) :
    Calls Tryz.prog 38 #[.pointer (some ⟨p, 0, none⟩), .string pre] w fun e w' => e = .returned (.bool (begK L k pre)) ∧ Below w.heap.size w w' := by
  have x0 : w.cell? ⟨p, 0, none⟩ = some (.slice A n c) := (block_cell h.box 0).trans rfl
  have x1 : w.cell? ⟨p, 1, none⟩ = some (.int .i64 (k : Int)) := (block_cell h.box 1).trans rfl
  have hn := h.nl
  by_cases hk : k < n
  · obtain ⟨bb, oo, x, rfl, hx, hxs, c0⟩ := h.line hk
    have E := hide (show begK L k pre = Lib.hasPrefix x.data.toList pre.data.toList by unfold begK; rw [hx])
    have HP := hide (fun W => Tryz.strings_HasPrefix x pre W)
    obtain ⟨v, hv⟩ : ∃ v, Lib.hasPrefix x.data.toList pre.data.toList = v := ⟨_, rfl⟩
    rw [hv] at E HP
    clear hv hx h
    go_enter Tryz.func38, Tryz.ntmps38
    go_wp2_with (go_quiet ((go_at_call 34; exact Calls.quiet_of_same (HP.out _))))
    go_ret
    exact ⟨by rw [E.out]; rfl, below_drewN (Below.refl _ _) _⟩
  · have E := hide (show begK L k pre = false by unfold begK; rw [List.getElem?_eq_none (by have := h.sl.len; omega)])
    clear h
    go_enter Tryz.func38, Tryz.ntmps38
    go_wp2_with (go_quiet (fail))
    go_ret
    exact ⟨by rw [E.out]; rfl, below_drewN (Below.refl _ _) _⟩
/-- What next answers. -/
def NxOut (L : List ByteArray) (k : Nat) (pre : ByteArray) (e : Ending) : Prop := e = .returned (.tuple #[.string (if begK L k pre then lineR L k pre else ⟨#[]⟩), .bool (begK L k pre)])
def nextK (L : List ByteArray) (k : Nat) (pre : ByteArray) : Nat := if begK L k pre then k + 1 else k
set_option maxRecDepth 100000 in
set_option maxHeartbeats 4000000 in
theorem next_any {p : Nat} {A : Option Addr} {n c : Nat} {L : List ByteArray} {t : ByteArray} {k : Nat} (pre : ByteArray) {w : World} (h : Src p A n c L t k w) :
    Calls Tryz.prog 40 #[.pointer (some ⟨p, 0, none⟩), .string pre] w fun e w' => NxOut L k pre e ∧ Src p A n c L t (nextK L k pre) w' ∧ ButAt p w w' := by
  have hn := h.nl
  have HB := hide (begins_any pre h)
  have HH := hide h
  unfold NxOut nextK
  cases hb : begK L k pre
  · rw [hb] at HB
    clear h hb
    go_enter Tryz.func40, Tryz.ntmps40
    go_wp2_with (go_at_call 38; refine HB.out.mono ?_; rintro e w1 ⟨rfl, hw1⟩; have H1 := hide (HH.out.below hw1); have HBL := hide hw1; clear hw1)
    refine bodyPost_ret (by simp [results, Tryz.results40, go_sem]; try rfl) rfl ?_
    exact ⟨rfl, H1.out, ButAt.of_below HBL.out (Nat.le_of_lt HH.out.lt)⟩
  · obtain ⟨x, hx, hpx⟩ := begK_some hb
    rw [hb] at HB
    have hk : k < n := by have := (List.getElem?_eq_some_iff.1 hx).1; have := h.sl.len; omega
    have hps := pre_size hpx
    have hxs := h.szs x (List.mem_of_getElem? hx)
    have E := hide (show lineR L k pre = x.extract pre.size x.size by unfold lineR; rw [hx])
    have HLN := hide (show ∀ W, Src p A n c L t (k + 1) W → ∃ bb oo, A = some ⟨bb, oo, none⟩ ∧ W.cell? ⟨bb, oo + k, none⟩ = some (.string x) from fun W H => by
      obtain ⟨bb, oo, x', e, _, hx', hc⟩ := H.sl.at_ hk
      have h0 := hc 0 _ rfl
      rw [hx] at hx'
      obtain rfl := Option.some.inj hx'
      exact ⟨bb, oo, e, by simpa using h0⟩)
    clear h hb hx hpx
    have hps' : (pre.size : Int) ≤ (x.size : Int) := by omega
    go_enter Tryz.func40, Tryz.ntmps40
    go_wp2_with (first | (go_at_call 38; refine HB.out.mono ?_; rintro e w1 ⟨rfl, hw1⟩; have H1 := hide (HH.out.below hw1); have HBL := hide hw1; clear hw1; have f1 := block_free H1.out.box 1; have x1 : w1.cell? ⟨p, 1, none⟩ = some (.int .i64 (k : Int)) := (block_cell H1.out.box 1).trans rfl; have H2 := hide (H1.out.set (j := k + 1) (by omega) (u := (k : Int) + 1) (by omega)); obtain ⟨w2, hw2⟩ : ∃ w2, w1.setCell ⟨p, 1, none⟩ (.int .i64 ((k : Int) + 1)) = w2 := ⟨_, rfl⟩; have HB2 := hide (show ButAt p w w2 from hw2 ▸ (ButAt.of_below HBL.out (Nat.le_of_lt HH.out.lt)).trans (ButAt.set w1 1 (.int .i64 ((k : Int) + 1)))); rw [hw2] at H2; obtain ⟨bb, oo, hA, c0⟩ := HLN.out w2 H2.out; have y0 : w2.cell? ⟨p, 0, none⟩ = some (.slice A n c) := (block_cell H2.out.box 0).trans rfl; have y1 : w2.cell? ⟨p, 1, none⟩ = some (.int .i64 ((k : Int) + 1)) := (block_cell H2.out.box 1).trans (by simp); rw [hA] at y0; have HA := hide hA; clear hA) | go_quiet (fail))
    refine bodyPost_ret (by simp [results, Tryz.results40, go_sem]; try rfl) rfl ?_
    exact ⟨by rw [E.out] <;> rfl, H2.out.below (below_drewN (Below.refl _ _) _), HB2.out.trans (ButAt.of_below (below_drewN (Below.refl _ _) _) (Nat.le_of_lt H2.out.lt))⟩
end Go.Proofs.YtkjpojaanocfjaaGreatDoor
