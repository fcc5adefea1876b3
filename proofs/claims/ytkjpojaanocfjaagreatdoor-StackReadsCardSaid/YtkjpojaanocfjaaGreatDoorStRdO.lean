/- What frameOf has in memory; plain law of "(file:line)" as the reference cuts it. -/
import Derived.Test.YtkjpojaanocfjaaGreatDoorStRdW
namespace Go.Proofs.YtkjpojaanocfjaaGreatDoor
open Go.RowKit
set_option linter.unusedVariables false
set_option linter.unusedSimpArgs false
/-- The frame's box (behind the answer's box), the words that are left. -/
structure FoI (A : Option Addr) (n : Nat) (ws : List ByteArray) (M F f : ByteArray) (l a : Int) (o : Bool) (w W : World) : Prop where
  box : W.heap[w.heap.size + 1]? = some (.cells #[.string M, .string F, .string f, .int .i64 l, .int .i64 a, .bool o] 43 (0, 0))
  res : W.heap[w.heap.size]? = some (.cells #[.string ⟨#[]⟩, .string ⟨#[]⟩, .string ⟨#[]⟩, .int .i64 0, .int .i64 0, .bool false] 43 (0, 0))
  be : Below w.heap.size w W
  sl : Sl W W.heap.size cs 1 A n ws
  apart : ∀ g o', A = some ⟨g, o', none⟩ → w.heap.size + 1 < g
  mx : Mx W
section
variable {n : Nat} {A : Option Addr} {ws : List ByteArray} {M F f : ByteArray} {l a : Int} {o : Bool} {w W W' : World}
theorem FoI.lt (h : FoI A n ws M F f l a o w W) : w.heap.size + 1 < W.heap.size := lt_of_block h.box
theorem FoI.below (h : FoI A n ws M F f l a o w W) (hb : Below W.heap.size W W') : FoI A n ws M F f l a o w W' :=
  ⟨block_below h.box hb, block_below h.res hb, h.be.trans (hb.mono h.be.size), h.sl.up hb, h.apart, h.mx.up hb (Nat.le_refl _)⟩
theorem FoI.set (h : FoI A n ws M F f l a o w W) (hm : Mx w) (i : Nat) (u : Value) {M' F' f' : ByteArray} {l' a' : Int} {o' : Bool}
    (e : (#[.string M, .string F, .string f, .int .i64 l, .int .i64 a, .bool o] : Array Value).setIfInBounds i u = #[.string M', .string F', .string f', .int .i64 l', .int .i64 a', .bool o']) : FoI A n ws M' F' f' l' a' o' w (W.setCell ⟨w.heap.size + 1, i, none⟩ u) := by
  have hbe : Below w.heap.size w (W.setCell ⟨w.heap.size + 1, i, none⟩ u) := h.be.setCell (p := ⟨w.heap.size + 1, i, none⟩) (Nat.le_succ _) u
  refine ⟨(block_set h.box (i := i) u).trans (by rw [e]), block_set_other h.res _ _ (by simp), hbe, ?_, h.apart, hm.up hbe (Nat.le_refl _)⟩
  have := sl_setB (b := w.heap.size + 1) h.sl (fun g o' e => by have := h.apart g o' e; omega) i u
  simpa using this
theorem FoI.drop {bb oo : Nat} {x : ByteArray} (h : FoI (some ⟨bb, oo, none⟩) (n + 1) (x :: ws) M F f l a o w W) : FoI (some ⟨bb, oo + 1, none⟩) n ws M F f l a o w W := by
  refine ⟨h.box, h.res, h.be, ?_, fun g o' e => h.apart g oo (by simp at e ⊢; exact e.1), h.mx⟩
  have := h.sl.drop (i := 1) (by omega)
  simpa using this
theorem FoI.words (h : FoI none 0 [] M F f l a o w W) (hb : Below W.heap.size W W') (hs : Sl W' W'.heap.size cs 1 (some ⟨W.heap.size, 0, none⟩) n ws) : FoI (some ⟨W.heap.size, 0, none⟩) n ws M F f l a o w W' := by
  have h' := h.below hb
  have hlt := h.lt
  exact ⟨h'.box, h'.res, h'.be, hs, fun g o' e => by simp at e; omega, h'.mx⟩
end
/-- The first box of frameOf. -/
theorem FoI.first {w w0 : World} {n : ByteArray} (hm : Mx w) (h : (w.alloc (.cells #[.string ⟨#[]⟩, .string ⟨#[]⟩, .string ⟨#[]⟩, .int .i64 0, .int .i64 0, .bool false] 43)).alloc (.cells #[.string ⟨#[]⟩, .string n, .string ⟨#[]⟩, .int .i64 0, .int .i64 (-1), .bool false] 43) = w0) : FoI none 0 [] ⟨#[]⟩ n ⟨#[]⟩ 0 (-1) false w w0 := by
  have hb : Below w.heap.size w w0 := h ▸ ((Below.refl _ _).alloc (Nat.le_refl _) _).alloc (by simp) _
  refine ⟨?_, ?_, hb, Sl.nil _ _ _ _ _, fun g o e => by simp at e, hm.up hb (Nat.le_refl _)⟩
  · have h1 := heap_alloc_new (w.alloc (.cells #[.string ⟨#[]⟩, .string ⟨#[]⟩, .string ⟨#[]⟩, .int .i64 0, .int .i64 0, .bool false] 43)) (.cells #[.string ⟨#[]⟩, .string n, .string ⟨#[]⟩, .int .i64 0, .int .i64 (-1), .bool false] 43)
    rw [h] at h1
    rw [← h1]
    congr 1
    simp
  · rw [← h]
    exact block_below (heap_alloc_new w _) ((Below.refl _ _).alloc (Nat.le_refl _) _)
theorem restB_list (x : ByteArray) : (restB x).data.toList = x.data.toList.drop 1 := Lib.extract_to_end x 1
theorem len_size (x : ByteArray) : x.data.toList.length = x.size := by rw [Array.length_toList]; rfl
theorem sfx_drop (x : ByteArray) (h : 2 ≤ x.size) : sfxK (restB x) = sfxK x := by
  unfold sfxK
  rw [restB_list]
  rw [← len_size] at h
  unfold Lib.hasSuffix
  cases hl : x.data.toList with
  | nil => rw [hl] at h; simp at h
  | cons a l =>
    cases l with
    | nil => rw [hl] at h; simp at h
    | cons b t =>
      rw [Bool.eq_iff_iff, List.isSuffixOf_iff_suffix, List.isSuffixOf_iff_suffix]
      show [41] <:+ b :: t ↔ _
      rw [List.suffix_cons_iff (l₂ := b :: t)]
      simp
theorem sfxS_mid (x : ByteArray) (h : 2 ≤ x.size) (hk : sfxK x = true) : sfxS (restB x) = x.extract 1 (x.size - 1) := by
  have h1 := (sfx_drop x h).trans hk
  have h2 : Lib.hasSuffix (restB x).data.toList [41] = true := h1
  unfold sfxS Lib.trimSuffix
  rw [if_pos h2, restB_list]
  apply ByteArray.ext
  apply Array.toList_inj.1
  rw [Lib.extract_data]
  simp
theorem fileK_short (x : ByteArray) (h : x.size ≤ 2) : fileK x = false := by
  unfold fileK
  cases hk : sfxK (restB x)
  · rfl
  · have h1 : (restB x).size ≤ 1 := by unfold restB; rw [ByteArray.size_extract]; omega
    have h2 : Lib.hasSuffix (restB x).data.toList [41] = true := hk
    have h3 : (sfxS (restB x)).size = 0 := by
      have : (sfxS (restB x)).size = (Lib.trimSuffix (restB x).data.toList [41]).length := rfl
      rw [this]
      unfold Lib.trimSuffix
      rw [if_pos h2, List.length_take, len_size]
      simp
      omega
    have h4 := (cut_size (sfxS (restB x)) 58).1
    have h5 : emptyB (cutL (sfxS (restB x)) 58) = true := by
      unfold emptyB
      rw [ByteArray.toList_eq, List.isEmpty_iff, ← List.length_eq_zero_iff, len_size]
      omega
    rw [h5]; rfl
end Go.Proofs.YtkjpojaanocfjaaGreatDoor
