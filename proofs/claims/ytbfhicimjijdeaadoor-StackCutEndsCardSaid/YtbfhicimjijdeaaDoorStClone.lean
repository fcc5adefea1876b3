/- Walks of slices.Clone, slices.Grow (of nil) and slices.Concat at frames. -/
import Derived.Test.YtbfhicimjijdeaaDoorStUnOk
import Derived.Lib.AppendZerosOnto
import Derived.Lib.SliceRun
namespace Go.Proofs.YtbfhicimjijdeaaDoor
open Go.RowKit Go.Joins
set_option linter.unusedVariables false
/-- A slice of frames is returned. -/
def Gives1 (L : List Frame) (W : World) (e : Ending) (w' : World) : Prop := ∃ A N c, e = .returned (.slice A N c) ∧ Sl w' w'.heap.size Frame.cs 6 A N L ∧ Below W.heap.size W w' ∧ N ≤ c
theorem Sl.news' {α : Type} {w : World} {B sz n : Nat} {f : α → List Value} {ad : Addr} {l : List α} (hf : ∀ a, (f a).length = sz) (h : Sl w B f sz (some ad) n l) : ∀ j u, (l.flatMap f)[j]? = some u → w.cell? (ad.add j) = some u := by
  rcases Nat.eq_zero_or_pos n with h0 | h0
  · have : l = [] := List.eq_nil_of_length_eq_zero (by rw [h.len]; exact h0)
    subst this
    intro j u hu
    simp at hu
  · obtain ⟨b, o, e, _⟩ := h.cells h0
    obtain rfl := Option.some.inj e
    exact Sl.news hf h
set_option maxRecDepth 100000 in
set_option maxHeartbeats 1000000 in
theorem Clone_any (A : Option Addr) (n c : Nat) (l : List Frame) (w : World) (hn : n ≤ 1000000) (hl : Sl w w.heap.size Frame.cs 6 A n l) :
    Calls Tryd.prog 36 #[.slice A n c] w (Gives1 l w) := by
  have HL := hide hl.len
  have q : ∀ (w : World) (a : Option Addr) (n c n' c' : Nat), (binOp .eql 30 (.slice a n c) (.slice none n' c')).run Tryd.prog w = .ok (.bool a.isNone) w := fun w a n c n' c' => Lib.run_eql_slice_nil w _ _ a n c n' c' Tryd.underlying30
  obtain ⟨i0, hi0, iz0, iz1, iz2⟩ := info_parts info_frame
  cases A with
  | none =>
    have h0 : n = 0 := by
      rcases Nat.eq_zero_or_pos n with h0 | h0
      · exact h0
      · obtain ⟨b, o, e, _⟩ := hl.cells h0; cases e
    subst h0
    obtain rfl : l = [] := List.eq_nil_of_length_eq_zero HL.out
    go_enter Tryd.func36, Tryd.ntmps36
    go_wp2_with (fail)
    go_ret
    exact ⟨none, 0, 0, rfl, Sl.nil _ _ _ _ _, Below.refl _ _, Nat.le_refl _⟩
  | some ad =>
    have hnew := hide (Sl.news' (f := Frame.cs) (sz := 6) (fun _ => rfl) (hl.up ((Below.refl _ _).alloc (Nat.le_refl _) (.cells #[] 39))))
    have hB : Below w.heap.size w (w.alloc (.cells #[] 39)) := (Below.refl _ _).alloc (Nat.le_refl _) _
    have HB := hide hB
    clear hB
    go_enter Tryd.func36, Tryd.ntmps36
    go_wp2_with (at_builtin; refine wpList_append_own _ rfl (.tmp 5) (.tmp 6) 30 rfl w.heap.size 39 i0 (.agg #[.string ByteArray.empty, .string ByteArray.empty, .string ByteArray.empty, .int .i64 0, .int .i64 0, .bool false]) 6 72 Tryd.underlying30 hi0 iz0 iz1 iz2 rfl (by decide) _ 0 _ (by rfl) (World.ownsRow_lit w #[] 0 (Nat.le_refl _) (Nat.zero_le _) rfl) ad n _ (l.flatMap Frame.cs) (by rfl) (by rw [flatMap_len (sz := 6) (fun _ => rfl), HL.out]) hnew.out (frames_cells _) (by unfold maxLen; omega) (by omega) HB.out.size ?_; intro v' w5 hown5 hg5 _; have hB5 : Below w.heap.size w w5 := Below.grown HB.out hg5 HB.out.size (fun j hj => by simp [Value.ownBlock] at hj; omega); clear hg5)
    go_ret
    have hown6 : w5.ownsRow w.heap.size 39 6 v' n (l.flatMap Frame.cs) := by simpa using hown5
    obtain ⟨A', c', rfl, hsl, hcc, _⟩ := sl_of_own (f := Frame.cs) (l := l) (fun _ => rfl) HL.out hown6
    exact ⟨A', n, c', rfl, hsl, hB5, hcc⟩
set_option maxRecDepth 100000 in
set_option maxHeartbeats 1000000 in
/-- Grow of nil: a row of one's own, of no element. -/
theorem Grow_nil (n : Nat) (w : World) (hn : n ≤ 1000000) :
    Calls Tryd.prog 54 #[.slice none 0 0, .int .i64 n] w fun e w' => ∃ v, e = .returned v ∧ w'.ownsRow w.heap.size 39 6 v 0 [] ∧ Below w.heap.size w w' := by
  obtain ⟨i0, hi0, iz0, iz1, iz2⟩ := info_parts info_frame
  rcases Nat.eq_zero_or_pos n with h0 | h0
  · subst h0
    go_enter Tryd.func54, Tryd.ntmps54
    go_wp2_with (fail)
    go_ret
    exact ⟨_, rfl, World.ownsRow_nil _ _ _ _, Below.refl _ _⟩
  · have hge := grownCap_ge w (0 + n) 0 39
    have hle := grownCap_le_maxLen w (0 + n) 0 39 (by unfold maxLen; omega)
    have hrun := fun ty => Lib.run_append_grow_zeros (P := Tryd.prog) w 30 3 ty 39 i0 _ .i64 .i64 Tryd.underlying30 Tryd.underlying3 hi0 iz0 none 0 0 [] (run_firstCells_none _ _ _ _ _) n h0 (by omega) (by omega) (by omega) (by rw [iz2]; omega) (growslice_fits (by omega) (by rw [iz2]; omega))
    obtain ⟨C, hC⟩ : ∃ C, grownCap w (0 + n) 0 39 = C := ⟨_, rfl⟩
    rw [hC] at hge hle hrun
    have hsz : (([] : List Value).toArray ++ Builtin.zeroCells (Value.agg #[.string ByteArray.empty, .string ByteArray.empty, .string ByteArray.empty, .int .i64 0, .int .i64 0, .bool false]).cells n ++ Builtin.zeroCells (Value.agg #[.string ByteArray.empty, .string ByteArray.empty, .string ByteArray.empty, .int .i64 0, .int .i64 0, .bool false]).cells (C - (0 + n))).size = C * 6 := by
      simp only [Array.size_append, List.size_toArray, List.length_nil, size_zeroCells]
      rw [show (Value.agg #[.string ByteArray.empty, .string ByteArray.empty, .string ByteArray.empty, .int .i64 0, .int .i64 0, .bool false]).cells.size = 6 from rfl]
      omega
    generalize (([] : List Value).toArray ++ Builtin.zeroCells (Value.agg #[.string ByteArray.empty, .string ByteArray.empty, .string ByteArray.empty, .int .i64 0, .int .i64 0, .bool false]).cells n ++ Builtin.zeroCells (Value.agg #[.string ByteArray.empty, .string ByteArray.empty, .string ByteArray.empty, .int .i64 0, .int .i64 0, .bool false]).cells (C - (0 + n))) = Z at hsz hrun
    have HSZ := hide hsz
    have HC := hide hC
    simp only [Nat.zero_add] at hrun hge
    have HR := hide hrun
    have hC63 : C ≤ 9223372036854775807 := by unfold maxLen at hle; omega
    have hn1 : (n : Int) ≤ 1000000 := by omega
    have hn2 : (0 : Int) < n := by omega
    clear hsz hC hrun
    go_enter Tryd.func54, Tryd.ntmps54
    go_wp2_with (at_builtin; refine Lib.wpList_append_run _ rfl _ _ _ _ rfl _ _ rfl rfl _ _ (HR.out _) ?_)
    go_ret
    refine ⟨_, rfl, ⟨rfl, .inr ⟨w.heap.size, C, Z, rfl, Nat.le_refl _, heap_alloc_new w.drew _, Nat.zero_le _, hle, HSZ.out, by simp⟩⟩, (Below.refl _ _).drew.alloc (Nat.le_refl _) _⟩
end Go.Proofs.YtbfhicimjijdeaaDoor
