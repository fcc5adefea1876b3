/- slices.Clone of quotas. -/
import Derived.Test.YtkoijhecahebgaaDoorGtL
import Derived.Test.YtkoijhecahebgaaDoorSlDrop
import Derived.Lib.SliceRun
namespace Go.Proofs.YtkoijhecahebgaaDoor
open Go.RowKit
set_option linter.unusedVariables false
set_option linter.unusedSimpArgs false
theorem info_quota : (Tryd.prog.info? 58).map (fun i => (i.zero, i.size, i.bytes)) = some (some (.agg #[.string ByteArray.empty, .string ByteArray.empty, .int .i64 0, .int .i64 0, .int .i64 0]), 5, 56) := by kernel_rfl
theorem qt_news {w : World} {B n : Nat} {ad : Addr} {l : List Qt} (h : Sl w B Qt.cs 5 (some ad) n l) : ∀ j u, (l.flatMap Qt.cs)[j]? = some u → w.cell? (ad.add j) = some u := by
  rcases Nat.eq_zero_or_pos n with h0 | h0
  · have : l = [] := List.eq_nil_of_length_eq_zero (by rw [h.len]; exact h0)
    subst this
    intro j u hu
    simp at hu
  · obtain ⟨b, o, e, _⟩ := h.cells h0
    obtain rfl := Option.some.inj e
    exact Sl.news (fun _ => rfl) h
theorem qt_one (l : List Qt) : ∀ u ∈ l.flatMap Qt.cs, u.oneCell' = true := by
  intro u hu
  obtain ⟨x, _, hx⟩ := List.mem_flatMap.1 hu
  simp [Qt.cs] at hx
  rcases hx with rfl | rfl | rfl | rfl | rfl <;> rfl
set_option maxRecDepth 100000 in
set_option maxHeartbeats 1000000 in
theorem CloneQt_any (A : Option Addr) (n c : Nat) (l : List Qt) (w : World) (hn : n ≤ 1000) (hl : Sl w w.heap.size Qt.cs 5 A n l) :
    Calls Tryd.prog 21 #[.slice A n c] w fun e w' => ∃ v, e = .returned v ∧ w'.ownsRow w.heap.size 58 5 v n (l.flatMap Qt.cs) ∧ Below w.heap.size w w' := by
  have HL := hide hl.len
  have q : ∀ (w : World) (a : Option Addr) (n c n' c' : Nat), (binOp .eql 22 (.slice a n c) (.slice none n' c')).run Tryd.prog w = .ok (.bool a.isNone) w := fun w a n c n' c' => Lib.run_eql_slice_nil w _ _ a n c n' c' Tryd.underlying22
  obtain ⟨i0, hi0, iz0, iz1, iz2⟩ := info_parts info_quota
  cases A with
  | none =>
    have h0 : n = 0 := by
      rcases Nat.eq_zero_or_pos n with h0 | h0
      · exact h0
      · obtain ⟨b, o, e, _⟩ := hl.cells h0; cases e
    subst h0
    obtain rfl : l = [] := List.eq_nil_of_length_eq_zero HL.out
    go_enter Tryd.func21, Tryd.ntmps21
    go_wp2_with (fail)
    go_ret
    exact ⟨_, rfl, World.ownsRow_nil _ _ _ _, Below.refl _ _⟩
  | some ad =>
    have hnew := hide (qt_news (Sl.up hl ((Below.refl _ _).alloc (Nat.le_refl _) (.cells #[] 58))))
    have hB : Below w.heap.size w (w.alloc (.cells #[] 58)) := (Below.refl _ _).alloc (Nat.le_refl _) _
    have HB := hide hB
    clear hB
    go_enter Tryd.func21, Tryd.ntmps21
    go_wp2_with (at_builtin; refine wpList_append_own _ rfl (.tmp 5) (.tmp 6) 22 rfl w.heap.size 58 i0 (.agg #[.string ByteArray.empty, .string ByteArray.empty, .int .i64 0, .int .i64 0, .int .i64 0]) 5 56 Tryd.underlying22 hi0 iz0 iz1 iz2 rfl (by decide) _ 0 _ (by rfl) (World.ownsRow_lit w #[] 0 (Nat.le_refl _) (Nat.zero_le _) rfl) ad n _ (l.flatMap Qt.cs) (by rfl) (by rw [flatMap_len (sz := 5) (fun _ => rfl), HL.out]) hnew.out (qt_one _) (by unfold maxLen; omega) (by omega) HB.out.size ?_; intro v' w5 hown5 hg5 _; have hB5 : Below w.heap.size w w5 := Below.grown HB.out hg5 HB.out.size (fun j hj => by simp [Value.ownBlock] at hj; omega); clear hg5)
    go_ret
    have hown6 : w5.ownsRow w.heap.size 58 5 v' n (l.flatMap Qt.cs) := by simpa using hown5
    exact ⟨v', rfl, hown6, hB5⟩
end Go.Proofs.YtkoijhecahebgaaDoor
