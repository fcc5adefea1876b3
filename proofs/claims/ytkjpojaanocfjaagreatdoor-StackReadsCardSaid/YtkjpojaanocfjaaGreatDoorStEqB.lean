/- Walk of slices.Equal on frames, whatever they are. -/
import Derived.Test.YtkjpojaanocfjaaGreatDoorStEqu
import Derived.Test.YtkjpojaanocfjaaGreatDoorSlDrop
namespace Go.Proofs.YtkjpojaanocfjaaGreatDoor
open Go.RowKit
theorem bytes_beq (a b : ByteArray) : (a.toList == b.toList) = decide (a = b) := by
  rw [Bool.eq_iff_iff]
  simp only [beq_iff_eq, decide_eq_true_eq]
  constructor
  · intro h
    rw [ByteArray.toList_eq, ByteArray.toList_eq] at h
    obtain ⟨⟨x⟩⟩ := a
    obtain ⟨⟨y⟩⟩ := b
    simp only at h
    rw [h]
  · intro h; rw [h]
/-- Where two frames differ first. -/
theorem frame_first {x y : Frame} (h : x ≠ y) :
    ((x.mod.toList == y.mod.toList) = false) ∨
    ((x.mod.toList == y.mod.toList) = true ∧ (x.fn.toList == y.fn.toList) = false) ∨
    ((x.mod.toList == y.mod.toList) = true ∧ (x.fn.toList == y.fn.toList) = true ∧ (x.file.toList == y.file.toList) = false) ∨
    ((x.mod.toList == y.mod.toList) = true ∧ (x.fn.toList == y.fn.toList) = true ∧ (x.file.toList == y.file.toList) = true ∧ (x.line == y.line) = false) ∨
    ((x.mod.toList == y.mod.toList) = true ∧ (x.fn.toList == y.fn.toList) = true ∧ (x.file.toList == y.file.toList) = true ∧ (x.line == y.line) = true ∧ (x.addr == y.addr) = false) ∨
    ((x.mod.toList == y.mod.toList) = true ∧ (x.fn.toList == y.fn.toList) = true ∧ (x.file.toList == y.file.toList) = true ∧ (x.line == y.line) = true ∧ (x.addr == y.addr) = true ∧ (x.own == y.own) = false) := by
  obtain ⟨a, b, c, d, e, f⟩ := x
  obtain ⟨a', b', c', d', e', f'⟩ := y
  simp only [bytes_beq]
  simp only [ne_eq, Frame.mk.injEq] at h
  by_cases h1 : a = a' <;> by_cases h2 : b = b' <;> by_cases h3 : c = c' <;> by_cases h4 : d = d' <;> by_cases h5 : e = e' <;> by_cases h6 : f = f' <;> simp_all
theorem take_succ_ne {α : Type} {l l' : List α} {j : Nat} {x y : α} (hx : l[j]? = some x) (hy : l'[j]? = some y) (h : x ≠ y) : ¬ l = l' := by
  rintro rfl; rw [hx] at hy; exact h (Option.some.inj hy)
set_option maxRecDepth 100000 in
set_option maxHeartbeats 2000000 in
theorem Equal_any (A : Option Addr) (n c : Nat) (A' : Option Addr) (n' c' : Nat) (l l' : List Frame) (w : World) (hn : n ≤ maxLen) (hn' : n' ≤ maxLen) (hl : Sl w w.heap.size Frame.cs 6 A n l) (hl' : Sl w w.heap.size Frame.cs 6 A' n' l') :
    Calls Tryz.prog 20 #[.slice A n c, .slice A' n' c'] w fun e w' => e = .returned (.bool (decide (l = l'))) ∧ Below w.heap.size w w' := by
  have HN := hide hn
  have HN' := hide hn'
  unfold maxLen at hn hn'
  by_cases hnn : n = n'
  · subst hnn
    clear hn'
    have HL := hide hl.len
    have HL' := hide hl'.len
    go_enter Tryz.func20, Tryz.ntmps20
    go_wp2_with (fail)
    go_loopw [13] (fun i wr => ∃ j : Nat, j ≤ n ∧ i = .int .i64 j ∧ l.take j = l'.take j ∧ Below w.heap.size w wr) (fun i _ => n - (intOf i).toNat)
    case atStart => exact ⟨0, Nat.zero_le _, rfl, by simp, Below.refl _ _⟩
    case round =>
      obtain ⟨j, hj, rfl, htk, hB⟩ := hrel
      have HTK := hide htk
      clear htk
      by_cases hlt : j < n
      · obtain ⟨bb, oo, x, rfl, hbb, hx, hc⟩ := (hl.below hB).at_ hlt
        obtain ⟨bb', oo', x', rfl, hbb', hx', hc'⟩ := (hl'.below hB).at_ hlt
        have c0 := hc 0 _ rfl
        have c1 := hc 1 _ rfl
        have c2 := hc 2 _ rfl
        have c3 := hc 3 _ rfl
        have c4 := hc 4 _ rfl
        have c5 := hc 5 _ rfl
        have d0 := hc' 0 _ rfl
        have d1 := hc' 1 _ rfl
        have d2 := hc' 2 _ rfl
        have d3 := hc' 3 _ rfl
        have d4 := hc' 4 _ rfl
        have d5 := hc' 5 _ rfl
        simp only [Nat.add_zero] at c0 d0
        have HX := hide hx
        have HX' := hide hx'
        clear hc hc' hx hx'
        by_cases hxx : x = x'
        · subst hxx
          go_wp2_with (go_quiet (fail))
          go_roundw
          case rel => exact ⟨j + 1, by omega, by go_num, by rw [take_succ_get HX.out, take_succ_get HX'.out, HTK.out], by first | exact hB | exact below_drewN hB _⟩
          case measure => simp [intOf]; omega
        · have HNE := hide (show decide (l = l') = false by simpa using take_succ_ne HX.out HX'.out hxx)
          have HF := frame_first hxx
          clear hxx
          rcases HF with f0 | ⟨f0, f1⟩ | ⟨f0, f1, f2⟩ | ⟨f0, f1, f2, f3⟩ | ⟨f0, f1, f2, f3, f4⟩ | ⟨f0, f1, f2, f3, f4, f5⟩
          all_goals
            go_wp2_with (go_quiet (fail))
            go_ret
            exact ⟨by rw [HNE.out]; rfl, by first | exact hB | exact below_drewN hB _⟩
      · have HE := hide (show decide (l = l') = true by have h := HTK.out; rw [take_len l (by have := HL.out; omega), take_len l' (by have := HL'.out; omega)] at h; simpa using h)
        go_wp2_with (fail)
        go_ret
        exact ⟨by rw [HE.out]; rfl, hB⟩
  · have HNE := hide (show decide (l = l') = false by have h1 := hl.len; have h2 := hl'.len; simp; intro h; rw [h] at h1; omega)
    go_enter Tryz.func20, Tryz.ntmps20
    go_wp2_with (fail)
    go_ret
    exact ⟨by rw [HNE.out]; rfl, Below.refl _ _⟩
end Go.Proofs.YtkjpojaanocfjaaGreatDoor
