/- Walk of strconv.FormatUint at base 16. -/
import Derived.Test.YtomihkflhhhpjaaDoorDigs
import Derived.Test.YtomihkflhhhpjaaDoorFam
import Derived.Test.YtomihkflhhhpjaaDoorShelf
import Derived.BigQuiet
import Derived.Test.YtomihkflhhhpjaaDoorOwnMore
import Derived.Laws.IdiomStrings
import Derived.Laws.Bits64b
namespace Go.Proofs.YtomihkflhhhpjaaDoor
open Go.RowKit
set_option linter.unusedVariables false
theorem pow2_any (w : World) : Calls Tryd.prog 108 #[.int .i64 16] w fun e w' => e = .returned (.bool true) ∧ w = w' := by
  go_enter Tryd.func108, Tryd.ntmps108
  go_wp2_with (fail)
  go_ret
  exact ⟨rfl, rfl⟩
theorem tz64_any (w : World) (h : w.cell? ⟨9, 15, none⟩ = some (.int .u8 4)) : Calls Tryd.prog 130 #[.int .u64 16] w fun e w' => e = .returned (.int .i64 4) ∧ Below w.heap.size w w' := by
  have e1 : IntKind.u64.wrap (-16) = 18446744073709551600 := by decide +kernel
  have e2 : bits BinOp.and IntKind.u64 16 18446744073709551600 = 16 := by decide +kernel
  have e3 : IntKind.u64.wrap 4573923408821661840 = 4573923408821661840 := by decide +kernel
  go_enter Tryd.func130, Tryd.ntmps130
  go_wp2_with (fail)
  go_ret
  exact ⟨rfl, by first | exact Below.refl _ _ | exact below_drewN (Below.refl _ _) _ | exact (Below.refl _ _).drew⟩
theorem tz_any (w : World) (h : w.cell? ⟨9, 15, none⟩ = some (.int .u8 4)) : Calls Tryd.prog 109 #[.int .u64 16] w fun e w' => e = .returned (.int .i64 4) ∧ Below w.heap.size w w' := by
  have H := hide (tz64_any w h)
  go_enter Tryd.func109, Tryd.ntmps109
  go_wp2_with (go_at_call 130; refine H.out.mono ?_; rintro e w1 ⟨rfl, hB1⟩)
  go_ret
  exact ⟨rfl, hB1⟩
def dig36 : ByteArray := ⟨#[48, 49, 50, 51, 52, 53, 54, 55, 56, 57, 97, 98, 99, 100, 101, 102, 103, 104, 105, 106, 107, 108, 109, 110, 111, 112, 113, 114, 115, 116, 117, 118, 119, 120, 121, 122]⟩
theorem dig36_at : ∀ k, (h : k < 16) → dig36[k]'(Nat.lt_of_lt_of_le h (by decide)) = hexc k := by decide +kernel
theorem and15 (v : Nat) (hv : v < 18446744073709551616) : bits BinOp.and IntKind.u64 (v : Int) 15 = ((v % 16 : Nat) : Int) := by
  rw [show (15 : Int) = ((15 : Nat) : Int) from rfl, bits_and_u64_nat v 15 hv (by decide), show (15 : Nat) = 2 ^ 4 - 1 from rfl, Nat.and_two_pow_sub_one_eq_mod]
/-- The array of a number's digits, filled from i on. -/
def HexAt (w : World) (g i : Nat) (s : List UInt8) : Prop := ∃ arr : Array Value, w.heap[g]? = some (.cells arr 162 (0, 0)) ∧ arr.size = 65 ∧ arr.toList.drop i = s.map (fun c => Value.int .u8 c.toNat) ∧ i + s.length = 65
theorem drop_set {α : Type} (l : List α) (k : Nat) (x : α) (h : k < l.length) : (l.set k x).drop k = x :: l.drop (k + 1) := by
  rw [List.drop_eq_getElem_cons (by simpa using h)]
  congr 1
  · simp
  · apply List.ext_getElem?
    intro j
    rw [List.getElem?_drop, List.getElem?_drop, List.getElem?_set_ne (by omega)]
theorem HexAt.put {w : World} {g i : Nat} {s : List UInt8} (h : HexAt w g (i + 1) s) (c : UInt8) : HexAt (w.setCell ⟨g, i, none⟩ (.int .u8 c.toNat)) g i (c :: s) := by
  obtain ⟨arr, h1, h2, h3, h4⟩ := h
  refine ⟨arr.setIfInBounds i (.int .u8 c.toNat), block_set h1 _, by simp [h2], ?_, by simp; omega⟩
  rw [Array.toList_setIfInBounds, drop_set _ _ _ (by simp [h2]; omega), h3]
  rfl
theorem HexAt.below {w w' : World} {g i : Nat} {s : List UInt8} (h : HexAt w g i s) (hB : Below w.heap.size w w') : HexAt w' g i s := by
  obtain ⟨arr, h1, h2⟩ := h
  exact ⟨arr, block_below h1 hB, h2⟩
theorem HexAt.cell {w : World} {g i : Nat} {s : List UInt8} (h : HexAt w g i s) {j : Nat} (hj : j < 65) : (w.cell? ⟨g, j, none⟩).isSome = true ∧ w.frozen? ⟨g, j, none⟩ = false := by
  obtain ⟨arr, h1, h2, _⟩ := h
  exact ⟨by rw [block_cell h1]; simp [h2, hj], block_free h1 j⟩
theorem HexAt.text {w : World} {g i : Nat} {s : List UInt8} (h : HexAt w g i s) (cap : Nat) : (convert 59 9 (.slice (some ⟨g, i, none⟩) s.length cap)).run Tryd.prog w = .ok (.string ⟨s.toArray⟩) w := by
  obtain ⟨arr, h1, h2, h3, h4⟩ := h
  refine run_convert_bytes_back w 59 9 5 ⟨g, i, none⟩ cap s Tryd.underlying59 Tryd.underlying5 Tryd.underlying9 (fun j hj => ?_)
  have h5 : (arr.toList.drop i)[j]? = (s.map (fun c => Value.int .u8 c.toNat))[j]? := by rw [h3]
  rw [List.getElem?_drop, Array.getElem?_toList] at h5
  rw [show ((⟨g, i, none⟩ : Addr).add j) = ⟨g, i + j, none⟩ by unfold Addr.add; split <;> simp_all, block_cell h1, h5]
  simp [hj]
theorem slice65 (g k : Nat) (hk : k < 65) (w : World) : Sem.run Tryd.prog (Instr.sliceAt 162 (Value.pointer (some ⟨g, 0, none⟩)) (some (Value.int IntKind.i64 (k : Int))) none none) w = .ok (.slice (some ⟨g, k, none⟩) (65 - k) (65 - k)) w := by
  have ha : Tryd.prog.arrayLen 162 = 65 := by kernel_rfl
  have he : Tryd.prog.elem 162 = 5 := by kernel_rfl
  have h := run_sliceAt_array_l (P := Tryd.prog) w 162 ⟨g, 0, none⟩ (by rw [ha, he]; exact Tryd.underlying162) .i64 (k : Int) (by omega) (by rw [ha]; omega)
  refine h.trans ?_
  rw [ha, he]
  have hs : Sem.run Tryd.prog (sizeOf 5) w = .ok 1 w := Tryd.sizeOf5 w
  rw [hs]
  simp only [Result.andThen, slicedAt, Int.toNat_natCast]
  rw [if_neg (by omega)]
  simp [Addr.add]
  exact fun h => h.symm
set_option maxRecDepth 100000 in
set_option maxHeartbeats 4000000 in
theorem formatBits_any (u : Nat) (w : World) (hu : u < 18446744073709551616) (h : w.cell? ⟨9, 15, none⟩ = some (.int .u8 4)) (h3 : 9 < w.heap.size) :
    Calls Tryd.prog 87 #[.slice none 0 0, .int .u64 u, .int .i64 16, .bool false, .bool false] w fun e w' => e = .returned (.tuple #[.slice none 0 0, .string ⟨(digs 16 u).toArray⟩]) ∧ Below w.heap.size w w' := by
  have HB := hide (fun o : Obj => (Below.refl w.heap.size w).alloc (Nat.le_refl _) o)
  have HT := hide (fun o : Obj => tz_any (w.alloc o) (((HB.out o).cell (p := ⟨9, 15, none⟩) h3).trans h))
  go_enter Tryd.func87, Tryd.ntmps87
  go_wp2_with (first | (go_at_call 108; refine (pow2_any _).mono ?_; rintro e w1 ⟨rfl, rfl⟩) | (go_at_call 109; refine (HT.out _).mono ?_; rintro e w1 ⟨rfl, hw1⟩))
  obtain ⟨g, hg⟩ : ∃ g, w.heap.size = g := ⟨_, rfl⟩
  have hH0 : HexAt w1 g 65 [] := by
    refine HexAt.below ?_ hw1
    rw [← hg]
    exact ⟨Tryd.zeroCells162, heap_alloc_new w _, by decide +kernel, List.drop_eq_nil_of_le (by decide +kernel), rfl⟩
  have hB1 : Below w.heap.size w w1 := (HB.out _).trans (hw1.mono (by simp))
  have HH0 := hide hH0
  clear hw1 hH0
  rw [hg]
  go_loopw [1, 13] (fun a b wr => ∃ (v i : Nat) (s : List UInt8), a = .int .u64 v ∧ b = .int .i64 i ∧ v ≤ u ∧ HexAt wr g i s ∧ digs 16 v ++ s = digs 16 u ∧ Below w.heap.size w wr) (fun a _ _ => (intOf a).toNat)
  case atStart => exact ⟨u, 65, [], rfl, rfl, Nat.le_refl _, HH0.out, List.append_nil _, hB1⟩
  case round =>
    obtain ⟨v, i, s, rfl, rfl, hv, hx, heq, hB⟩ := hrel
    have hlen : (digs 16 u).length ≤ 16 := digs_len 16 (by decide) 16 u (Nat.lt_of_lt_of_le hu (by decide)) (by omega)
    have hil : i + s.length = 65 := by obtain ⟨_, _, _, _, h4⟩ := hx; exact h4
    have hd : 1 ≤ (digs 16 v).length := by
      by_cases hv16 : v < 16
      · rw [digs_small hv16]; simp
      · rw [digs_big (by omega) (by decide), List.length_append, List.length_singleton]; omega
    have hi2 : 2 ≤ i := by have := congrArg List.length heq; rw [List.length_append] at this; omega
    obtain ⟨k, rfl⟩ : ∃ k, i = k + 1 := ⟨i - 1, by omega⟩
    have HX := hide hx
    obtain ⟨x0, k1⟩ := Option.isSome_iff_exists.1 (hx.cell (j := k) (by omega)).1
    have k2 := (hx.cell (j := k) (by omega)).2
    have g1 : ((k + 1 : Nat) : Int) - 1 = (k : Int) := by omega
    obtain ⟨r, hr⟩ : ∃ r, v % 16 = r := ⟨_, rfl⟩
    have hr16 : r < 16 := by omega
    have e1 := and15 v (by omega)
    rw [hr] at e1
    have e2 := dig36_at r hr16
    unfold dig36 at e2
    obtain ⟨q, hq⟩ : ∃ q, v / 16 = q := ⟨_, rfl⟩
    have e3 : (v : Int) / 16 = (q : Int) := by omega
    clear hx hd hlen
    by_cases hv16 : v < 16
    · have hrv : r = v := by omega
      subst hrv
      have hvb : (r : Int) < (16 : Int) := by omega
      have HY := hide (HX.out.put (hexc r))
      have E := hide (show hexc r :: s = digs 16 u by rw [← heq, digs_small hv16]; rfl)
      have HC := hide (HY.out.text (65 - k))
      rw [show (hexc r :: s).length = 65 - k by simp; omega, E.out] at HC
      have k65 : k < 65 := by omega
      have HSL := fun W => slice65 g k k65 W
      have HCO := HC.out
      clear heq hq e3 e1 hr
      have hgw : w.heap.size ≤ g := by omega
      go_wp2_with (fail)
      go_ret2
      exact ⟨rfl, hg ▸ below_set hB hgw _⟩
    · have hvb : (16 : Int) ≤ (v : Int) := by omega
      have hq1 : q < v := by omega
      have HY := hide (HX.out.put (hexc r))
      have hdv := digs_big (b := 16) (u := v) (by omega) (by decide)
      rw [hq, hr] at hdv
      have E := hide (show digs 16 q ++ (hexc r :: s) = digs 16 u by rw [← heq, hdv]; simp)
      have hgw : w.heap.size ≤ g := by omega
      clear heq hq hr hdv
      go_wp2_with (fail)
      go_roundw
      case rel => exact ⟨q, k, hexc r :: s, rfl, rfl, by omega, HY.out, E.out, below_set hB hgw _⟩
      case measure => simp [intOf]; omega
set_option maxHeartbeats 1000000 in
theorem FormatUintI_any (u : Nat) (w : World) (hu : u < 18446744073709551616) (h : w.cell? ⟨9, 15, none⟩ = some (.int .u8 4)) (h3 : 9 < w.heap.size) :
    Calls Tryd.prog 67 #[.int .u64 u, .int .i64 16] w fun e w' => e = .returned (.string ⟨(digs 16 u).toArray⟩) ∧ Below w.heap.size w w' := by
  have H := hide (formatBits_any u w hu h h3)
  go_enter Tryd.func67, Tryd.ntmps67
  go_wp2_with (go_at_call 87; refine H.out.mono ?_; rintro e w1 ⟨rfl, hB1⟩)
  go_ret
  exact ⟨rfl, hB1⟩
/-- strconv.FormatUint at base 16. -/
theorem FormatUint_any (u : Nat) (w : World) (hu : u < 18446744073709551616) (h : w.cell? ⟨9, 15, none⟩ = some (.int .u8 4)) (h3 : 9 < w.heap.size) :
    Calls Tryd.prog 51 #[.int .u64 u, .int .i64 16] w fun e w' => e = .returned (.string ⟨(digs 16 u).toArray⟩) ∧ Below w.heap.size w w' := by
  have H := hide (FormatUintI_any u w hu h h3)
  go_enter Tryd.func51, Tryd.ntmps51
  go_wp2_with (go_at_call 67; refine H.out.mono ?_; rintro e w1 ⟨rfl, hB1⟩)
  go_ret
  exact ⟨rfl, hB1⟩
end Go.Proofs.YtomihkflhhhpjaaDoor
