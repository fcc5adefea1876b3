/- Walk of the reference's FitsIn (printed by gen_fi.py). -/
import Derived.Test.YtlanlglieeaegaaDoorGrFits
import Derived.Test.YtlanlglieeaegaaDoorOwnMore
import Derived.OwnWalk
import Derived.Test.YtlanlglieeaegaaDoorStillQ
namespace Go.Proofs.YtlanlglieeaegaaDoor
open Go.RowKit
set_option linter.unusedVariables false
theorem info_bool : (Tryd.prog.info? 4).map (fun i => (i.zero, i.size, i.bytes)) = some (some (.bool false), 1, 1) := by kernel_rfl
theorem own_block {w : World} {base sz n g : Nat} {e : TypeId} {xs : List Value} (h : w.ownsRow base e sz (.slice (some ⟨g, 0, none⟩) n n) n xs) : w.heap[g]? = some (.cells xs.toArray e (0, 0)) ∧ base ≤ g := by
  rcases h.2 with ⟨h0, _⟩ | ⟨g', cap, cur, h1, h2, h3, h4, h5, h6, h7⟩
  · cases h0
  · simp only [Value.slice.injEq, Option.some.injEq, Addr.mk.injEq, and_true, true_and] at h1
    obtain ⟨rfl, rfl⟩ := h1
    refine ⟨?_, h2⟩
    rw [h3, ← h7, ← h6, List.take_of_length_le (by simp)]
def boolRow (m : Nat) (f : Nat → Bool) : List Value := (List.range m).map fun j => .bool (f j)
theorem made_false (n : Nat) : (madeCells (Value.bool false).cells (n * 1)).toList = boolRow n fun _ => false := by
  rw [Nat.mul_one]
  refine (toList_madeCells_one _ _).trans ?_
  rw [boolRow]
  apply List.ext_getElem?
  intro j
  by_cases h : j < n <;> simp [h]
theorem boolRow_set (m : Nat) (f : Nat → Bool) (j : Nat) (v : Bool) : (boolRow m f).set j (.bool v) = boolRow m (fun s => if s = j then v else f s) := by
  apply List.ext_getElem?
  intro s
  rw [List.getElem?_set]
  by_cases hs : s < m
  · by_cases e : j = s
    · subst e; simp [boolRow, hs]
    · rw [if_neg e]; simp [boolRow, hs, show ¬ s = j from fun e2 => e e2.symm]
  · by_cases e : j = s
    · subst e; simp [boolRow, hs]
    · rw [if_neg e]; simp [boolRow, hs]
/-- A row of truth values of the call's own, in block g. -/
def RowAt (w : World) (g m : Nat) (f : Nat → Bool) : Prop := w.heap[g]? = some (.cells (boolRow m f).toArray 4 (0, 0))
section
variable {w w' : World} {g g' m j : Nat} {f f' : Nat → Bool}
theorem RowAt.cell (h : RowAt w g m f) (hj : j < m) : w.cell? ⟨g, j, none⟩ = some (.bool (f j)) := by rw [block_cell h]; simp [boolRow, hj]
theorem RowAt.free (h : RowAt w g m f) (j : Nat) : w.frozen? ⟨g, j, none⟩ = false := block_free h j
theorem RowAt.below (h : RowAt w g m f) (hB : Below w.heap.size w w') : RowAt w' g m f := block_below h hB
theorem RowAt.lt (h : RowAt w g m f) : g < w.heap.size := lt_of_block h
theorem RowAt.other (h : RowAt w g m f) (hne : g ≠ g') (u : Value) : RowAt (w.setCell ⟨g', j, none⟩ u) g m f := block_set_other h _ _ hne
theorem RowAt.congr (h : RowAt w g m f) (hf : ∀ j, j < m → f j = f' j) : RowAt w g m f' := by
  unfold RowAt at h ⊢
  rw [h]
  congr 2
  exact congrArg List.toArray (List.map_congr_left fun j hj => by rw [hf j (by simpa using hj)])
theorem RowAt.set (h : RowAt w g m f) (j : Nat) (v : Bool) : RowAt (w.setCell ⟨g, j, none⟩ (.bool v)) g m (fun s => if s = j then v else f s) := by
  have := block_set (i := j) h (.bool v)
  unfold RowAt
  rw [this, ← boolRow_set]
  simp
end
/-- What a row says: how far the string is fit by the first i bytes of the pattern. -/
def rowF (p s : List UInt8) (i n : Nat) : Bool := gm (p.take i) (s.take n)
/-- A row that is being made. -/
def part (F : Nat → Bool) (n j : Nat) : Bool := if j < n then F j else false
theorem part_step {F : Nat → Bool} {n : Nat} {v : Bool} (h : F n = v) (j : Nat) : (if j = n then v else part F n j) = part F (n + 1) j := by
  unfold part
  by_cases e : j = n
  · subst e; rw [if_pos rfl, if_pos (by omega), h]
  · rw [if_neg e]
    by_cases h2 : j < n
    · rw [if_pos h2, if_pos (by omega)]
    · rw [if_neg h2, if_neg (by omega)]
theorem take_at {l : List UInt8} {i : Nat} {c : UInt8} (h : l[i]? = some c) : l.take (i + 1) = l.take i ++ [c] := by
  obtain ⟨hi, rfl⟩ := List.getElem?_eq_some_iff.1 h
  exact List.take_succ_eq_append_getElem hi
theorem rowF_zero (p s : List UInt8) (n : Nat) (hn : n ≤ s.length) : (if n = 0 then true else false) = rowF p s 0 n := by
  cases n with
  | zero => rfl
  | succ n =>
    have : s.take (n + 1) ≠ [] := by intro h; have := congrArg List.length h; rw [List.length_take, List.length_nil] at this; omega
    rw [if_neg (by omega)]
    simp only [rowF, List.take_zero, gm]
    symm; simpa using this
theorem rowF_star0 {p s : List UInt8} {i : Nat} (hc : p[i]? = some 42) : rowF p s (i + 1) 0 = rowF p s i 0 := by
  simp only [rowF, List.take_zero, take_at hc, row_star_nil]
theorem rowF_star {p s : List UInt8} {i n : Nat} {d : UInt8} (hc : p[i]? = some 42) (hd : s[n]? = some d) : rowF p s (i + 1) (n + 1) = (rowF p s i (n + 1) || rowF p s (i + 1) n) := by
  simp only [rowF, take_at hc, take_at hd, row_star_snoc]
theorem rowF_lit0 {p s : List UInt8} {i : Nat} {c : UInt8} (hc : p[i]? = some c) (h : c ≠ 42) : rowF p s (i + 1) 0 = false := by
  simp only [rowF, List.take_zero, take_at hc, row_lit_nil h]
theorem rowF_lit {p s : List UInt8} {i n : Nat} {c d : UInt8} (hc : p[i]? = some c) (h : c ≠ 42) (hd : s[n]? = some d) : rowF p s (i + 1) (n + 1) = (rowF p s i n && (c == 63 || c == d)) := by
  simp only [rowF, take_at hc, take_at hd, row_lit_snoc h]
theorem rowF_star_true {p s : List UInt8} {i n : Nat} (hc : p[i]? = some 42) (hn : n ≤ s.length) (h : rowF p s i n = true) : rowF p s (i + 1) n = true := by
  cases n with
  | zero => rw [rowF_star0 hc, h]
  | succ n => rw [rowF_star (d := s[n]) hc (List.getElem?_eq_getElem (by omega)), h]; rfl
set_option maxRecDepth 100000 in
set_option maxHeartbeats 8000000 in
theorem FitsIn_any (p s : ByteArray) (w : World) (hs : s.size ≤ 281474976710000) :
    Calls Tryd.prog 6 #[.string p, .string s] w fun e w' => e = .returned (.bool (fitsB p s)) ∧ Below w.heap.size w w' := by
  by_cases hp : p.size ≤ 100
  · have hp1 : ¬ (100 : Int) < (p.size : Int) := by omega
    obtain ⟨i2, hi2, iz20, iz21, iz22⟩ := info_parts info_bool
    obtain ⟨m, hm⟩ : ∃ m : Nat, m = s.size + 1 := ⟨_, rfl⟩
    have e1 : (s.size : Int) + 1 = (m : Int) := by omega
    have hmb : m ≤ 281474976710656 := by omega
    have hm0 : 0 < m := by omega
    have HM := hide hm
    clear hm
    go_enter Tryd.func6, Tryd.ntmps6
    go_wp2_with (at_make; refine wpList_make_full _ (by rfl) _ _ 26 (by rfl) w.heap.size 4 i2 (.bool false) 1 Tryd.underlying26 hi2 iz20 iz21 .i64 .i64 _ _ m (by rfl) (by rfl) (by omega) (by omega) (by rw [iz22]; omega) (by unfold maxLen; omega) (Nat.le_refl _) ?_; intro w1 hown1 hg1; rw [made_false] at hown1; have hblk1 : RowAt w1 w.heap.size m (fun _ => false) := (own_block hown1).1; have hB1 : Below w.heap.size w w1 := Below.grown (Below.refl _ _) hg1 (Nat.le_refl _) (fun k hk => by cases hk); have k0 := hblk1.cell hm0; have k1 := hblk1.free 0; have HR0 := hide ((hblk1.set 0 true).congr fun j hj => rowF_zero p.data.toList s.data.toList j (by have := HM.out; simp; omega)); clear hown1 hg1 hblk1)
    have HB1 := hide (below_set hB1 (i := 0) (Nat.le_refl _) (.bool true))
    clear k0 k1 hB1
    generalize w1.setCell ⟨w.heap.size, 0, none⟩ (.bool true) = w2 at *
    go_loopw [5, 20] (fun a b wr => ∃ (i g : Nat), i ≤ p.size ∧ a = .slice (some ⟨g, 0, none⟩) m m ∧ b = .int .i64 i ∧ w.heap.size ≤ g ∧ RowAt wr g m (rowF p.data.toList s.data.toList i) ∧ Below w.heap.size w wr) (fun _ b _ => p.size - (intOf b).toNat)
    case atStart => exact ⟨0, _, Nat.zero_le _, rfl, rfl, Nat.le_refl _, HR0.out, HB1.out⟩
    case round =>
      obtain ⟨i, g, hi, rfl, rfl, hg, hrow, hB⟩ := hrel
      have HROW := hide hrow
      have hz := hB.size
      by_cases hlt : i < p.size
      · obtain ⟨c, hcc⟩ : ∃ c, p[i] = c := ⟨_, rfl⟩
        have hc := get_at p i hlt
        rw [hcc] at hc
        have HC := hide hc
        have HCC := hide hcc
        clear hrow hc hcc
        go_wp2_with (at_make; refine wpList_make_full _ (by rfl) _ _ 26 (by rfl) w.heap.size 4 i2 (.bool false) 1 Tryd.underlying26 hi2 iz20 iz21 .i64 .i64 _ _ m (by rfl) (by rfl) (by omega) (by omega) (by rw [iz22]; omega) (by unfold maxLen; omega) hz ?_; intro w3 hown3 hg3; rw [made_false] at hown3; have hblk3 : RowAt w3 wr.heap.size m (fun _ => false) := (own_block hown3).1; have hw3 : Below wr.heap.size wr w3 := Below.grown (Below.refl _ _) hg3 (Nat.le_refl _) (fun k hk => by cases hk); have HR3 := hide (HROW.out.below hw3); have HN3 := hide (hblk3.congr (f' := part (rowF p.data.toList s.data.toList (i + 1)) 0) fun j hj => (if_neg (Nat.not_lt_zero j)).symm); have HB3 := hide (hB.trans (hw3.mono hz)); clear hown3 hg3 hblk3 hw3)
        obtain ⟨h, hh⟩ : ∃ h, wr.heap.size = h := ⟨_, rfl⟩
        have hne : g ≠ h := by have := HROW.out.lt; omega
        have hzh : w.heap.size ≤ h := by omega
        rw [hh] at HN3 ⊢
        obtain ⟨wo, rfl⟩ : ∃ wo : World, wo = wr := ⟨_, rfl⟩
        go_loopw [30] (fun b wr => ∃ n : Nat, n ≤ m ∧ b = .int .i64 n ∧ RowAt wr g m (rowF p.data.toList s.data.toList i) ∧ RowAt wr h m (part (rowF p.data.toList s.data.toList (i + 1)) n) ∧ Below w.heap.size w wr) (fun b _ => m - (intOf b).toNat)
        case atStart => exact ⟨0, Nat.zero_le _, rfl, HR3.out, HN3.out, HB3.out⟩
        case round =>
          obtain ⟨n, hn, rfl, hr1, hr2, hB4⟩ := hrel
          have HR1 := hide hr1
          have HR2 := hide hr2
          have hz4 := hB4.size
          clear hr1 hr2
          by_cases hnm : n < m
          · have k0 := HR1.out.cell hnm
            have k1 := HR2.out.free n
            have k2 := HR2.out.cell hnm
            have l1 := HR1.out.lt
            have l2 := HR2.out.lt
            by_cases h42 : c = 42
            · have t1 : (p[i].toNat : Int) = 42 := by rw [HCC.out, h42]; rfl
              cases hF : rowF p.data.toList s.data.toList i n
              · rw [hF] at k0
                cases n with
                | zero =>
                  have V := hide (show rowF p.data.toList s.data.toList (i + 1) 0 = false by rw [rowF_star0 (h42 ▸ HC.out), hF])
                  clear hF
                  go_wp2_with (fail)
                  go_roundw
                  case rel => exact ⟨0 + 1, by omega, by go_num, HR1.out.other hne _, (HR2.out.set 0 false).congr fun j _ => part_step V.out j, below_set hB4 hzh _⟩
                  case measure => simp [intOf]; omega
                | succ n =>
                  have hnm' : n < m := by omega
                  have k3 := HR2.out.cell hnm'
                  rw [show part (rowF p.data.toList s.data.toList (i + 1)) (n + 1) n = rowF p.data.toList s.data.toList (i + 1) n from if_pos (by omega)] at k3
                  obtain ⟨x, hx⟩ : ∃ x, rowF p.data.toList s.data.toList (i + 1) n = x := ⟨_, rfl⟩
                  rw [hx] at k3
                  have V := hide (show rowF p.data.toList s.data.toList (i + 1) (n + 1) = x by rw [rowF_star (h42 ▸ HC.out) (get_at s n (by have := HM.out; omega)), hF, hx]; rfl)
                  clear hF hx
                  go_wp2_with (fail)
                  go_roundw
                  case rel => exact ⟨(n + 1) + 1, by omega, by go_num, HR1.out.other hne _, (HR2.out.set (n + 1) x).congr fun j _ => part_step V.out j, below_set hB4 hzh _⟩
                  case measure => simp [intOf]; omega
              · rw [hF] at k0
                have V := hide (rowF_star_true (h42 ▸ HC.out) (by have := HM.out; simp; omega) hF)
                clear hF
                go_wp2_with (fail)
                go_roundw
                case rel => exact ⟨n + 1, by omega, by go_num, HR1.out.other hne _, (HR2.out.set n true).congr fun j _ => part_step V.out j, below_set hB4 hzh _⟩
                case measure => simp [intOf]; omega
            · have t1 : ¬ (p[i].toNat : Int) = 42 := by rw [HCC.out]; exact u8_ne h42
              cases n with
              | zero =>
                have V := hide (show rowF p.data.toList s.data.toList (i + 1) 0 = false from rowF_lit0 HC.out h42)
                go_wp2_with (fail)
                refine wp_region_still_tail 28 (by kernel_rfl) (by kernel_rfl) ?_; simp only [List.take_succ_cons, List.take_zero, List.drop_succ_cons, List.drop_zero]; change wpStill _ _ wr.drew _ _ _; refine wpStill_of_quiet _ _ ?_; (repeat (go_big_quiet_step (fail))); refine wpQuiet_nil ?_; change wpList _ _ _ _ _ wr.drew
                go_wp2_with (fail)
                go_roundw
                case rel => exact ⟨0 + 1, by omega, by go_num, (HR1.out.other hne _).below ((Below.refl _ _).drew), ((HR2.out.set 0 false).congr fun j _ => part_step V.out j).below ((Below.refl _ _).drew), (below_set hB4 hzh _).drew⟩
                case measure => simp [intOf]; omega
              | succ n =>
                have hnm' : n < m := by omega
                have hns : n < s.size := by have := HM.out; omega
                have k3 := HR1.out.cell hnm'
                have g1 : ((n + 1 : Nat) : Int) - 1 = (n : Int) := by omega
                have hv := rowF_lit HC.out h42 (get_at s n hns)
                cases hF : rowF p.data.toList s.data.toList i n
                · rw [hF] at k3 hv
                  have V := hide (show rowF p.data.toList s.data.toList (i + 1) (n + 1) = false from hv)
                  clear hv hF
                  go_wp2_with (fail)
                  refine wp_region_still_tail 28 (by kernel_rfl) (by kernel_rfl) ?_; simp only [List.take_succ_cons, List.take_zero, List.drop_succ_cons, List.drop_zero]; change wpStill _ _ wr.drew _ _ _; refine wpStill_of_quiet _ _ ?_; (repeat (go_big_quiet_step (fail))); refine wpQuiet_nil ?_; change wpList _ _ _ _ _ wr.drew
                  go_wp2_with (fail)
                  go_roundw
                  case rel => exact ⟨(n + 1) + 1, by omega, by go_num, (HR1.out.other hne _).below ((Below.refl _ _).drew), ((HR2.out.set (n + 1) false).congr fun j _ => part_step V.out j).below ((Below.refl _ _).drew), (below_set hB4 hzh _).drew⟩
                  case measure => simp [intOf]; omega
                · rw [hF] at k3 hv
                  rw [Bool.true_and] at hv
                  by_cases h63 : c = 63
                  · have V := hide (show rowF p.data.toList s.data.toList (i + 1) (n + 1) = true by rw [hv, h63]; rfl)
                    have t2 : (p[i].toNat : Int) = 63 := by rw [HCC.out, h63]; rfl
                    clear hv hF
                    go_wp2_with (fail)
                    refine wp_region_still_tail 28 (by kernel_rfl) (by kernel_rfl) ?_; simp only [List.take_succ_cons, List.take_zero, List.drop_succ_cons, List.drop_zero]; change wpStill _ _ wr.drew _ _ _; refine wpStill_of_quiet _ _ ?_; (repeat (go_big_quiet_step (fail))); refine wpQuiet_nil ?_; change wpList _ _ _ _ _ wr.drew
                    go_wp2_with (fail)
                    go_roundw
                    case rel => exact ⟨(n + 1) + 1, by omega, by go_num, (HR1.out.other hne _).below ((Below.refl _ _).drew), ((HR2.out.set (n + 1) true).congr fun j _ => part_step V.out j).below ((Below.refl _ _).drew), (below_set hB4 hzh _).drew⟩
                    case measure => simp [intOf]; omega
                  · have t2 : ¬ (p[i].toNat : Int) = 63 := by rw [HCC.out]; exact u8_ne h63
                    have t2b : ((p[i].toNat : Int) == 63) = false := by simpa using t2
                    by_cases he : c = s[n]
                    · have V := hide (show rowF p.data.toList s.data.toList (i + 1) (n + 1) = true by rw [hv, he]; simp)
                      have t3 : (p[i].toNat : Int) = (s[n].toNat : Int) := by rw [HCC.out, he]
                      have t4 : ¬ (s[n].toNat : Int) = 42 := by rw [← t3]; exact t1
                      have t5 : ¬ (s[n].toNat : Int) = 63 := by rw [← t3]; exact t2
                      have t5b : ((s[n].toNat : Int) == 63) = false := by simpa using t5
                      clear hv hF
                      go_wp2_with (fail)
                      refine wp_region_still_tail 28 (by kernel_rfl) (by kernel_rfl) ?_; simp only [List.take_succ_cons, List.take_zero, List.drop_succ_cons, List.drop_zero]; change wpStill _ _ wr.drew _ _ _; refine wpStill_of_quiet _ _ ?_; (repeat (go_big_quiet_step (fail))); refine wpQuiet_nil ?_; change wpList _ _ _ _ _ wr.drew
                      go_wp2_with (fail)
                      go_roundw
                      case rel => exact ⟨(n + 1) + 1, by omega, by go_num, (HR1.out.other hne _).below ((Below.refl _ _).drew), ((HR2.out.set (n + 1) true).congr fun j _ => part_step V.out j).below ((Below.refl _ _).drew), (below_set hB4 hzh _).drew⟩
                      case measure => simp [intOf]; omega
                    · have V := hide (show rowF p.data.toList s.data.toList (i + 1) (n + 1) = false by rw [hv]; simp [h63, he])
                      have t3 : ¬ (p[i].toNat : Int) = (s[n].toNat : Int) := by rw [HCC.out]; exact u8_ne he
                      have t3' : ((p[i].toNat : Int) == (s[n].toNat : Int)) = false := by simpa using t3
                      clear hv hF
                      go_wp2_with (fail)
                      refine wp_region_still_tail 28 (by kernel_rfl) (by kernel_rfl) ?_; simp only [List.take_succ_cons, List.take_zero, List.drop_succ_cons, List.drop_zero]; change wpStill _ _ wr.drew _ _ _; refine wpStill_of_quiet _ _ ?_; (repeat (go_big_quiet_step (fail))); refine wpQuiet_nil ?_; change wpList _ _ _ _ _ wr.drew
                      go_wp2_with (fail)
                      go_roundw
                      case rel => exact ⟨(n + 1) + 1, by omega, by go_num, (HR1.out.other hne _).below ((Below.refl _ _).drew), ((HR2.out.set (n + 1) false).congr fun j _ => part_step V.out j).below ((Below.refl _ _).drew), (below_set hB4 hzh _).drew⟩
                      case measure => simp [intOf]; omega
          · have HN4 := hide (HR2.out.congr (f' := rowF p.data.toList s.data.toList (i + 1)) fun j hj => if_pos (by omega))
            go_wp2_with (fail)
            go_roundw
            case rel => exact ⟨i + 1, h, by omega, rfl, by go_num, hzh, HN4.out, hB4⟩
            case measure => simp [intOf]; omega
      · obtain rfl : i = p.size := by omega
        have hm1 : s.size < m := by have := HM.out; omega
        have k0 := HROW.out.cell hm1
        have e3 : rowF p.data.toList s.data.toList p.size s.size = fitsB p s := by
          rw [rowF, fitsB, decide_eq_true hp, Bool.true_and, List.take_of_length_le (by simp), List.take_of_length_le (by simp)]
        rw [e3] at k0
        clear hrow e3
        go_wp2_with (fail)
        go_ret
        exact ⟨rfl, hB⟩
  · have hp1 : (100 : Int) < (p.size : Int) := by omega
    have E := hide (show fitsB p s = false by rw [fitsB, decide_eq_false hp]; rfl)
    go_enter Tryd.func6, Tryd.ntmps6
    go_wp2_with (fail)
    go_ret
    exact ⟨by rw [E.out]; rfl, Below.refl _ _⟩
end Go.Proofs.YtlanlglieeaegaaDoor
